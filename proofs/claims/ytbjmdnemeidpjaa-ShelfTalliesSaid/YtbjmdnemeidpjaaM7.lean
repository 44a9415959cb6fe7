/- Parts Hf, Ht, Hq, CeC, SafeAdd, CeD, CeE, CeF, CeG, CeH of the proof, put together. -/
import Derived.Test.YtbjmdnemeidpjaaM6
import Derived.TacticsIn
import Derived.OrdersIn
import Derived.Test.YtbjmdnemeidpjaaProg
/- Full: the buckets that are not empty, in order. -/
namespace Go.Proofs.Ytbjmdnemeidpjaa
set_option linter.unusedSimpArgs false
set_option linter.unusedVariables false
open Go.RowKit
set_option maxRecDepth 100000
/-- From the bucket y on the next one that is not empty is b. -/
def NxF (l : List Int) (y b : Nat) (v : Int) (y' : Nat) : Prop := y ≤ b ∧ b < 65 ∧ l[b]? = some v ∧ v ≠ 0 ∧ (∀ j, y ≤ j → j < b → l[j]? = some 0) ∧ y' = b + 1
def FinF (l : List Int) (y : Nat) : Prop := y ≤ 65 ∧ ∀ j, y ≤ j → j < 65 → l[j]? = some 0
theorem sees_row {l : List Int} {Lc : List AObj} {i : Nat} (hi : Lc[i]? = some (.row (hR l))) {us vs : List Value} {ρ0 : Nat → Option Value} {w : World}
    (h : ∃ F ρ H, Env F ρ H w ∧ (∀ (i : Nat) o, Lc[i]? = some o → o.live = true → H i = some o ∧ ∃ h, ρ0 i = some h ∧ ρ i = some h) ∧ RAs w F ρ [] us ∧ RAs w F ρ [.ptr i 0] vs) :
    us = [] ∧ ∃ b t, vs = [.pointer (some ⟨b, 0, none⟩)] ∧ Blk w b t (hc l) := by
  obtain ⟨F, ρ, H, E, ho, h1, h2⟩ := h
  cases h1
  refine ⟨rfl, ?_⟩
  obtain ⟨v, rfl, hv⟩ := h2.one_out
  cases hv with | @ptr _ _ b hρ =>
  obtain ⟨hHi, hh, e1, e2⟩ := ho i _ hi rfl
  obtain ⟨h', e3, ⟨b', t, vs, rfl, hB, hR'⟩, _⟩ := E.rep i _ hHi rfl
  rw [hρ] at e3; injection e3 with e3; injection e3 with e3; injection e3 with e3; injection e3 with e3
  subst e3
  have := (hR_flat l).eq hR'
  have hv : vs = hc l := by
    apply Array.ext'
    rw [this]; rfl
  subst hv
  exact ⟨b, t, rfl, hB⟩
theorem wpListIn_load_blk2 {P : Program} {F : Fence} {n : Nat} {w : World} {ops : Array Oper} {rest : List Oper} {op : Oper} {a : Act} {Q : Exit → Act → World → Prop} (hgd : op.guard = none) (t t' : TypeId) (x : Operand) (ho : op.op = .load t x)
    (b : Nat) (hx : a.eval x = .pointer (some ⟨b, 0, none⟩)) (cs : Array Value) (d : TypeDesc) (hB : Blk w b t' cs)
    (hu : P.underlying t = some d) (hd : d.isRow = true) (hi : (P.info? t).map (·.size) = some cs.size)
    (h : wpListIn F n P ops Q rest (a.put op.dst (.agg cs)) w) : wpListIn F n P ops Q (op :: rest) a w :=
  wpListIn_plain hgd fun _ hK => by
    refine ⟨fun f hf => by simp [Oper.about, ho] at hf, ?_⟩
    rw [Oper.semAt_eq _ _ _ (fun c h => by rw [ho] at h; cases h)]
    unfold execOp
    have hr : (loadVar t ⟨b, 0, none⟩).run P w = .ok (.agg cs) w := run_loadVar_row w b t' t cs (0, 0) d hB hu (by cases d <;> simp_all) hi
    simp only [ho, hx, Instr.loadAt, Instr.sureAddr, Sem.run_bind, Sem.run_pure, Result.andThen_ok, hr]
    exact hK _ _ h
attribute [local go_sem] Oper.semAt_some
set_option maxHeartbeats 1000000 in
theorem fullN {l : List Int} (hl : l.length = 65) {Lc : List AObj} {i : Nat} (hi : Lc[i]? = some (.row (hR l))) :
    IterN Try.prog 80 [] [.ptr i 0] Lc 0 (fun y x y' => ∃ b v, NxF l y b v y' ∧ x = [iA (b : Nat), iA v]) (FinF l) := by
  intro us vs lp ρ0
  refine ⟨fun y vals y' => ∃ b v, NxF l y b v y' ∧ vals = [.int .i64 (b : Nat), .int .i64 v], fun y vals y' h => ?_, ?_⟩
  · obtain ⟨b, v, h, rfl⟩ := h
    exact ⟨_, ⟨b, v, h, rfl⟩, fun w F ρ => .cons (.d (.v _)) (.cons (.d (.v _)) .nil)⟩
  intro J Jx hJ hN hNx hY O w h0
  obtain ⟨rfl, g, t, rfl, hB⟩ := sees_row hi (hJ 0 O w h0).1
  have H9 := hide hl
  have HB := hide hB
  clear hJ hN hNx hB hi
  refine (callsIn_wide (n := 1)).1 (callsIn_of_wp Try.func80 rfl trivial ?_ rfl)
  simp only [Try.ntmps80, List.size_toArray, List.length_cons, List.length_nil, Nat.reduceAdd, Nat.reduceSub, Array.replicate_succ, Array.replicate_zero, List.push_toArray, List.append_toArray, List.nil_append, List.cons_append]
  gi_wp2_with (refine wpListIn_load_blk2 rfl 27 t (.tmp 1) rfl g rfl (hc l) _ HB.out Try.underlying27 rfl (info69l H9.out) ?_)
  gi_loopw [3, 4, 6] (fun _ _ i wr => ∃ (k y : Nat) (O : Nat → Prop), k ≤ 65 ∧ y ≤ k ∧ (∀ j, y ≤ j → j < k → l[j]? = some 0) ∧ i = .int .i64 k ∧ J y O wr) (fun _ _ i _ => 65 - (intOf i).toNat)
  case atStart => exact ⟨0, 0, O, by omega, by omega, fun j h1 h2 => by omega, rfl, h0⟩
  case round =>
    obtain ⟨k, y, O1, hk, hyk, hz, rfl, hJ⟩ := hrel
    have HZ := hide hz
    clear hz
    by_cases hk1 : k < 65
    · obtain ⟨x, hx⟩ : ∃ x, l[k]? = some x := ⟨l[k]'(by have := H9.out; omega), List.getElem?_eq_getElem _⟩
      have hix := fun w => index_h l k x w hk1 hx
      by_cases h0 : x = 0
      · subst h0
        have HX := hide hx
        clear hx
        gi_wp2
        refine ⟨fun _ h => (by cases h), ?_⟩
        gi_wp2
        go_roundw
        case rel => exact ⟨k + 1, y, O1, by omega, by omega, fun j h1 h2 => by
                      rcases Nat.lt_or_ge j k with q | q
                      · exact HZ.out j h1 q
                      · rw [show j = k by omega]; exact HX.out, by go_num, hJ⟩
        case measure => simp [intOf]; omega
      · have hne : (x != 0) = true := by simpa using h0
        have HNx := hide (show NxF l y k x (k + 1) from ⟨hyk, hk1, hx, h0, HZ.out, rfl⟩)
        obtain ⟨fn, tmps, assign, body, hy, hR⟩ := hY y O1 _ _ (k + 1) ⟨k, x, HNx.out, rfl⟩ hJ
        clear hx hJ h0
        gi_wp2
        refine hR.mono ?_
        rintro e W3 ⟨O', hfar, hO', ⟨rfl, hJ3⟩ | ⟨rfl, hJx3⟩⟩
        · clear hR hy hfar
          gi_wp2
          go_roundw
          case rel => exact ⟨k + 1, k + 1, O', by omega, by omega, fun j h1 h2 => by omega, by go_num, hJ3⟩
          case measure => simp [intOf]; omega
        · clear hR hy hfar
          gi_wp2
          refine bodyPost_ret (results_none rfl _ _ _) rfl ?_
          exact ⟨⟨_, rfl⟩, _, .inr hJx3⟩
    · obtain rfl : k = 65 := by omega
      gi_wp2
      go_end0
      exact ⟨⟨_, rfl⟩, O1, .inl ⟨y, ⟨hyk, HZ.out⟩, hJ⟩⟩
end Go.Proofs.Ytbjmdnemeidpjaa
/- HistCounts, its law: every Of, Add and Merge is answered as the document says. -/
namespace Go.Proofs.Ytbjmdnemeidpjaa
set_option linter.unusedSimpArgs false
set_option linter.unusedVariables false
open Go.RowKit
set_option maxRecDepth 100000
section
variable {L : List AObj} {ty n : Nat} {x y : Operand} {t' : TypeId}
end
theorem s69 : (tiOf Try.prog 27).size = 65 := by kernel_rfl
theorem flat_hR : ∀ (l : List Int), flatDs (hR l) = true
  | [] => by simp [flatDs]
  | z :: l => by
    show flatDs (iD z :: hR l) = true
    rw [flatDs, flat_hR l]; rfl
theorem z69 : List.map D.v (tiOf Try.prog 27).zero = hR z65 := by kernel_rfl
theorem fit69 {l : List Int} (h : l.length = 65) : 0 + (hR l).length ≤ (List.map D.v (tiOf Try.prog 27).zero).length := by rw [z69]; exact sets_fit z65_len h
theorem set69 {l : List Int} (h : l.length = 65) : sets (List.map D.v (tiOf Try.prog 27).zero) 0 (hR l) = hR l := by rw [z69]; exact rows_whole z65_len h
/-! ### the arguments -/
theorem ty_long1 {P : Program} {m : Nat} {t : TypeId} {ds : List D} (h : Ty P (m + 1) t ds) (hu : P.underlying t = some (.int .i64)) : ∃ z, ds = [iD z] ∧ in64 z := by
  have h : TyB (Ty P m) P t ds := h
  unfold TyB at h
  rw [hu] at h
  obtain ⟨z, h1, h2⟩ := h
  exact ⟨z, h1, wf_i64 h2⟩
end Go.Proofs.Ytbjmdnemeidpjaa
/- HistRanks, its law: every Total, Rank and Full is answered as the document says. -/
namespace Go.Proofs.Ytbjmdnemeidpjaa
set_option linter.unusedSimpArgs false
set_option linter.unusedVariables false
open Go.RowKit
set_option maxRecDepth 100000
theorem full_sat (l : List Int) : Sat Try.prog 35 [.d (hD l)] [] (.fn (.func 80) [] [.ptr 0 0]) [.row (hR l)] := by
  refine sat_of_vc (T := tiOf Try.prog) (E := E0) Try.func35 rfl rfl hE0 hm0 rfl ?_
  conv => whnf
  repeat (any_goals (first
    | exact True.intro
    | (refine Or.inl ?_; conv => whnf)
    | (refine And.intro (fun _ => ?_) tf; conv => whnf)
    | (refine And.intro ft (fun _ => ?_); conv => whnf)
    | (refine And.intro (by kernel_rfl) ?_; conv => whnf)
    | (refine And.intro (by decide) ?_; conv => whnf)
    | (refine And.intro (fun _ => ?_) (fun h => absurd h (by decide)); conv => whnf)
    | (refine And.intro (fun h => absurd h (by decide)) (fun _ => ?_); conv => whnf)
    | (refine And.intro (fun _ => ?_) (fun _ => ?_) <;> conv => whnf)))
  all_goals refine ⟨[], ?_⟩
  repeat (any_goals (first | exact True.intro | exact rfl | with_reducible_and_instances rfl | exact (by kernel_rfl) | refine And.intro ?_ ?_))
  all_goals conv => whnf
end Go.Proofs.Ytbjmdnemeidpjaa
/- Cells as rows of 72 words. -/
namespace Go.Proofs.Ytbjmdnemeidpjaa
set_option linter.unusedSimpArgs false
set_option linter.unusedVariables false
open Go.RowKit
set_option maxRecDepth 100000
abbrev uZ (z : Int) : D := .v (.int .u64 z)
def cR (c : Cel) : List D := iD c.n :: iD (hiZ c.s) :: uZ (loZ c.s) :: iD c.mn :: iD c.mx :: iD c.ce :: iD c.po :: hR c.h
abbrev cD (c : Cel) : D := .agg (cR c)
theorem cR_len {c : Cel} (h : c.h.length = 65) : (cR c).length = 72 := by
  show (hR c.h).length + 7 = 72
  rw [hR_len]; omega
theorem sC : (tiOf Try.prog 29).size = 72 := by kernel_rfl
theorem zeC : List.map D.v (tiOf Try.prog 29).zero = cR zC := by kernel_rfl
theorem sF : (tiOf Try.prog 32).size = 72 := by kernel_rfl
theorem zeF : List.map D.v (tiOf Try.prog 32).zero = cR zC := by kernel_rfl
theorem whole_cell {s : Nat} {c : Cel} (hs : s = 72) (hl : c.h.length = 65) : ((cR c).drop 0).take s = cR c := by
  rw [List.drop_zero, List.take_of_length_le (by rw [cR_len hl]; omega)]
theorem clen {s : Nat} {c : Cel} (hs : s = 72) (hl : c.h.length = 65) : (cR c).length = s := by rw [cR_len hl]; omega
theorem sum_cell {n s mn mx ce po : Int} {h : List Int} {k : Nat} (hs : k = 2) : ((cR ⟨n, s, mn, mx, ce, po, h⟩).drop 1).take k = [iD (hiZ s), uZ (loZ s)] := by subst hs; rfl
theorem s25 : (tiOf Try.prog 25).size = 2 := by kernel_rfl
theorem hist_cell {s : Nat} {c : Cel} (hs : s = 65) (hl : c.h.length = 65) : ((cR c).drop 7).take s = hR c.h := by
  show (hR c.h).take s = _
  exact hR_take hs hl
theorem cell_sets {c d : Cel} (hc : c.h.length = 65) (hd : d.h.length = 65) : sets (cR c) 0 (cR d) = cR d := by
  rw [sets_eq _ _ _ (by rw [cR_len hc, cR_len hd]; omega), List.drop_of_length_le (by rw [cR_len hc, cR_len hd]; omega)]
  simp
theorem cell_fit {c d : Cel} (hc : c.h.length = 65) (hd : d.h.length = 65) : 0 + (cR c).length ≤ (cR d).length := by rw [cR_len hc, cR_len hd]; omega
theorem fitC {c : Cel} (h : c.h.length = 65) : 0 + (cR c).length ≤ (List.map D.v (tiOf Try.prog 29).zero).length := by rw [zeC]; exact cell_fit h rfl
theorem setC {c : Cel} (h : c.h.length = 65) : sets (List.map D.v (tiOf Try.prog 29).zero) 0 (cR c) = cR c := by rw [zeC]; exact cell_sets rfl h
theorem setzC : sets (List.map D.v (tiOf Try.prog 29).zero) 0 (List.map D.v (tiOf Try.prog 29).zero) = cR zC := by rw [zeC]; exact cell_sets rfl rfl
theorem fitzC : 0 + (List.map D.v (tiOf Try.prog 29).zero).length ≤ (List.map D.v (tiOf Try.prog 29).zero).length := by omega
theorem fitF {c : Cel} (h : c.h.length = 65) : 0 + (cR c).length ≤ (List.map D.v (tiOf Try.prog 32).zero).length := by rw [zeF]; exact cell_fit h rfl
theorem setF {c : Cel} (h : c.h.length = 65) : sets (List.map D.v (tiOf Try.prog 32).zero) 0 (cR c) = cR c := by rw [zeF]; exact cell_sets rfl h
theorem setzF : sets (List.map D.v (tiOf Try.prog 32).zero) 0 (List.map D.v (tiOf Try.prog 32).zero) = cR zC := by rw [zeF]; exact cell_sets rfl rfl
theorem fitzF : 0 + (List.map D.v (tiOf Try.prog 32).zero).length ≤ (List.map D.v (tiOf Try.prog 32).zero).length := by omega
theorem fit1 {c : Cel} {k : Nat} {x : D} (h : c.h.length = 65) (hk : k ≤ 71) : k + [x].length ≤ (cR c).length := by
  rw [cR_len h, List.length_singleton]; omega
theorem at_hi {n s mn mx ce po : Int} {h : List Int} : List.drop (0 + 1) (cR ⟨n, s, mn, mx, ce, po, h⟩) = iD (hiZ s) :: List.drop 2 (cR ⟨n, s, mn, mx, ce, po, h⟩) := rfl
theorem at_lo {n s mn mx ce po : Int} {h : List Int} : List.drop (0 + 2) (cR ⟨n, s, mn, mx, ce, po, h⟩) = uZ (loZ s) :: List.drop 3 (cR ⟨n, s, mn, mx, ce, po, h⟩) := rfl
theorem whole_z {s : Nat} (hs : s = 72) : ((cR zC).drop 0).take s = cR zC := whole_cell hs rfl
theorem clenz {s : Nat} (hs : s = 72) : (cR zC).length = s := clen hs rfl
theorem set_n {n s mn mx ce po : Int} {h : List Int} (x : Int) : sets (cR ⟨n, s, mn, mx, ce, po, h⟩) 0 [iD x] = cR ⟨x, s, mn, mx, ce, po, h⟩ := rfl
theorem set_s {n s mn mx ce po : Int} {h : List Int} (x : Int) : sets (cR ⟨n, s, mn, mx, ce, po, h⟩) (0 + 1) [iD (hiZ x), uZ (loZ x)] = cR ⟨n, x, mn, mx, ce, po, h⟩ := rfl
theorem set_mn {n s mn mx ce po : Int} {h : List Int} (x : Int) : sets (cR ⟨n, s, mn, mx, ce, po, h⟩) (0 + 3) [iD x] = cR ⟨n, s, x, mx, ce, po, h⟩ := rfl
theorem set_mx {n s mn mx ce po : Int} {h : List Int} (x : Int) : sets (cR ⟨n, s, mn, mx, ce, po, h⟩) (0 + 4) [iD x] = cR ⟨n, s, mn, x, ce, po, h⟩ := rfl
theorem set_ce {n s mn mx ce po : Int} {h : List Int} (x : Int) : sets (cR ⟨n, s, mn, mx, ce, po, h⟩) (0 + 5) [iD x] = cR ⟨n, s, mn, mx, x, po, h⟩ := rfl
theorem set_po {n s mn mx ce po : Int} {h : List Int} (x : Int) : sets (cR ⟨n, s, mn, mx, ce, po, h⟩) (0 + 6) [iD x] = cR ⟨n, s, mn, mx, ce, x, h⟩ := rfl
theorem set_hh {n s mn mx ce po : Int} {h : List Int} {h' : List Int} (hc : h.length = 65) (hh : h'.length = 65) : sets (cR ⟨n, s, mn, mx, ce, po, h⟩) (0 + 7) (hR h') = cR ⟨n, s, mn, mx, ce, po, h'⟩ := by
  have hc : (Cel.mk n s mn mx ce po h).h.length = 65 := hc
  rw [sets_eq _ _ _ (by rw [cR_len hc, hR_len]; omega), List.drop_of_length_le (by rw [cR_len hc, hR_len]; omega)]
  simp [cR]
theorem drop_id {n : Nat} {l : List D} : List.drop n l = List.drop n l := rfl
theorem at_n {n s mn mx ce po : Int} {h : List Int} : List.drop 0 (cR ⟨n, s, mn, mx, ce, po, h⟩) = iD n :: List.drop 1 (cR ⟨n, s, mn, mx, ce, po, h⟩) := rfl
theorem at_mn {n s mn mx ce po : Int} {h : List Int} : List.drop (0 + 3) (cR ⟨n, s, mn, mx, ce, po, h⟩) = iD mn :: List.drop 4 (cR ⟨n, s, mn, mx, ce, po, h⟩) := rfl
theorem at_mx {n s mn mx ce po : Int} {h : List Int} : List.drop (0 + 4) (cR ⟨n, s, mn, mx, ce, po, h⟩) = iD mx :: List.drop 5 (cR ⟨n, s, mn, mx, ce, po, h⟩) := rfl
theorem at_ce {n s mn mx ce po : Int} {h : List Int} : List.drop (0 + 5) (cR ⟨n, s, mn, mx, ce, po, h⟩) = iD ce :: List.drop 6 (cR ⟨n, s, mn, mx, ce, po, h⟩) := rfl
theorem at_po {n s mn mx ce po : Int} {h : List Int} : List.drop (0 + 6) (cR ⟨n, s, mn, mx, ce, po, h⟩) = iD po :: List.drop 7 (cR ⟨n, s, mn, mx, ce, po, h⟩) := rfl
theorem note_sat (c : Cel) (b : Bool) (hc : CelOK c) (hS : Sat Try.prog 13 [.d (cD c)] [] (bA (rightC c)) []) : Sat Try.prog 17 [.d (cD c), bA b] [] (.tup [.d (cD (noteC c b).1), iA (noteC c b).2]) [] := by
  have hl := hc.hl
  have h1 := hc.ce
  have h2 := hc.po
  refine sat_of_vc (T := tiOf Try.prog) (E := E0) Try.func17 rfl rfl hE0 hm0 rfl ?_
  conv => whnf
  iterate 6
    repeat (any_goals (first
      | exact True.intro
      | (refine ⟨_, drop_id, ?_⟩; conv => whnf)
      | (refine ⟨_, _, at_n, ?_⟩; conv => whnf)
      | (refine ⟨_, _, at_hi, ?_⟩; conv => whnf)
      | (refine ⟨_, _, at_lo, ?_⟩; conv => whnf)
      | (refine ⟨_, _, at_mn, ?_⟩; conv => whnf)
      | (refine ⟨_, _, at_mx, ?_⟩; conv => whnf)
      | (refine ⟨_, _, at_ce, ?_⟩; conv => whnf)
      | (refine ⟨_, _, at_po, ?_⟩; conv => whnf)
      | (refine ⟨_, whole_z sC, clenz sC, ?_⟩; conv => whnf)
      | (refine ⟨_, setzC, ?_⟩; conv => whnf)
      | (refine And.intro (clenz sC) ?_; conv => whnf)
      | (refine And.intro fitzC ?_; conv => whnf)
      | (refine ⟨_, whole_cell sC hl, clen sC hl, ?_⟩; conv => whnf)
      | (refine And.intro (clen sC hl) ?_; conv => whnf)
      | (refine And.intro (fitC hl) ?_; conv => whnf)
      | (refine ⟨_, setC hl, ?_⟩; conv => whnf)
      | (refine ⟨_, whole_z sF, clenz sF, ?_⟩; conv => whnf)
      | (refine ⟨_, setzF, ?_⟩; conv => whnf)
      | (refine And.intro (clenz sF) ?_; conv => whnf)
      | (refine And.intro fitzF ?_; conv => whnf)
      | (refine ⟨_, whole_cell sF hl, clen sF hl, ?_⟩; conv => whnf)
      | (refine And.intro (clen sF hl) ?_; conv => whnf)
      | (refine And.intro (fitF hl) ?_; conv => whnf)
      | (refine ⟨_, setF hl, ?_⟩; conv => whnf)
      | (refine And.intro (fit1 hl (by decide)) ?_; conv => whnf)
      | (refine And.intro (fit1 rfl (by decide)) ?_; conv => whnf)
      | (refine ⟨_, sum_cell s25, rfl, ?_⟩; conv => whnf)
      | (refine ⟨_, set_n _, ?_⟩; conv => whnf)
      | (refine ⟨_, set_mn _, ?_⟩; conv => whnf)
      | (refine ⟨_, set_mx _, ?_⟩; conv => whnf)
      | (refine ⟨_, set_ce _, ?_⟩; conv => whnf)
      | (refine ⟨_, set_po _, ?_⟩; conv => whnf)
      | (refine ⟨_, set_s _, ?_⟩; conv => whnf)
      | (refine ⟨_, set_hi _, ?_⟩; conv => whnf)
      | (refine ⟨_, set_lo _, ?_⟩; conv => whnf)
      | (refine And.intro (fun _ => ?_) tf; conv => whnf)
      | (refine And.intro ft (fun _ => ?_); conv => whnf)
      | (refine And.intro (by kernel_rfl) ?_; conv => whnf)
      | (refine And.intro (by decide) ?_; conv => whnf)
      | (refine And.intro (fun _ => ?_) (fun h => absurd h (by decide)); conv => whnf)
      | (refine And.intro (fun h => absurd h (by decide)) (fun _ => ?_); conv => whnf)
      | (refine And.intro (fun _ => ?_) (fun _ => ?_) <;> conv => whnf)
      | (refine ⟨_, _, hS.pu rfl rfl, ?_⟩; conv => whnf)))
    all_goals try (refine Or.inl ?_; conv => whnf)
  · have hr : rightC c = false := (by (try simp only [decide_eq_true_eq, decide_eq_false_iff_not, Bool.not_eq_true', Bool.not_eq_false', Bool.not_eq_true, Bool.not_eq_false, beq_iff_eq, bne_iff_ne, beq_eq_false_iff_ne, bne_eq_false_iff_eq, ne_eq, Decidable.not_not, Int.natCast_eq_zero] at *); first | omega | assumption | (simp_all; done) | (simp_all; omega))
    have e : noteC c b = (zC, 10) := by unfold noteC; rw [if_pos hr]
    rw [e]
    all_goals refine ⟨[], ?_⟩
    repeat (any_goals (first | exact True.intro | exact rfl | with_reducible_and_instances rfl | exact (by kernel_rfl) | refine And.intro ?_ ?_))
    all_goals conv => whnf
  · have hr : rightC c = true := (by (try simp only [decide_eq_true_eq, decide_eq_false_iff_not, Bool.not_eq_true', Bool.not_eq_false', Bool.not_eq_true, Bool.not_eq_false, beq_iff_eq, bne_iff_ne, beq_eq_false_iff_ne, bne_eq_false_iff_eq, ne_eq, Decidable.not_not, Int.natCast_eq_zero] at *); first | omega | assumption | (simp_all; done) | (simp_all; omega))
    subst b
    have e : noteC c true = (zC, 12) := by unfold noteC big; rw [if_neg (by rw [hr]; simp), if_pos (by simp at *; assumption)]
    rw [e]
    all_goals refine ⟨[], ?_⟩
    repeat (any_goals (first | exact True.intro | exact rfl | with_reducible_and_instances rfl | exact (by kernel_rfl) | refine And.intro ?_ ?_))
    all_goals conv => whnf
  · have hr : rightC c = true := (by (try simp only [decide_eq_true_eq, decide_eq_false_iff_not, Bool.not_eq_true', Bool.not_eq_false', Bool.not_eq_true, Bool.not_eq_false, beq_iff_eq, bne_iff_ne, beq_eq_false_iff_ne, bne_eq_false_iff_eq, ne_eq, Decidable.not_not, Int.natCast_eq_zero] at *); first | omega | assumption | (simp_all; done) | (simp_all; omega))
    subst b
    have hb : c.ce ≠ 9223372036854775807 := by simp at *; assumption
    have e : noteC c true = (⟨c.n, c.s, c.mn, c.mx, c.ce + 1, c.po, c.h⟩, 0) := by unfold noteC big; rw [if_neg (by rw [hr]; simp), if_neg (by simpa using hb)]; rfl
    have w : IntKind.i64.wrap (c.ce + 1) = c.ce + 1 := wi (by unfold in64 at h1; have := (right_iff.1 hr).ce; omega) (by unfold in64 at h1; omega)
    rw [e, w]
    all_goals refine ⟨[], ?_⟩
    repeat (any_goals (first | exact True.intro | exact rfl | with_reducible_and_instances rfl | exact (by kernel_rfl) | refine And.intro ?_ ?_))
    all_goals conv => whnf
  · have hr : rightC c = true := (by (try simp only [decide_eq_true_eq, decide_eq_false_iff_not, Bool.not_eq_true', Bool.not_eq_false', Bool.not_eq_true, Bool.not_eq_false, beq_iff_eq, bne_iff_ne, beq_eq_false_iff_ne, bne_eq_false_iff_eq, ne_eq, Decidable.not_not, Int.natCast_eq_zero] at *); first | omega | assumption | (simp_all; done) | (simp_all; omega))
    subst b
    have e : noteC c false = (zC, 12) := by unfold noteC big; rw [if_neg (by rw [hr]; simp), if_pos (by simp at *; assumption)]
    rw [e]
    all_goals refine ⟨[], ?_⟩
    repeat (any_goals (first | exact True.intro | exact rfl | with_reducible_and_instances rfl | exact (by kernel_rfl) | refine And.intro ?_ ?_))
    all_goals conv => whnf
  · have hr : rightC c = true := (by (try simp only [decide_eq_true_eq, decide_eq_false_iff_not, Bool.not_eq_true', Bool.not_eq_false', Bool.not_eq_true, Bool.not_eq_false, beq_iff_eq, bne_iff_ne, beq_eq_false_iff_ne, bne_eq_false_iff_eq, ne_eq, Decidable.not_not, Int.natCast_eq_zero] at *); first | omega | assumption | (simp_all; done) | (simp_all; omega))
    subst b
    have hb : c.po ≠ 9223372036854775807 := by simp at *; assumption
    have e : noteC c false = (⟨c.n, c.s, c.mn, c.mx, c.ce, c.po + 1, c.h⟩, 0) := by unfold noteC big; rw [if_neg (by rw [hr]; simp), if_neg (by simpa using hb)]; rfl
    have w : IntKind.i64.wrap (c.po + 1) = c.po + 1 := wi (by unfold in64 at h2; have := (right_iff.1 hr).po; omega) (by unfold in64 at h2; omega)
    rw [e, w]
    all_goals refine ⟨[], ?_⟩
    repeat (any_goals (first | exact True.intro | exact rfl | with_reducible_and_instances rfl | exact (by kernel_rfl) | refine And.intro ?_ ?_))
    all_goals conv => whnf
end Go.Proofs.Ytbjmdnemeidpjaa
/- safe.Add. -/
namespace Go.Proofs.Ytbjmdnemeidpjaa
open Go.RowKit
set_option linter.unusedVariables false
set_option linter.unusedSimpArgs false
theorem toInt_i64 (x : BitVec 64) : IntKind.i64.wrap (x.toNat : Int) = x.toInt := by
  have h := x.isLt
  rw [IntKind.wrap_i64, BitVec.toInt_eq_toNat_cond]
  split <;> omega
theorem xor_toInt (a b : Int) : bits .xor .i64 a b = (BitVec.ofInt 64 a ^^^ BitVec.ofInt 64 b).toInt := by
  rw [← toInt_i64]; rfl
theorem and_toInt (a b : Int) : bits .and .i64 a b = (BitVec.ofInt 64 a &&& BitVec.ofInt 64 b).toInt := by
  rw [← toInt_i64]; rfl
theorem msb_in (a : Int) (h1 : -9223372036854775808 ≤ a) (h2 : a ≤ 9223372036854775807) : (BitVec.ofInt 64 a).msb = decide (a < 0) := by
  rw [BitVec.msb_eq_toInt, BitVec.toInt_ofInt]
  have : a.bmod (2 ^ 64) = a := by
    unfold Int.bmod
    simp only []
    split <;> omega
  rw [this]
theorem over_sign (a b s : Int) (a1 : -9223372036854775808 ≤ a) (a2 : a ≤ 9223372036854775807) (b1 : -9223372036854775808 ≤ b) (b2 : b ≤ 9223372036854775807) (s1 : -9223372036854775808 ≤ s) (s2 : s ≤ 9223372036854775807) :
    decide (bits .and .i64 (bits .xor .i64 a s) (bits .xor .i64 b s) < 0) = ((decide (a < 0) ^^ decide (s < 0)) && (decide (b < 0) ^^ decide (s < 0))) := by
  rw [and_toInt, ← BitVec.msb_eq_toInt, BitVec.msb_and, xor_toInt, xor_toInt, BitVec.ofInt_toInt, BitVec.ofInt_toInt, BitVec.msb_xor, BitVec.msb_xor, msb_in a a1 a2, msb_in b b1 b2, msb_in s s1 s2]
theorem over_add (a b : Int) (a1 : -9223372036854775808 ≤ a) (a2 : a ≤ 9223372036854775807) (b1 : -9223372036854775808 ≤ b) (b2 : b ≤ 9223372036854775807) :
    decide (bits .and .i64 (bits .xor .i64 a (wrap64 (a + b))) (bits .xor .i64 b (wrap64 (a + b))) < 0) = decide (a + b < -9223372036854775808 ∨ 9223372036854775807 < a + b) := by
  have hw : wrap64 (a + b) = (a + b + 9223372036854775808) % 18446744073709551616 - 9223372036854775808 := by unfold wrap64; omega
  generalize wrap64 (a + b) = s at *
  rw [over_sign a b s a1 a2 b1 b2 (by omega) (by omega)]
  by_cases h1 : a < 0 <;> by_cases h2 : b < 0 <;> by_cases h3 : s < 0 <;> simp [h1, h2, h3] <;> omega
def addR (a b : Int) : Int × Nat := if a + b < -9223372036854775808 ∨ 9223372036854775807 < a + b then (0, 12) else (a + b, 0)
set_option maxRecDepth 100000 in
theorem safeAdd_any (a b : Int) (w : World) (a1 : -9223372036854775808 ≤ a) (a2 : a ≤ 9223372036854775807) (b1 : -9223372036854775808 ≤ b) (b2 : b ≤ 9223372036854775807) :
    Calls Try.prog 39 #[.int .i64 a, .int .i64 b] w fun e w' => e = .returned (.tuple #[.int .i64 (addR a b).1, .int .i64 (addR a b).2]) ∧ w = w' := by
  have HO := over_add a b a1 a2 b1 b2
  have HR : Hid (addR a b = if a + b < -9223372036854775808 ∨ 9223372036854775807 < a + b then (0, 12) else (a + b, 0)) := hide rfl
  generalize addR a b = R at *
  by_cases c : a + b < -9223372036854775808 ∨ 9223372036854775807 < a + b
  · rw [decide_eq_true c] at HO
    rw [if_pos c] at HR
    clear c
    go_enter Try.func39, Try.ntmps39
    go_wp2
    go_ret2
    exact ⟨by rw [HR.out]; rfl, rfl⟩
  · rw [decide_eq_false c] at HO
    rw [if_neg c] at HR
    have hw : wrap64 (a + b) = a + b := IntWalk.wrap64_in _ (by constructor <;> omega)
    have HW := hide hw
    clear c hw
    go_enter Try.func39, Try.ntmps39
    go_wp2
    go_ret2
    refine ⟨?_, rfl⟩
    rw [HR.out]
    show Ending.returned (.tuple #[.int .i64 (wrap64 (a + b)), .int .i64 0]) = _
    rw [HW.out]
    rfl
end Go.Proofs.Ytbjmdnemeidpjaa
/- wide.Add; bits.Add64 as an operation; the sums of cells (192 bits). -/
namespace Go.Proofs.Ytbjmdnemeidpjaa
set_option linter.unusedSimpArgs false
set_option linter.unusedVariables false
open Go.RowKit
set_option maxRecDepth 100000
abbrev uN (z : Int) : AV := .d (.v (.int .u64 z))
theorem add64_runC (x y c : Int) (hx : 0 ≤ x) (hy : 0 ≤ y) (hc : 0 ≤ c) (hc1 : c ≤ 1) (w : World) : (callFunc 74 #[.int .u64 x, .int .u64 y, .int .u64 c]).run Try.prog w =
    .ok (.value (.tuple #[.int .u64 ((x + y + c) % 18446744073709551616), .int .u64 ((x + y + c) / 18446744073709551616)])) w := by
  rw [run_callFunc_extern Try.func74 (by kernel_rfl) (by kernel_rfl) (by kernel_rfl) (e := add64Entry) (by kernel_rfl), run_add64 x y c hx hy (by omega) (by omega)]
  simp only [Result.andThen]
theorem add64_does {L : List AObj} {ty n : Nat} (x y c : Int) (hx : 0 ≤ x) (hy : 0 ≤ y) (hc : 0 ≤ c) (hc1 : c ≤ 1) {a b d : Operand} {ats : Array TypeId} :
    Does Try.prog (.call { callee := .value (.func 74), args := #[a, b, d], argTypes := ats }) ty L n [.fn (.func 74) [] [], uN x, uN y, uN c] e0 (.tup [uN ((x + y + c) % 18446744073709551616), uN ((x + y + c) / 18446744073709551616)]) :=
  does_val fun o w F ρ ev ho _ hx' => by
    have hops : (Op.operands (.call { callee := .value (.func 74), args := #[a, b, d], argTypes := ats })).toList = .func 74 :: [a, b, d] := by simp [Op.operands, Call.operands]
    rw [hops] at hx'
    simp only [List.map_cons, List.map_nil] at hx'
    generalize hvf : ev (.func 74) = vf at hx'
    cases hx' with | cons hf h =>
    cases hf with | fn hfirst hcaps =>
    cases hfirst
    cases hcaps
    cases h with | cons h1 h =>
    cases h with | cons h2 h =>
    cases h with | cons h3 h =>
    have e1 := h1.v_out
    have e2 := h2.v_out
    have e3 := h3.v_out
    refine ⟨_, ?_, .tup (.cons (.d (.v _)) (.cons (.d (.v _)) .nil))⟩
    have := add64_runC x y c hx hy hc hc1 w
    simp [execOp, ho, resolve, hvf, Deferred.ofValue, invoke, e1, e2, e3]
    exact this
theorem wadd_plain (A B : Int) (hA : in128 A) (hB : in128 B) : hiZ (A + B) = hiZ A + hiZ B + (loZ A + loZ B) / word ∧ loZ (A + B) = (loZ A + loZ B) % word ∧
    (decide (bits .and .i64 (bits .xor .i64 (hiZ A) (wrap64 (hiZ (A + B)))) (bits .xor .i64 (hiZ B) (wrap64 (hiZ (A + B)))) < 0) = true ↔ ¬ in128 (A + B)) := by
  have e1 : hiZ (A + B) = hiZ A + hiZ B + (loZ A + loZ B) / word := by unfold hiZ loZ word; omega
  have e2 : loZ (A + B) = (loZ A + loZ B) % word := by unfold loZ word; omega
  refine ⟨e1, e2, ?_⟩
  have o1 : 0 ≤ (loZ A + loZ B) / word ∧ (loZ A + loZ B) / word ≤ 1 := by unfold loZ word; omega
  unfold in128 at *
  have hs : in64 (wrap64 (hiZ (A + B))) := by unfold in64 wrap64; omega
  have hw : wrap64 (hiZ (A + B)) = (hiZ (A + B) + 9223372036854775808) % 18446744073709551616 - 9223372036854775808 := by unfold wrap64; omega
  rw [over_sign _ _ _ hA.1 hA.2 hB.1 hB.2 hs.1 hs.2]
  generalize wrap64 (hiZ (A + B)) = s at *
  generalize hiZ (A + B) = z at *
  generalize hiZ A = a at *
  generalize hiZ B = b at *
  generalize (loZ A + loZ B) / word = o at *
  unfold in64 at *
  by_cases q1 : a < 0 <;> by_cases q2 : b < 0 <;> by_cases q3 : s < 0 <;> simp [q1, q2, q3] <;> omega
theorem wadd_sat (A B : Int) (hA : in128 A) (hB : in128 B) : Sat Try.prog 40 [.d (wD A), .d (wD B)] [] (if in128 (A + B) then .tup [.d (wD (A + B)), iA 0] else .tup [.d (wD 0), iA 12]) [] := by
  have a0 : 0 ≤ loZ A ∧ loZ A < word := by unfold loZ word; omega
  have b0 : 0 ≤ loZ B ∧ loZ B < word := by unfold loZ word; omega
  obtain ⟨e1, e2, e3⟩ := wadd_plain A B hA hB
  have e4 : IntKind.i64.wrap (IntKind.i64.wrap (hiZ A + hiZ B) + IntKind.i64.wrap ((loZ A + loZ B + 0) / 18446744073709551616)) = wrap64 (hiZ (A + B)) := by
    rw [e1, Int.add_zero]
    rw [IntKind.wrap_i64, IntKind.wrap_i64, IntKind.wrap_i64]
    unfold wrap64 word
    generalize (loZ A + loZ B) / 18446744073709551616 = o
    omega
  have e5 : (loZ A + loZ B + 0) % 18446744073709551616 = loZ (A + B) := by rw [e2, Int.add_zero]; rfl
  refine sat_of_vc (T := tiOf Try.prog) (E := E0) Try.func40 rfl rfl hE0 hm0 rfl ?_
  conv => whnf
  iterate 4
    repeat (any_goals (first
      | exact True.intro
      | (refine And.intro (fun _ => ?_) tf; conv => whnf)
      | (refine And.intro ft (fun _ => ?_); conv => whnf)
      | (refine And.intro (by kernel_rfl) ?_; conv => whnf)
      | (refine And.intro (by decide) ?_; conv => whnf)
      | (refine And.intro (fun _ => ?_) (fun h => absurd h (by decide)); conv => whnf)
      | (refine And.intro (fun h => absurd h (by decide)) (fun _ => ?_); conv => whnf)
      | (refine And.intro (fun _ => ?_) (fun _ => ?_) <;> conv => whnf)
      | (refine ⟨_, _, add64_does (loZ A) (loZ B) 0 a0.1 b0.1 (by omega) (by omega), ?_⟩; conv => whnf)))
    all_goals try (refine Or.inl ?_; conv => whnf)
  · rename_i h
    have h : decide (bits .and .i64 (bits .xor .i64 (hiZ A) (IntKind.i64.wrap (IntKind.i64.wrap (hiZ A + hiZ B) + IntKind.i64.wrap ((loZ A + loZ B + 0) / 18446744073709551616)))) (bits .xor .i64 (hiZ B) (IntKind.i64.wrap (IntKind.i64.wrap (hiZ A + hiZ B) + IntKind.i64.wrap ((loZ A + loZ B + 0) / 18446744073709551616)))) < 0) = true := h
    rw [e4, e3] at h
    rw [if_neg h]
    all_goals refine ⟨[], ?_⟩
    repeat (any_goals (first | exact True.intro | exact rfl | with_reducible_and_instances rfl | exact (by kernel_rfl) | refine And.intro ?_ ?_))
    all_goals conv => whnf
  · rename_i h
    have h : decide (bits .and .i64 (bits .xor .i64 (hiZ A) (IntKind.i64.wrap (IntKind.i64.wrap (hiZ A + hiZ B) + IntKind.i64.wrap ((loZ A + loZ B + 0) / 18446744073709551616)))) (bits .xor .i64 (hiZ B) (IntKind.i64.wrap (IntKind.i64.wrap (hiZ A + hiZ B) + IntKind.i64.wrap ((loZ A + loZ B + 0) / 18446744073709551616)))) < 0) = false := h
    rw [e4, ← Bool.not_eq_true, e3] at h
    have hin : in128 (A + B) := Decidable.not_not.1 h
    have e6 : wrap64 (hiZ (A + B)) = hiZ (A + B) := by unfold in128 in64 at hin; unfold wrap64; omega
    rw [if_pos hin, e4, e5, e6]
    all_goals refine ⟨[], ?_⟩
    repeat (any_goals (first | exact True.intro | exact rfl | with_reducible_and_instances rfl | exact (by kernel_rfl) | refine And.intro ?_ ?_))
    all_goals conv => whnf
end Go.Proofs.Ytbjmdnemeidpjaa
/- total with its three closures; Right. -/
namespace Go.Proofs.Ytbjmdnemeidpjaa
set_option linter.unusedSimpArgs false
set_option linter.unusedVariables false
open Go.RowKit
set_option maxRecDepth 100000
theorem safeAdd_sat (a b : Int) (ha : in64 a) (hb : in64 b) : Sat Try.prog 39 [iA a, iA b] [] (.tup [iA (addR a b).1, iA (addR a b).2]) [] :=
  .of_same (by repeat constructor) (by repeat constructor) fun w => safeAdd_any a b w ha.1 ha.2 hb.1 hb.2
end Go.Proofs.Ytbjmdnemeidpjaa
/- Right of a cell. -/
namespace Go.Proofs.Ytbjmdnemeidpjaa
set_option linter.unusedSimpArgs false
set_option linter.unusedVariables false
open Go.RowKit
set_option maxRecDepth 100000
theorem right_no {c : Cel} (h : ¬ (0 ≤ c.n ∧ 0 ≤ c.ce ∧ 0 ≤ c.po ∧ c.mn ≤ c.mx)) : rightC c = false := by
  unfold rightC
  rw [decide_eq_false h]
  rfl
theorem right_no2 {c : Cel} (h : okH c.h = false) : rightC c = false := by
  unfold rightC
  rw [h, Bool.and_false]
  rfl
theorem right_no3 {c : Cel} (h : ¬ c.h.sum = c.n) : rightC c = false := by
  unfold rightC
  rw [decide_eq_false h, Bool.and_false]
  rfl
theorem right_zero {c : Cel} (h : 0 ≤ c.n ∧ 0 ≤ c.ce ∧ 0 ≤ c.po ∧ c.mn ≤ c.mx) (h2 : okH c.h = true) (h3 : c.h.sum = c.n) (h4 : c.n = 0) : rightC c = decide (c.s = 0 ∧ c.mn = 0 ∧ c.mx = 0) := by
  unfold rightC
  rw [decide_eq_true h, h2, decide_eq_true h3, if_pos h4]
  rfl
theorem right_some {c : Cel} (h : 0 ≤ c.n ∧ 0 ≤ c.ce ∧ 0 ≤ c.po ∧ c.mn ≤ c.mx) (h2 : okH c.h = true) (h3 : c.h.sum = c.n) (h4 : ¬ c.n = 0) : rightC c = (decide (hAt c.h (bkt c.mn) ≠ 0 ∧ hAt c.h (bkt c.mx) ≠ 0) && inB c) := by
  unfold rightC
  rw [decide_eq_true h, h2, decide_eq_true h3, if_neg h4]
  rfl
theorem at_h {c : Cel} (hl : c.h.length = 65) {k : Nat} (hk : k < 65) : List.drop (0 + 7 + k * 1) (cR c) = iD (hAt c.h k) :: (hR c.h).drop (k + 1) := by
  have e : List.drop (0 + 7 + k * 1) (cR c) = (hR c.h).drop (0 + k * 1) := by
    rw [show 0 + 7 + k * 1 = k + 7 by omega, show 0 + k * 1 = k by omega]; rfl
  rw [e]
  refine drop_row ?_
  unfold hAt
  rw [List.getElem?_eq_getElem (by omega)]
  rfl
theorem wof_sat (v : Int) (h : in64 v) : Sat Try.prog 27 [iA v] [] (.d (wD v)) [] :=
  .of_calls (.cons (.d (.v _)) .nil) (.d (wD_flat _)) fun w => wideOf_any v w h.1 h.2
theorem wd_beq (a b : Int) : (hiZ a == hiZ b && loZ a == loZ b) = decide (a = b) := by
  rw [Bool.eq_iff_iff]
  simp only [Bool.and_eq_true, beq_iff_eq, decide_eq_true_eq]
  unfold hiZ loZ word
  omega
theorem no_way {a b : Int} (h : a = b) (q : (!(hiZ a == hiZ b && loZ a == loZ b)) = true) : False := by rw [wd_beq, decide_eq_true h] at q; exact Bool.noConfusion q
theorem no_way2 {a b : Int} (h : ¬ a = b) (q : (!(hiZ a == hiZ b && loZ a == loZ b)) = false) : False := by rw [wd_beq, decide_eq_false h] at q; exact Bool.noConfusion q
theorem zz1 {c : Cel} (h : (hiZ c.s == 0 && loZ c.s == 0) = true) (h2 : (c.mn == 0) = true) : decide (c.s = 0 ∧ c.mn = 0 ∧ c.mx = 0) = (c.mx == 0) := by
  have e := wd_beq c.s 0
  have e : (hiZ c.s == 0 && loZ c.s == 0) = decide (c.s = 0) := e
  rw [e] at h
  rw [Bool.eq_iff_iff]
  simp only [decide_eq_true_eq, beq_iff_eq] at *
  omega
theorem zz2 {c : Cel} (h2 : (c.mn == 0) = false) : decide (c.s = 0 ∧ c.mn = 0 ∧ c.mx = 0) = false := by
  simp only [beq_eq_false_iff_ne, ne_eq] at h2
  exact decide_eq_false (by omega)
theorem zz3 {c : Cel} (h : (hiZ c.s == 0 && loZ c.s == 0) = false) : decide (c.s = 0 ∧ c.mn = 0 ∧ c.mx = 0) = false := by
  have e : (hiZ c.s == 0 && loZ c.s == 0) = decide (c.s = 0) := wd_beq c.s 0
  rw [e] at h
  have := of_decide_eq_false h
  exact decide_eq_false (by omega)
theorem rr1 {c : Cel} (h : (hAt c.h (bkt c.mn) == 0) = true) : (decide (hAt c.h (bkt c.mn) ≠ 0 ∧ hAt c.h (bkt c.mx) ≠ 0) && inB c) = false := by
  have h := eq_of_beq h
  rw [decide_eq_false (fun q => q.1 h)]; rfl
theorem rr2 {c : Cel} (h : (hAt c.h (bkt c.mx) == 0) = true) : (decide (hAt c.h (bkt c.mn) ≠ 0 ∧ hAt c.h (bkt c.mx) ≠ 0) && inB c) = false := by
  have h := eq_of_beq h
  rw [decide_eq_false (fun q => q.2 h)]; rfl
theorem rr3 {c : Cel} (h : (hAt c.h (bkt c.mn) == 0) = false) (h2 : (hAt c.h (bkt c.mx) == 0) = false) : (decide (hAt c.h (bkt c.mn) ≠ 0 ∧ hAt c.h (bkt c.mx) ≠ 0) && inB c) = inB c := by
  rw [decide_eq_true ⟨by simpa using h, by simpa using h2⟩]; rfl
theorem inB_no {c : Cel} {b : Nat} (hb : b < 65) (h : hAt c.h b ≠ 0) (h2 : b < bkt c.mn ∨ bkt c.mx < b) : inB c = false := by
  rw [← Bool.not_eq_true]
  intro q
  have := of_decide_eq_true (List.all_eq_true.1 q b (List.mem_range.2 hb))
  omega
theorem inB_yes {c : Cel} (h : ∀ b, b < 65 → hAt c.h b ≠ 0 → bkt c.mn ≤ b ∧ b ≤ bkt c.mx) : inB c = true := by
  refine List.all_eq_true.2 fun b hb => decide_eq_true ?_
  by_cases q : hAt c.h b = 0
  · exact .inl q
  · exact .inr (h b (List.mem_range.1 hb) q)
theorem l27 : (tiOf Try.prog 27).len = 65 := by kernel_rfl
set_option maxHeartbeats 4000000 in
theorem right_sat_c (c : Cel) (hc : CelOK c) : Sat Try.prog 13 [.d (cD c)] [] (bA (rightC c)) [] := by
  have hl := hc.hl
  have hx := hc.hx
  have t1 := total_sat c.h hl hx
  have b1 := bucket_sat c.mn hc.mn
  have b2 := bucket_sat c.mx hc.mx
  have f1 := full_sat c.h
  have w1 := wof_sat c.n hc.n
  have k1 := bkt_lt c.mn hc.mn.2
  have k2 := bkt_lt c.mx hc.mx.2
  refine sat_of_vc (T := tiOf Try.prog) (E := E0) Try.func13 rfl rfl hE0 hm0 rfl ?_
  conv => whnf
  by_cases h0 : 0 ≤ c.n ∧ 0 ≤ c.ce ∧ 0 ≤ c.po ∧ c.mn ≤ c.mx
  case neg =>
    rw [right_no h0]
    iterate 2
      repeat (any_goals (first
        | exact True.intro
        | (refine ⟨_, drop_id, ?_⟩; conv => whnf)
        | (refine ⟨_, _, at_n, ?_⟩; conv => whnf)
        | (refine ⟨_, _, at_hi, ?_⟩; conv => whnf)
        | (refine ⟨_, _, at_lo, ?_⟩; conv => whnf)
        | (refine ⟨_, _, at_mn, ?_⟩; conv => whnf)
        | (refine ⟨_, _, at_mx, ?_⟩; conv => whnf)
        | (refine ⟨_, _, at_ce, ?_⟩; conv => whnf)
        | (refine ⟨_, _, at_po, ?_⟩; conv => whnf)
        | (refine ⟨_, whole_z sC, clenz sC, ?_⟩; conv => whnf)
        | (refine ⟨_, setzC, ?_⟩; conv => whnf)
        | (refine And.intro (clenz sC) ?_; conv => whnf)
        | (refine And.intro fitzC ?_; conv => whnf)
        | (refine ⟨_, whole_cell sC hl, clen sC hl, ?_⟩; conv => whnf)
        | (refine And.intro (clen sC hl) ?_; conv => whnf)
        | (refine And.intro (fitC hl) ?_; conv => whnf)
        | (refine ⟨_, setC hl, ?_⟩; conv => whnf)
        | (refine ⟨_, whole_z sF, clenz sF, ?_⟩; conv => whnf)
        | (refine ⟨_, setzF, ?_⟩; conv => whnf)
        | (refine And.intro (clenz sF) ?_; conv => whnf)
        | (refine And.intro fitzF ?_; conv => whnf)
        | (refine ⟨_, whole_cell sF hl, clen sF hl, ?_⟩; conv => whnf)
        | (refine And.intro (clen sF hl) ?_; conv => whnf)
        | (refine And.intro (fitF hl) ?_; conv => whnf)
        | (refine ⟨_, setF hl, ?_⟩; conv => whnf)
        | (refine And.intro (fit1 hl (by decide)) ?_; conv => whnf)
        | (refine And.intro (fit1 rfl (by decide)) ?_; conv => whnf)
        | (refine ⟨_, sum_cell s25, rfl, ?_⟩; conv => whnf)
        | (refine ⟨_, set_n _, ?_⟩; conv => whnf)
        | (refine ⟨_, set_mn _, ?_⟩; conv => whnf)
        | (refine ⟨_, set_mx _, ?_⟩; conv => whnf)
        | (refine ⟨_, set_ce _, ?_⟩; conv => whnf)
        | (refine ⟨_, set_po _, ?_⟩; conv => whnf)
        | (refine ⟨_, set_s _, ?_⟩; conv => whnf)
        | (refine ⟨_, set_hi _, ?_⟩; conv => whnf)
        | (refine ⟨_, set_lo _, ?_⟩; conv => whnf)
        | (refine And.intro (fun _ => ?_) tf; conv => whnf)
        | (refine And.intro ft (fun _ => ?_); conv => whnf)
        | (refine And.intro (by kernel_rfl) ?_; conv => whnf)
        | (refine And.intro (by decide) ?_; conv => whnf)
        | (refine And.intro (fun _ => ?_) (fun h => absurd h (by decide)); conv => whnf)
        | (refine And.intro (fun h => absurd h (by decide)) (fun _ => ?_); conv => whnf)
        | (refine And.intro (fun _ => ?_) (fun _ => ?_) <;> conv => whnf)
        | (refine ⟨_, _, t1.pu rfl rfl, ?_⟩; conv => whnf)
        | (refine ⟨_, _, b1.pu rfl rfl, ?_⟩; conv => whnf)
        | (refine ⟨_, _, b2.pu rfl rfl, ?_⟩; conv => whnf)))
      all_goals try (exfalso; simp only [decide_eq_true_eq, decide_eq_false_iff_not, Bool.not_eq_true', Bool.not_eq_false', Bool.not_eq_true, Bool.not_eq_false, beq_iff_eq, bne_iff_ne, beq_eq_false_iff_ne, bne_eq_false_iff_eq, ne_eq, Decidable.not_not] at *; first | omega | contradiction | (simp_all; done) | (simp_all; omega))
      all_goals try (refine Or.inl ?_; conv => whnf)
    all_goals try (exfalso; simp only [decide_eq_true_eq, decide_eq_false_iff_not] at *; omega)
    all_goals refine ⟨[], ?_⟩
    repeat (any_goals (first | exact True.intro | exact rfl | with_reducible_and_instances rfl | exact (by kernel_rfl) | refine And.intro ?_ ?_))
    all_goals conv => whnf
  iterate 2
    repeat (any_goals (first
      | exact True.intro
      | (refine ⟨_, drop_id, ?_⟩; conv => whnf)
      | (refine ⟨_, _, at_n, ?_⟩; conv => whnf)
      | (refine ⟨_, _, at_hi, ?_⟩; conv => whnf)
      | (refine ⟨_, _, at_lo, ?_⟩; conv => whnf)
      | (refine ⟨_, _, at_mn, ?_⟩; conv => whnf)
      | (refine ⟨_, _, at_mx, ?_⟩; conv => whnf)
      | (refine ⟨_, _, at_ce, ?_⟩; conv => whnf)
      | (refine ⟨_, _, at_po, ?_⟩; conv => whnf)
      | (refine ⟨_, whole_z sC, clenz sC, ?_⟩; conv => whnf)
      | (refine ⟨_, setzC, ?_⟩; conv => whnf)
      | (refine And.intro (clenz sC) ?_; conv => whnf)
      | (refine And.intro fitzC ?_; conv => whnf)
      | (refine ⟨_, whole_cell sC hl, clen sC hl, ?_⟩; conv => whnf)
      | (refine And.intro (clen sC hl) ?_; conv => whnf)
      | (refine And.intro (fitC hl) ?_; conv => whnf)
      | (refine ⟨_, setC hl, ?_⟩; conv => whnf)
      | (refine ⟨_, whole_z sF, clenz sF, ?_⟩; conv => whnf)
      | (refine ⟨_, setzF, ?_⟩; conv => whnf)
      | (refine And.intro (clenz sF) ?_; conv => whnf)
      | (refine And.intro fitzF ?_; conv => whnf)
      | (refine ⟨_, whole_cell sF hl, clen sF hl, ?_⟩; conv => whnf)
      | (refine And.intro (clen sF hl) ?_; conv => whnf)
      | (refine And.intro (fitF hl) ?_; conv => whnf)
      | (refine ⟨_, setF hl, ?_⟩; conv => whnf)
      | (refine And.intro (fit1 hl (by decide)) ?_; conv => whnf)
      | (refine And.intro (fit1 rfl (by decide)) ?_; conv => whnf)
      | (refine ⟨_, sum_cell s25, rfl, ?_⟩; conv => whnf)
      | (refine ⟨_, set_n _, ?_⟩; conv => whnf)
      | (refine ⟨_, set_mn _, ?_⟩; conv => whnf)
      | (refine ⟨_, set_mx _, ?_⟩; conv => whnf)
      | (refine ⟨_, set_ce _, ?_⟩; conv => whnf)
      | (refine ⟨_, set_po _, ?_⟩; conv => whnf)
      | (refine ⟨_, set_s _, ?_⟩; conv => whnf)
      | (refine ⟨_, set_hi _, ?_⟩; conv => whnf)
      | (refine ⟨_, set_lo _, ?_⟩; conv => whnf)
      | (refine And.intro (fun _ => ?_) tf; conv => whnf)
      | (refine And.intro ft (fun _ => ?_); conv => whnf)
      | (refine And.intro (by kernel_rfl) ?_; conv => whnf)
      | (refine And.intro (by decide) ?_; conv => whnf)
      | (refine And.intro (fun _ => ?_) (fun h => absurd h (by decide)); conv => whnf)
      | (refine And.intro (fun h => absurd h (by decide)) (fun _ => ?_); conv => whnf)
      | (refine And.intro (fun _ => ?_) (fun _ => ?_) <;> conv => whnf)))
    all_goals try (exfalso; simp only [decide_eq_true_eq, decide_eq_false_iff_not, Bool.not_eq_true', Bool.not_eq_false', Bool.not_eq_true, Bool.not_eq_false, beq_iff_eq, bne_iff_ne, beq_eq_false_iff_ne, bne_eq_false_iff_eq, ne_eq, Decidable.not_not] at *; first | omega | contradiction | (simp_all; done) | (simp_all; omega))
    all_goals try (refine Or.inl ?_; conv => whnf)
  all_goals try (exfalso; simp only [decide_eq_true_eq, decide_eq_false_iff_not] at *; omega)
  repeat (any_goals (first
    | exact True.intro
    | (refine ⟨_, drop_id, ?_⟩; conv => whnf)
    | (refine ⟨_, _, at_n, ?_⟩; conv => whnf)
    | (refine ⟨_, _, at_hi, ?_⟩; conv => whnf)
    | (refine ⟨_, _, at_lo, ?_⟩; conv => whnf)
    | (refine ⟨_, _, at_mn, ?_⟩; conv => whnf)
    | (refine ⟨_, _, at_mx, ?_⟩; conv => whnf)
    | (refine ⟨_, _, at_ce, ?_⟩; conv => whnf)
    | (refine ⟨_, _, at_po, ?_⟩; conv => whnf)
    | (refine ⟨_, whole_z sC, clenz sC, ?_⟩; conv => whnf)
    | (refine ⟨_, setzC, ?_⟩; conv => whnf)
    | (refine And.intro (clenz sC) ?_; conv => whnf)
    | (refine And.intro fitzC ?_; conv => whnf)
    | (refine ⟨_, whole_cell sC hl, clen sC hl, ?_⟩; conv => whnf)
    | (refine And.intro (clen sC hl) ?_; conv => whnf)
    | (refine And.intro (fitC hl) ?_; conv => whnf)
    | (refine ⟨_, setC hl, ?_⟩; conv => whnf)
    | (refine ⟨_, whole_z sF, clenz sF, ?_⟩; conv => whnf)
    | (refine ⟨_, setzF, ?_⟩; conv => whnf)
    | (refine And.intro (clenz sF) ?_; conv => whnf)
    | (refine And.intro fitzF ?_; conv => whnf)
    | (refine ⟨_, whole_cell sF hl, clen sF hl, ?_⟩; conv => whnf)
    | (refine And.intro (clen sF hl) ?_; conv => whnf)
    | (refine And.intro (fitF hl) ?_; conv => whnf)
    | (refine ⟨_, setF hl, ?_⟩; conv => whnf)
    | (refine And.intro (fit1 hl (by decide)) ?_; conv => whnf)
    | (refine And.intro (fit1 rfl (by decide)) ?_; conv => whnf)
    | (refine ⟨_, sum_cell s25, rfl, ?_⟩; conv => whnf)
    | (refine ⟨_, set_n _, ?_⟩; conv => whnf)
    | (refine ⟨_, set_mn _, ?_⟩; conv => whnf)
    | (refine ⟨_, set_mx _, ?_⟩; conv => whnf)
    | (refine ⟨_, set_ce _, ?_⟩; conv => whnf)
    | (refine ⟨_, set_po _, ?_⟩; conv => whnf)
    | (refine ⟨_, set_s _, ?_⟩; conv => whnf)
    | (refine ⟨_, set_hi _, ?_⟩; conv => whnf)
    | (refine ⟨_, set_lo _, ?_⟩; conv => whnf)
    | (refine ⟨_, hist_cell s69 hl, whole_len s69 hl, ?_⟩; conv => whnf)
    | (refine And.intro (fun _ => ?_) tf; conv => whnf)
    | (refine And.intro ft (fun _ => ?_); conv => whnf)
    | (refine And.intro (by kernel_rfl) ?_; conv => whnf)
    | (refine And.intro (by decide) ?_; conv => whnf)
    | (refine And.intro (fun _ => ?_) (fun h => absurd h (by decide)); conv => whnf)
    | (refine And.intro (fun h => absurd h (by decide)) (fun _ => ?_); conv => whnf)
    | (refine And.intro (fun _ => ?_) (fun _ => ?_) <;> conv => whnf)))
  refine ⟨Nat, fun k => k ≤ 65 ∧ okH (c.h.take k) = true, fun k => ([(30, iA k), (29, .d (hD c.h)), (2, .ptr 1 0), (1, .ptr 0 0)], [.row (cR c), .cells [bA false]]), fun k => 65 - k, ⟨0, ⟨by omega, rfl⟩, ?_⟩, ?_⟩
  · all_goals refine ⟨[], ?_⟩
    repeat (any_goals (first | exact True.intro | exact rfl | with_reducible_and_instances rfl | exact (by kernel_rfl) | refine And.intro ?_ ?_))
    all_goals conv => whnf
  rintro k ⟨hk, ho⟩
  conv => whnf
  by_cases hlt : k < 65
  · have hxk : c.h[k]? = some c.h[k] := List.getElem?_eq_getElem (by omega)
    generalize c.h[k] = x at hxk
    have ha : okH (c.h.take (k + 1)) = decide (0 ≤ x) := by unfold okH at *; rw [all_take hxk, ho, Bool.true_and]
    iterate 3
      repeat (any_goals (first
        | exact True.intro
        | (refine ⟨_, drop_id, ?_⟩; conv => whnf)
        | (refine ⟨_, _, at_n, ?_⟩; conv => whnf)
        | (refine ⟨_, _, at_hi, ?_⟩; conv => whnf)
        | (refine ⟨_, _, at_lo, ?_⟩; conv => whnf)
        | (refine ⟨_, _, at_mn, ?_⟩; conv => whnf)
        | (refine ⟨_, _, at_mx, ?_⟩; conv => whnf)
        | (refine ⟨_, _, at_ce, ?_⟩; conv => whnf)
        | (refine ⟨_, _, at_po, ?_⟩; conv => whnf)
        | (refine ⟨_, whole_z sC, clenz sC, ?_⟩; conv => whnf)
        | (refine ⟨_, setzC, ?_⟩; conv => whnf)
        | (refine And.intro (clenz sC) ?_; conv => whnf)
        | (refine And.intro fitzC ?_; conv => whnf)
        | (refine ⟨_, whole_cell sC hl, clen sC hl, ?_⟩; conv => whnf)
        | (refine And.intro (clen sC hl) ?_; conv => whnf)
        | (refine And.intro (fitC hl) ?_; conv => whnf)
        | (refine ⟨_, setC hl, ?_⟩; conv => whnf)
        | (refine ⟨_, whole_z sF, clenz sF, ?_⟩; conv => whnf)
        | (refine ⟨_, setzF, ?_⟩; conv => whnf)
        | (refine And.intro (clenz sF) ?_; conv => whnf)
        | (refine And.intro fitzF ?_; conv => whnf)
        | (refine ⟨_, whole_cell sF hl, clen sF hl, ?_⟩; conv => whnf)
        | (refine And.intro (clen sF hl) ?_; conv => whnf)
        | (refine And.intro (fitF hl) ?_; conv => whnf)
        | (refine ⟨_, setF hl, ?_⟩; conv => whnf)
        | (refine And.intro (fit1 hl (by decide)) ?_; conv => whnf)
        | (refine And.intro (fit1 rfl (by decide)) ?_; conv => whnf)
        | (refine ⟨_, sum_cell s25, rfl, ?_⟩; conv => whnf)
        | (refine ⟨_, set_n _, ?_⟩; conv => whnf)
        | (refine ⟨_, set_mn _, ?_⟩; conv => whnf)
        | (refine ⟨_, set_mx _, ?_⟩; conv => whnf)
        | (refine ⟨_, set_ce _, ?_⟩; conv => whnf)
        | (refine ⟨_, set_po _, ?_⟩; conv => whnf)
        | (refine ⟨_, set_s _, ?_⟩; conv => whnf)
        | (refine ⟨_, set_hi _, ?_⟩; conv => whnf)
        | (refine ⟨_, set_lo _, ?_⟩; conv => whnf)
        | (refine ⟨k, _, rfl, Nat.lt_of_lt_of_eq hlt l27.symm, map_get hxk, ?_⟩; conv => whnf)
        | (refine ⟨_, rfl, _, _, drop_row hxk, ?_⟩; conv => whnf)
        | (refine And.intro (fun _ => ?_) tf; conv => whnf)
        | (refine And.intro ft (fun _ => ?_); conv => whnf)
        | (refine And.intro (by kernel_rfl) ?_; conv => whnf)
        | (refine And.intro (by decide) ?_; conv => whnf)
        | (refine And.intro (fun _ => ?_) (fun h => absurd h (by decide)); conv => whnf)
        | (refine And.intro (fun h => absurd h (by decide)) (fun _ => ?_); conv => whnf)
        | (refine And.intro (fun _ => ?_) (fun _ => ?_) <;> conv => whnf)))
      all_goals try (exfalso; simp only [decide_eq_true_eq, decide_eq_false_iff_not, Bool.not_eq_true', Bool.not_eq_false', Bool.not_eq_true, Bool.not_eq_false, beq_iff_eq, bne_iff_ne, beq_eq_false_iff_ne, bne_eq_false_iff_eq, ne_eq, Decidable.not_not] at *; first | omega | contradiction | (simp_all; done) | (simp_all; omega))
      all_goals try (refine Or.inl ?_; conv => whnf)
    · have h1 : x < 0 := (by (try simp only [decide_eq_true_eq, decide_eq_false_iff_not, Bool.not_eq_true', Bool.not_eq_false', Bool.not_eq_true, Bool.not_eq_false, beq_iff_eq, bne_iff_ne, beq_eq_false_iff_ne, bne_eq_false_iff_eq, ne_eq, Decidable.not_not, Int.natCast_eq_zero] at *); first | omega | assumption | (simp_all; done) | (simp_all; omega))
      have hr : okH c.h = false := by
        rw [← List.take_append_drop (k + 1) c.h]
        unfold okH at *
        rw [List.all_append, ha, decide_eq_false (by omega)]; rfl
      rw [right_no2 hr]
      all_goals refine ⟨[], ?_⟩
      repeat (any_goals (first | exact True.intro | exact rfl | with_reducible_and_instances rfl | exact (by kernel_rfl) | refine And.intro ?_ ?_))
      all_goals conv => whnf
    · have h1 : ¬ x < 0 := (by (try simp only [decide_eq_true_eq, decide_eq_false_iff_not, Bool.not_eq_true', Bool.not_eq_false', Bool.not_eq_true, Bool.not_eq_false, beq_iff_eq, bne_iff_ne, beq_eq_false_iff_ne, bne_eq_false_iff_eq, ne_eq, Decidable.not_not, Int.natCast_eq_zero] at *); first | omega | assumption | (simp_all; done) | (simp_all; omega))
      refine ⟨k + 1, ⟨hlt, by rw [ha]; exact decide_eq_true (by omega)⟩, show 65 - (k + 1) < 65 - k by omega, ?_⟩
      all_goals refine ⟨[], ?_⟩
      repeat (any_goals (first | exact True.intro | exact rfl | with_reducible_and_instances rfl | exact (by kernel_rfl) | refine And.intro ?_ ?_))
      all_goals conv => whnf
      exact wk1 (by omega)
  · have hke : k = 65 := by omega
    subst hke
    rw [List.take_of_length_le (by omega)] at ho
    by_cases h3 : c.h.sum = c.n
    case neg =>
      iterate 4
        repeat (any_goals (first
          | exact True.intro
          | (refine ⟨_, drop_id, ?_⟩; conv => whnf)
          | (refine ⟨_, _, at_n, ?_⟩; conv => whnf)
          | (refine ⟨_, _, at_hi, ?_⟩; conv => whnf)
          | (refine ⟨_, _, at_lo, ?_⟩; conv => whnf)
          | (refine ⟨_, _, at_mn, ?_⟩; conv => whnf)
          | (refine ⟨_, _, at_mx, ?_⟩; conv => whnf)
          | (refine ⟨_, _, at_ce, ?_⟩; conv => whnf)
          | (refine ⟨_, _, at_po, ?_⟩; conv => whnf)
          | (refine ⟨_, whole_z sC, clenz sC, ?_⟩; conv => whnf)
          | (refine ⟨_, setzC, ?_⟩; conv => whnf)
          | (refine And.intro (clenz sC) ?_; conv => whnf)
          | (refine And.intro fitzC ?_; conv => whnf)
          | (refine ⟨_, whole_cell sC hl, clen sC hl, ?_⟩; conv => whnf)
          | (refine And.intro (clen sC hl) ?_; conv => whnf)
          | (refine And.intro (fitC hl) ?_; conv => whnf)
          | (refine ⟨_, setC hl, ?_⟩; conv => whnf)
          | (refine ⟨_, whole_z sF, clenz sF, ?_⟩; conv => whnf)
          | (refine ⟨_, setzF, ?_⟩; conv => whnf)
          | (refine And.intro (clenz sF) ?_; conv => whnf)
          | (refine And.intro fitzF ?_; conv => whnf)
          | (refine ⟨_, whole_cell sF hl, clen sF hl, ?_⟩; conv => whnf)
          | (refine And.intro (clen sF hl) ?_; conv => whnf)
          | (refine And.intro (fitF hl) ?_; conv => whnf)
          | (refine ⟨_, setF hl, ?_⟩; conv => whnf)
          | (refine And.intro (fit1 hl (by decide)) ?_; conv => whnf)
          | (refine And.intro (fit1 rfl (by decide)) ?_; conv => whnf)
          | (refine ⟨_, sum_cell s25, rfl, ?_⟩; conv => whnf)
          | (refine ⟨_, set_n _, ?_⟩; conv => whnf)
          | (refine ⟨_, set_mn _, ?_⟩; conv => whnf)
          | (refine ⟨_, set_mx _, ?_⟩; conv => whnf)
          | (refine ⟨_, set_ce _, ?_⟩; conv => whnf)
          | (refine ⟨_, set_po _, ?_⟩; conv => whnf)
          | (refine ⟨_, set_s _, ?_⟩; conv => whnf)
          | (refine ⟨_, set_hi _, ?_⟩; conv => whnf)
          | (refine ⟨_, set_lo _, ?_⟩; conv => whnf)
          | (refine ⟨_, hist_cell s69 hl, whole_len s69 hl, ?_⟩; conv => whnf)
          | (refine And.intro (fun _ => ?_) tf; conv => whnf)
          | (refine And.intro ft (fun _ => ?_); conv => whnf)
          | (refine And.intro (by kernel_rfl) ?_; conv => whnf)
          | (refine And.intro (by decide) ?_; conv => whnf)
          | (refine And.intro (fun _ => ?_) (fun h => absurd h (by decide)); conv => whnf)
          | (refine And.intro (fun h => absurd h (by decide)) (fun _ => ?_); conv => whnf)
          | (refine And.intro (fun _ => ?_) (fun _ => ?_) <;> conv => whnf)
          | (refine ⟨_, _, t1.pu rfl rfl, ?_⟩; conv => whnf)
          | (refine ⟨_, _, w1.pu rfl rfl, ?_⟩; conv => whnf)
          | (refine ⟨_, _, neS (by kernel_rfl), ?_⟩; conv => whnf)))
        all_goals try (exfalso; simp only [decide_eq_true_eq, decide_eq_false_iff_not, Bool.not_eq_true', Bool.not_eq_false', Bool.not_eq_true, Bool.not_eq_false, beq_iff_eq, bne_iff_ne, beq_eq_false_iff_ne, bne_eq_false_iff_eq, ne_eq, Decidable.not_not] at *; first | omega | contradiction | (simp_all; done) | (simp_all; omega))
        all_goals try (refine Or.inl ?_; conv => whnf)
      all_goals try exact (no_way2 h3 ‹_›).elim
      rw [right_no3 h3]
      all_goals refine ⟨[], ?_⟩
      repeat (any_goals (first | exact True.intro | exact rfl | with_reducible_and_instances rfl | exact (by kernel_rfl) | refine And.intro ?_ ?_))
      all_goals conv => whnf
    by_cases h4 : c.n = 0
    case pos =>
      rw [right_zero h0 ho h3 h4]
      iterate 6
        repeat (any_goals (first
          | exact True.intro
          | (refine ⟨_, drop_id, ?_⟩; conv => whnf)
          | (refine ⟨_, _, at_n, ?_⟩; conv => whnf)
          | (refine ⟨_, _, at_hi, ?_⟩; conv => whnf)
          | (refine ⟨_, _, at_lo, ?_⟩; conv => whnf)
          | (refine ⟨_, _, at_mn, ?_⟩; conv => whnf)
          | (refine ⟨_, _, at_mx, ?_⟩; conv => whnf)
          | (refine ⟨_, _, at_ce, ?_⟩; conv => whnf)
          | (refine ⟨_, _, at_po, ?_⟩; conv => whnf)
          | (refine ⟨_, whole_z sC, clenz sC, ?_⟩; conv => whnf)
          | (refine ⟨_, setzC, ?_⟩; conv => whnf)
          | (refine And.intro (clenz sC) ?_; conv => whnf)
          | (refine And.intro fitzC ?_; conv => whnf)
          | (refine ⟨_, whole_cell sC hl, clen sC hl, ?_⟩; conv => whnf)
          | (refine And.intro (clen sC hl) ?_; conv => whnf)
          | (refine And.intro (fitC hl) ?_; conv => whnf)
          | (refine ⟨_, setC hl, ?_⟩; conv => whnf)
          | (refine ⟨_, whole_z sF, clenz sF, ?_⟩; conv => whnf)
          | (refine ⟨_, setzF, ?_⟩; conv => whnf)
          | (refine And.intro (clenz sF) ?_; conv => whnf)
          | (refine And.intro fitzF ?_; conv => whnf)
          | (refine ⟨_, whole_cell sF hl, clen sF hl, ?_⟩; conv => whnf)
          | (refine And.intro (clen sF hl) ?_; conv => whnf)
          | (refine And.intro (fitF hl) ?_; conv => whnf)
          | (refine ⟨_, setF hl, ?_⟩; conv => whnf)
          | (refine And.intro (fit1 hl (by decide)) ?_; conv => whnf)
          | (refine And.intro (fit1 rfl (by decide)) ?_; conv => whnf)
          | (refine ⟨_, sum_cell s25, rfl, ?_⟩; conv => whnf)
          | (refine ⟨_, set_n _, ?_⟩; conv => whnf)
          | (refine ⟨_, set_mn _, ?_⟩; conv => whnf)
          | (refine ⟨_, set_mx _, ?_⟩; conv => whnf)
          | (refine ⟨_, set_ce _, ?_⟩; conv => whnf)
          | (refine ⟨_, set_po _, ?_⟩; conv => whnf)
          | (refine ⟨_, set_s _, ?_⟩; conv => whnf)
          | (refine ⟨_, set_hi _, ?_⟩; conv => whnf)
          | (refine ⟨_, set_lo _, ?_⟩; conv => whnf)
          | (refine ⟨_, hist_cell s69 hl, whole_len s69 hl, ?_⟩; conv => whnf)
          | (refine And.intro (fun _ => ?_) tf; conv => whnf)
          | (refine And.intro ft (fun _ => ?_); conv => whnf)
          | (refine And.intro (by kernel_rfl) ?_; conv => whnf)
          | (refine And.intro (by decide) ?_; conv => whnf)
          | (refine And.intro (fun _ => ?_) (fun h => absurd h (by decide)); conv => whnf)
          | (refine And.intro (fun h => absurd h (by decide)) (fun _ => ?_); conv => whnf)
          | (refine And.intro (fun _ => ?_) (fun _ => ?_) <;> conv => whnf)
          | (refine ⟨_, _, t1.pu rfl rfl, ?_⟩; conv => whnf)
          | (refine ⟨_, _, w1.pu rfl rfl, ?_⟩; conv => whnf)
          | (refine ⟨_, _, neS (by kernel_rfl), ?_⟩; conv => whnf)
          | (refine ⟨_, _, eqS (by kernel_rfl), ?_⟩; conv => whnf)))
        all_goals try (exfalso; simp only [decide_eq_true_eq, decide_eq_false_iff_not, Bool.not_eq_true', Bool.not_eq_false', Bool.not_eq_true, Bool.not_eq_false, beq_iff_eq, bne_iff_ne, beq_eq_false_iff_ne, bne_eq_false_iff_eq, ne_eq, Decidable.not_not] at *; first | omega | contradiction | (simp_all; done) | (simp_all; omega))
        all_goals try (refine Or.inl ?_; conv => whnf)
      all_goals try exact (no_way h3 ‹_›).elim
      · rw [zz1 ‹_› ‹_›]
        all_goals refine ⟨[], ?_⟩
        repeat (any_goals (first | exact True.intro | exact rfl | with_reducible_and_instances rfl | exact (by kernel_rfl) | refine And.intro ?_ ?_))
        all_goals conv => whnf
      · rw [zz2 ‹_›]
        all_goals refine ⟨[], ?_⟩
        repeat (any_goals (first | exact True.intro | exact rfl | with_reducible_and_instances rfl | exact (by kernel_rfl) | refine And.intro ?_ ?_))
        all_goals conv => whnf
      · rw [zz3 ‹_›]
        all_goals refine ⟨[], ?_⟩
        repeat (any_goals (first | exact True.intro | exact rfl | with_reducible_and_instances rfl | exact (by kernel_rfl) | refine And.intro ?_ ?_))
        all_goals conv => whnf
    rw [right_some h0 ho h3 h4]
    iterate 8
      repeat (any_goals (first
        | exact True.intro
        | (refine ⟨_, drop_id, ?_⟩; conv => whnf)
        | (refine ⟨_, _, at_n, ?_⟩; conv => whnf)
        | (refine ⟨_, _, at_hi, ?_⟩; conv => whnf)
        | (refine ⟨_, _, at_lo, ?_⟩; conv => whnf)
        | (refine ⟨_, _, at_mn, ?_⟩; conv => whnf)
        | (refine ⟨_, _, at_mx, ?_⟩; conv => whnf)
        | (refine ⟨_, _, at_ce, ?_⟩; conv => whnf)
        | (refine ⟨_, _, at_po, ?_⟩; conv => whnf)
        | (refine ⟨_, whole_z sC, clenz sC, ?_⟩; conv => whnf)
        | (refine ⟨_, setzC, ?_⟩; conv => whnf)
        | (refine And.intro (clenz sC) ?_; conv => whnf)
        | (refine And.intro fitzC ?_; conv => whnf)
        | (refine ⟨_, whole_cell sC hl, clen sC hl, ?_⟩; conv => whnf)
        | (refine And.intro (clen sC hl) ?_; conv => whnf)
        | (refine And.intro (fitC hl) ?_; conv => whnf)
        | (refine ⟨_, setC hl, ?_⟩; conv => whnf)
        | (refine ⟨_, whole_z sF, clenz sF, ?_⟩; conv => whnf)
        | (refine ⟨_, setzF, ?_⟩; conv => whnf)
        | (refine And.intro (clenz sF) ?_; conv => whnf)
        | (refine And.intro fitzF ?_; conv => whnf)
        | (refine ⟨_, whole_cell sF hl, clen sF hl, ?_⟩; conv => whnf)
        | (refine And.intro (clen sF hl) ?_; conv => whnf)
        | (refine And.intro (fitF hl) ?_; conv => whnf)
        | (refine ⟨_, setF hl, ?_⟩; conv => whnf)
        | (refine And.intro (fit1 hl (by decide)) ?_; conv => whnf)
        | (refine And.intro (fit1 rfl (by decide)) ?_; conv => whnf)
        | (refine ⟨_, sum_cell s25, rfl, ?_⟩; conv => whnf)
        | (refine ⟨_, set_n _, ?_⟩; conv => whnf)
        | (refine ⟨_, set_mn _, ?_⟩; conv => whnf)
        | (refine ⟨_, set_mx _, ?_⟩; conv => whnf)
        | (refine ⟨_, set_ce _, ?_⟩; conv => whnf)
        | (refine ⟨_, set_po _, ?_⟩; conv => whnf)
        | (refine ⟨_, set_s _, ?_⟩; conv => whnf)
        | (refine ⟨_, set_hi _, ?_⟩; conv => whnf)
        | (refine ⟨_, set_lo _, ?_⟩; conv => whnf)
        | (refine ⟨bkt c.mn, rfl, Nat.lt_of_lt_of_eq k1 l27.symm, ?_⟩; conv => whnf)
        | (refine ⟨bkt c.mx, rfl, Nat.lt_of_lt_of_eq k2 l27.symm, ?_⟩; conv => whnf)
        | (refine ⟨_, _, at_h hl k1, ?_⟩; conv => whnf)
        | (refine ⟨_, _, at_h hl k2, ?_⟩; conv => whnf)
        | (refine ⟨_, hist_cell s69 hl, whole_len s69 hl, ?_⟩; conv => whnf)
        | (refine And.intro (fun _ => ?_) tf; conv => whnf)
        | (refine And.intro ft (fun _ => ?_); conv => whnf)
        | (refine And.intro (by kernel_rfl) ?_; conv => whnf)
        | (refine And.intro (by decide) ?_; conv => whnf)
        | (refine And.intro (fun _ => ?_) (fun h => absurd h (by decide)); conv => whnf)
        | (refine And.intro (fun h => absurd h (by decide)) (fun _ => ?_); conv => whnf)
        | (refine And.intro (fun _ => ?_) (fun _ => ?_) <;> conv => whnf)
        | (refine ⟨_, _, t1.pu rfl rfl, ?_⟩; conv => whnf)
        | (refine ⟨_, _, w1.pu rfl rfl, ?_⟩; conv => whnf)
        | (refine ⟨_, _, b1.pu rfl rfl, ?_⟩; conv => whnf)
        | (refine ⟨_, _, b2.pu rfl rfl, ?_⟩; conv => whnf)
        | (refine ⟨_, _, neS (by kernel_rfl), ?_⟩; conv => whnf)
        | (refine ⟨_, _, f1.nw rfl, ?_⟩; conv => whnf)))
      all_goals try (exfalso; simp only [decide_eq_true_eq, decide_eq_false_iff_not, Bool.not_eq_true', Bool.not_eq_false', Bool.not_eq_true, Bool.not_eq_false, beq_iff_eq, bne_iff_ne, beq_eq_false_iff_ne, bne_eq_false_iff_eq, ne_eq, Decidable.not_not] at *; first | omega | contradiction | (simp_all; done) | (simp_all; omega))
      all_goals try (refine Or.inl ?_; conv => whnf)
    all_goals try exact (no_way h3 ‹_›).elim
    · rw [rr2 ‹_›]
      all_goals refine ⟨[], ?_⟩
      repeat (any_goals (first | exact True.intro | exact rfl | with_reducible_and_instances rfl | exact (by kernel_rfl) | refine And.intro ?_ ?_))
      all_goals conv => whnf
    · have q1 := rr3 (c := c) ‹_› ‹_›
      rw [q1]
      refine ⟨Nat, Nat, fun y z => z = y ∧ y ≤ 65 ∧ ∀ b, b < y → hAt c.h b ≠ 0 → bkt c.mn ≤ b ∧ b ≤ bkt c.mx, fun _ => [.row (cR c), .cells [bA false], .cells [iA (bkt c.mn)], .cells [iA (bkt c.mx)], .row (hR c.h)], [(80, .fn (.func 80) [] [.ptr 4 0]), (6, .ptr 3 0), (5, .ptr 2 0), (2, .ptr 1 0), (1, .ptr 0 0)], 5, _, _, _, ([.dead, .dead, .dead, .dead, .row (hR c.h)], none), 0, _, _, ⟨0, ⟨rfl, by omega, fun b hb => absurd hb (by omega)⟩, ?_⟩, rfl, rfl, fullN hl rfl, ?_, ?_, ?_, ?_⟩
      · all_goals refine ⟨[], ?_⟩
        repeat (any_goals (first | exact True.intro | exact rfl | with_reducible_and_instances rfl | exact (by kernel_rfl) | refine And.intro ?_ ?_))
        all_goals conv => whnf
      · rintro y x y' ⟨b, v, _, rfl⟩; rfl
      · rintro y z _; exact ⟨⟨rfl, trivial⟩, Nat.le_refl _⟩
      · rintro y z x y' ⟨rfl, hy, hall⟩ ⟨b, v, ⟨hyb, hb, hbv, hv0, hz, rfl⟩, rfl⟩
        have hne : hAt c.h b ≠ 0 := by unfold hAt; rw [hbv]; exact hv0
        conv => whnf
        by_cases h5 : bkt c.mn ≤ b ∧ b ≤ bkt c.mx
        · iterate 3
            repeat (any_goals (first
              | exact True.intro
              | (refine And.intro (fun _ => ?_) tf; conv => whnf)
              | (refine And.intro ft (fun _ => ?_); conv => whnf)
              | (refine And.intro (by kernel_rfl) ?_; conv => whnf)
              | (refine And.intro (by decide) ?_; conv => whnf)
              | (refine And.intro (fun _ => ?_) (fun h => absurd h (by decide)); conv => whnf)
              | (refine And.intro (fun h => absurd h (by decide)) (fun _ => ?_); conv => whnf)
              | (refine And.intro (fun _ => ?_) (fun _ => ?_) <;> conv => whnf)))
            all_goals try (exfalso; simp only [decide_eq_true_eq, decide_eq_false_iff_not, Bool.not_eq_true', Bool.not_eq_false', Bool.not_eq_true, Bool.not_eq_false, beq_iff_eq, bne_iff_ne, beq_eq_false_iff_ne, bne_eq_false_iff_eq, ne_eq, Decidable.not_not] at *; first | omega | contradiction | (simp_all; done) | (simp_all; omega))
            all_goals try (refine Or.inl ?_; conv => whnf)
          refine ⟨b + 1, ⟨rfl, by omega, fun j hj hjn => ?_⟩, ?_⟩
          · by_cases e : j = b
            · subst e; exact h5
            · refine hall j ?_ hjn
              by_cases q : z ≤ j
              · exact absurd (by unfold hAt; rw [hz j q (by omega)]; rfl) hjn
              · omega
          · all_goals refine ⟨[], ?_⟩
            repeat (any_goals (first | exact True.intro | exact rfl | with_reducible_and_instances rfl | exact (by kernel_rfl) | refine And.intro ?_ ?_))
            all_goals conv => whnf
        · rw [inB_no hb hne (by omega)]
          iterate 3
            repeat (any_goals (first
              | exact True.intro
              | (refine And.intro (fun _ => ?_) tf; conv => whnf)
              | (refine And.intro ft (fun _ => ?_); conv => whnf)
              | (refine And.intro (by kernel_rfl) ?_; conv => whnf)
              | (refine And.intro (by decide) ?_; conv => whnf)
              | (refine And.intro (fun _ => ?_) (fun h => absurd h (by decide)); conv => whnf)
              | (refine And.intro (fun h => absurd h (by decide)) (fun _ => ?_); conv => whnf)
              | (refine And.intro (fun _ => ?_) (fun _ => ?_) <;> conv => whnf)))
            all_goals try (exfalso; simp only [decide_eq_true_eq, decide_eq_false_iff_not, Bool.not_eq_true', Bool.not_eq_false', Bool.not_eq_true, Bool.not_eq_false, beq_iff_eq, bne_iff_ne, beq_eq_false_iff_ne, bne_eq_false_iff_eq, ne_eq, Decidable.not_not] at *; first | omega | contradiction | (simp_all; done) | (simp_all; omega))
            all_goals try (refine Or.inl ?_; conv => whnf)
          all_goals refine ⟨[], ?_⟩
          repeat (any_goals (first | exact True.intro | exact rfl | with_reducible_and_instances rfl | exact (by kernel_rfl) | refine And.intro ?_ ?_))
          all_goals conv => whnf
      · rintro y z ⟨hy2, hz⟩ ⟨rfl, hy, hall⟩
        rw [inB_yes fun b hb hbn => by
          by_cases q : z ≤ b
          · exact absurd (by unfold hAt; rw [hz b q hb]; rfl) hbn
          · exact hall b (by omega) hbn]
        conv => whnf
        iterate 3
          repeat (any_goals (first
            | exact True.intro
            | (refine And.intro (fun _ => ?_) tf; conv => whnf)
            | (refine And.intro ft (fun _ => ?_); conv => whnf)
            | (refine And.intro (by kernel_rfl) ?_; conv => whnf)
            | (refine And.intro (by decide) ?_; conv => whnf)
            | (refine And.intro (fun _ => ?_) (fun h => absurd h (by decide)); conv => whnf)
            | (refine And.intro (fun h => absurd h (by decide)) (fun _ => ?_); conv => whnf)
            | (refine And.intro (fun _ => ?_) (fun _ => ?_) <;> conv => whnf)))
          all_goals try (exfalso; simp only [decide_eq_true_eq, decide_eq_false_iff_not, Bool.not_eq_true', Bool.not_eq_false', Bool.not_eq_true, Bool.not_eq_false, beq_iff_eq, bne_iff_ne, beq_eq_false_iff_ne, bne_eq_false_iff_eq, ne_eq, Decidable.not_not] at *; first | omega | contradiction | (simp_all; done) | (simp_all; omega))
          all_goals try (refine Or.inl ?_; conv => whnf)
        all_goals refine ⟨[], ?_⟩
        repeat (any_goals (first | exact True.intro | exact rfl | with_reducible_and_instances rfl | exact (by kernel_rfl) | refine And.intro ?_ ?_))
        all_goals conv => whnf
    · rw [rr1 ‹_›]
      all_goals refine ⟨[], ?_⟩
      repeat (any_goals (first | exact True.intro | exact rfl | with_reducible_and_instances rfl | exact (by kernel_rfl) | refine And.intro ?_ ?_))
      all_goals conv => whnf
end Go.Proofs.Ytbjmdnemeidpjaa
/- Add, Fold of cells. -/
namespace Go.Proofs.Ytbjmdnemeidpjaa
set_option linter.unusedSimpArgs false
set_option linter.unusedVariables false
open Go.RowKit
set_option maxRecDepth 100000
theorem hist_fit {c : Cel} {h : List Int} (hc : c.h.length = 65) (hh : h.length = 65) : 0 + 7 + (hR h).length ≤ (cR c).length := by rw [cR_len hc, hR_len]; omega
theorem sum_fit {c : Cel} {x y : D} (hc : c.h.length = 65) : 0 + 1 + [x, y].length ≤ (cR c).length := by rw [cR_len hc]; simp
theorem min_if (m v : Int) : min m v = if v < m then v else m := by split <;> omega
theorem max_if (m v : Int) : max m v = if v > m then v else m := by split <;> omega
set_option maxHeartbeats 4000000 in
theorem add_sat_c (c : Cel) (v : Int) (hc : CelOK c) (hv : in64 v) : Sat Try.prog 15 [.d (cD c), iA v] [] (.tup [.d (cD (addC c v).1), iA (addC c v).2]) [] := by
  have hl := hc.hl
  have r1 := right_sat_c c hc

  by_cases hr : rightC c = true
  case neg =>
    have hr : rightC c = false := by simpa using hr
    have e : addC c v = (zC, 10) := by unfold addC; rw [if_pos hr]
    rw [e]
    rw [hr] at r1
    refine sat_of_vc (T := tiOf Try.prog) (E := E0) Try.func15 rfl rfl hE0 hm0 rfl ?_
    conv => whnf
    iterate 3
      repeat (any_goals (first
        | exact True.intro
        | (refine ⟨_, drop_id, ?_⟩; conv => whnf)
        | (refine ⟨_, _, at_n, ?_⟩; conv => whnf)
        | (refine ⟨_, _, at_hi, ?_⟩; conv => whnf)
        | (refine ⟨_, _, at_lo, ?_⟩; conv => whnf)
        | (refine ⟨_, _, at_mn, ?_⟩; conv => whnf)
        | (refine ⟨_, _, at_mx, ?_⟩; conv => whnf)
        | (refine ⟨_, _, at_ce, ?_⟩; conv => whnf)
        | (refine ⟨_, _, at_po, ?_⟩; conv => whnf)
        | (refine ⟨_, whole_z sC, clenz sC, ?_⟩; conv => whnf)
        | (refine ⟨_, setzC, ?_⟩; conv => whnf)
        | (refine And.intro (clenz sC) ?_; conv => whnf)
        | (refine And.intro fitzC ?_; conv => whnf)
        | (refine ⟨_, whole_cell sC hl, clen sC hl, ?_⟩; conv => whnf)
        | (refine And.intro (clen sC hl) ?_; conv => whnf)
        | (refine And.intro (fitC hl) ?_; conv => whnf)
        | (refine ⟨_, setC hl, ?_⟩; conv => whnf)
        | (refine ⟨_, whole_z sF, clenz sF, ?_⟩; conv => whnf)
        | (refine ⟨_, setzF, ?_⟩; conv => whnf)
        | (refine And.intro (clenz sF) ?_; conv => whnf)
        | (refine And.intro fitzF ?_; conv => whnf)
        | (refine ⟨_, whole_cell sF hl, clen sF hl, ?_⟩; conv => whnf)
        | (refine And.intro (clen sF hl) ?_; conv => whnf)
        | (refine And.intro (fitF hl) ?_; conv => whnf)
        | (refine ⟨_, setF hl, ?_⟩; conv => whnf)
        | (refine And.intro (fit1 hl (by decide)) ?_; conv => whnf)
        | (refine And.intro (fit1 rfl (by decide)) ?_; conv => whnf)
        | (refine ⟨_, sum_cell s25, rfl, ?_⟩; conv => whnf)
        | (refine ⟨_, set_n _, ?_⟩; conv => whnf)
        | (refine ⟨_, set_mn _, ?_⟩; conv => whnf)
        | (refine ⟨_, set_mx _, ?_⟩; conv => whnf)
        | (refine ⟨_, set_ce _, ?_⟩; conv => whnf)
        | (refine ⟨_, set_po _, ?_⟩; conv => whnf)
        | (refine ⟨_, set_s _, ?_⟩; conv => whnf)
        | (refine ⟨_, set_hi _, ?_⟩; conv => whnf)
        | (refine ⟨_, set_lo _, ?_⟩; conv => whnf)
        | (refine And.intro (fun _ => ?_) tf; conv => whnf)
        | (refine And.intro ft (fun _ => ?_); conv => whnf)
        | (refine And.intro (by kernel_rfl) ?_; conv => whnf)
        | (refine And.intro (by decide) ?_; conv => whnf)
        | (refine And.intro (fun _ => ?_) (fun h => absurd h (by decide)); conv => whnf)
        | (refine And.intro (fun h => absurd h (by decide)) (fun _ => ?_); conv => whnf)
        | (refine And.intro (fun _ => ?_) (fun _ => ?_) <;> conv => whnf)
        | (refine ⟨_, _, r1.pu rfl rfl, ?_⟩; conv => whnf)))
      all_goals try (exfalso; simp only [decide_eq_true_eq, decide_eq_false_iff_not, Bool.not_eq_true', Bool.not_eq_false', Bool.not_eq_true, Bool.not_eq_false, beq_iff_eq, bne_iff_ne, beq_eq_false_iff_ne, bne_eq_false_iff_eq, ne_eq, Decidable.not_not] at *; first | omega | contradiction | (simp_all; done) | (simp_all; omega))
      all_goals try (refine Or.inl ?_; conv => whnf)
    all_goals refine ⟨[], ?_⟩
    repeat (any_goals (first | exact True.intro | exact rfl | with_reducible_and_instances rfl | exact (by kernel_rfl) | refine And.intro ?_ ?_))
    all_goals conv => whnf
  have hR := right_iff.1 hr
  rw [hr] at r1
  have sa := safeAdd_sat c.n 1 hc.n (by unfold in64; omega)
  have hn0 := hR.n
  by_cases hn : c.n = big
  · have e : addC c v = (zC, 12) := by unfold addC; rw [if_neg (by rw [hr]; simp), if_pos hn]
    have e2 : addR c.n 1 = (0, 12) := by unfold addR; rw [if_pos (by rw [hn]; unfold big; omega)]
    rw [e]
    rw [e2] at sa
    refine sat_of_vc (T := tiOf Try.prog) (E := E0) Try.func15 rfl rfl hE0 hm0 rfl ?_
    conv => whnf
    iterate 4
      repeat (any_goals (first
        | exact True.intro
        | (refine ⟨_, drop_id, ?_⟩; conv => whnf)
        | (refine ⟨_, _, at_n, ?_⟩; conv => whnf)
        | (refine ⟨_, _, at_hi, ?_⟩; conv => whnf)
        | (refine ⟨_, _, at_lo, ?_⟩; conv => whnf)
        | (refine ⟨_, _, at_mn, ?_⟩; conv => whnf)
        | (refine ⟨_, _, at_mx, ?_⟩; conv => whnf)
        | (refine ⟨_, _, at_ce, ?_⟩; conv => whnf)
        | (refine ⟨_, _, at_po, ?_⟩; conv => whnf)
        | (refine ⟨_, whole_z sC, clenz sC, ?_⟩; conv => whnf)
        | (refine ⟨_, setzC, ?_⟩; conv => whnf)
        | (refine And.intro (clenz sC) ?_; conv => whnf)
        | (refine And.intro fitzC ?_; conv => whnf)
        | (refine ⟨_, whole_cell sC hl, clen sC hl, ?_⟩; conv => whnf)
        | (refine And.intro (clen sC hl) ?_; conv => whnf)
        | (refine And.intro (fitC hl) ?_; conv => whnf)
        | (refine ⟨_, setC hl, ?_⟩; conv => whnf)
        | (refine ⟨_, whole_z sF, clenz sF, ?_⟩; conv => whnf)
        | (refine ⟨_, setzF, ?_⟩; conv => whnf)
        | (refine And.intro (clenz sF) ?_; conv => whnf)
        | (refine And.intro fitzF ?_; conv => whnf)
        | (refine ⟨_, whole_cell sF hl, clen sF hl, ?_⟩; conv => whnf)
        | (refine And.intro (clen sF hl) ?_; conv => whnf)
        | (refine And.intro (fitF hl) ?_; conv => whnf)
        | (refine ⟨_, setF hl, ?_⟩; conv => whnf)
        | (refine And.intro (fit1 hl (by decide)) ?_; conv => whnf)
        | (refine And.intro (fit1 rfl (by decide)) ?_; conv => whnf)
        | (refine ⟨_, sum_cell s25, rfl, ?_⟩; conv => whnf)
        | (refine ⟨_, set_n _, ?_⟩; conv => whnf)
        | (refine ⟨_, set_mn _, ?_⟩; conv => whnf)
        | (refine ⟨_, set_mx _, ?_⟩; conv => whnf)
        | (refine ⟨_, set_ce _, ?_⟩; conv => whnf)
        | (refine ⟨_, set_po _, ?_⟩; conv => whnf)
        | (refine ⟨_, set_s _, ?_⟩; conv => whnf)
        | (refine ⟨_, set_hi _, ?_⟩; conv => whnf)
        | (refine ⟨_, set_lo _, ?_⟩; conv => whnf)
        | (refine And.intro (fun _ => ?_) tf; conv => whnf)
        | (refine And.intro ft (fun _ => ?_); conv => whnf)
        | (refine And.intro (by kernel_rfl) ?_; conv => whnf)
        | (refine And.intro (by decide) ?_; conv => whnf)
        | (refine And.intro (fun _ => ?_) (fun h => absurd h (by decide)); conv => whnf)
        | (refine And.intro (fun h => absurd h (by decide)) (fun _ => ?_); conv => whnf)
        | (refine And.intro (fun _ => ?_) (fun _ => ?_) <;> conv => whnf)
        | (refine ⟨_, _, r1.pu rfl rfl, ?_⟩; conv => whnf)
        | (refine ⟨_, _, sa.pu rfl rfl, ?_⟩; conv => whnf)))
      all_goals try (exfalso; simp only [decide_eq_true_eq, decide_eq_false_iff_not, Bool.not_eq_true', Bool.not_eq_false', Bool.not_eq_true, Bool.not_eq_false, beq_iff_eq, bne_iff_ne, beq_eq_false_iff_ne, bne_eq_false_iff_eq, ne_eq, Decidable.not_not] at *; first | omega | contradiction | (simp_all; done) | (simp_all; omega))
      all_goals try (refine Or.inl ?_; conv => whnf)
    all_goals refine ⟨[], ?_⟩
    repeat (any_goals (first | exact True.intro | exact rfl | with_reducible_and_instances rfl | exact (by kernel_rfl) | refine And.intro ?_ ?_))
    all_goals conv => whnf
  have e2 : addR c.n 1 = (c.n + 1, 0) := by unfold addR; rw [if_neg (by have := hc.n; unfold in64 at this; unfold big at hn; omega)]
  rw [e2] at sa
  have wo := wof_sat v hv
  have wa := wadd_sat c.s v hc.s (by unfold in128 hiZ word; unfold in64 at *; omega)
  by_cases hs : in128 (c.s + v)
  case neg =>
    have e : addC c v = (zC, 12) := by unfold addC; rw [if_neg (by rw [hr]; simp), if_neg hn, if_pos hs]
    rw [e]
    rw [if_neg hs] at wa
    refine sat_of_vc (T := tiOf Try.prog) (E := E0) Try.func15 rfl rfl hE0 hm0 rfl ?_
    conv => whnf
    iterate 5
      repeat (any_goals (first
        | exact True.intro
        | (refine ⟨_, drop_id, ?_⟩; conv => whnf)
        | (refine ⟨_, _, at_n, ?_⟩; conv => whnf)
        | (refine ⟨_, _, at_hi, ?_⟩; conv => whnf)
        | (refine ⟨_, _, at_lo, ?_⟩; conv => whnf)
        | (refine ⟨_, _, at_mn, ?_⟩; conv => whnf)
        | (refine ⟨_, _, at_mx, ?_⟩; conv => whnf)
        | (refine ⟨_, _, at_ce, ?_⟩; conv => whnf)
        | (refine ⟨_, _, at_po, ?_⟩; conv => whnf)
        | (refine ⟨_, whole_z sC, clenz sC, ?_⟩; conv => whnf)
        | (refine ⟨_, setzC, ?_⟩; conv => whnf)
        | (refine And.intro (clenz sC) ?_; conv => whnf)
        | (refine And.intro fitzC ?_; conv => whnf)
        | (refine ⟨_, whole_cell sC hl, clen sC hl, ?_⟩; conv => whnf)
        | (refine And.intro (clen sC hl) ?_; conv => whnf)
        | (refine And.intro (fitC hl) ?_; conv => whnf)
        | (refine ⟨_, setC hl, ?_⟩; conv => whnf)
        | (refine ⟨_, whole_z sF, clenz sF, ?_⟩; conv => whnf)
        | (refine ⟨_, setzF, ?_⟩; conv => whnf)
        | (refine And.intro (clenz sF) ?_; conv => whnf)
        | (refine And.intro fitzF ?_; conv => whnf)
        | (refine ⟨_, whole_cell sF hl, clen sF hl, ?_⟩; conv => whnf)
        | (refine And.intro (clen sF hl) ?_; conv => whnf)
        | (refine And.intro (fitF hl) ?_; conv => whnf)
        | (refine ⟨_, setF hl, ?_⟩; conv => whnf)
        | (refine And.intro (fit1 hl (by decide)) ?_; conv => whnf)
        | (refine And.intro (fit1 rfl (by decide)) ?_; conv => whnf)
        | (refine ⟨_, sum_cell s25, rfl, ?_⟩; conv => whnf)
        | (refine ⟨_, set_n _, ?_⟩; conv => whnf)
        | (refine ⟨_, set_mn _, ?_⟩; conv => whnf)
        | (refine ⟨_, set_mx _, ?_⟩; conv => whnf)
        | (refine ⟨_, set_ce _, ?_⟩; conv => whnf)
        | (refine ⟨_, set_po _, ?_⟩; conv => whnf)
        | (refine ⟨_, set_s _, ?_⟩; conv => whnf)
        | (refine ⟨_, set_hi _, ?_⟩; conv => whnf)
        | (refine ⟨_, set_lo _, ?_⟩; conv => whnf)
        | (refine And.intro (fun _ => ?_) tf; conv => whnf)
        | (refine And.intro ft (fun _ => ?_); conv => whnf)
        | (refine And.intro (by kernel_rfl) ?_; conv => whnf)
        | (refine And.intro (by decide) ?_; conv => whnf)
        | (refine And.intro (fun _ => ?_) (fun h => absurd h (by decide)); conv => whnf)
        | (refine And.intro (fun h => absurd h (by decide)) (fun _ => ?_); conv => whnf)
        | (refine And.intro (fun _ => ?_) (fun _ => ?_) <;> conv => whnf)
        | (refine ⟨_, _, r1.pu rfl rfl, ?_⟩; conv => whnf)
        | (refine ⟨_, _, sa.pu rfl rfl, ?_⟩; conv => whnf)
        | (refine ⟨_, _, wo.pu rfl rfl, ?_⟩; conv => whnf)
        | (refine ⟨_, _, wa.pu rfl rfl, ?_⟩; conv => whnf)))
      all_goals try (exfalso; simp only [decide_eq_true_eq, decide_eq_false_iff_not, Bool.not_eq_true', Bool.not_eq_false', Bool.not_eq_true, Bool.not_eq_false, beq_iff_eq, bne_iff_ne, beq_eq_false_iff_ne, bne_eq_false_iff_eq, ne_eq, Decidable.not_not] at *; first | omega | contradiction | (simp_all; done) | (simp_all; omega))
      all_goals try (refine Or.inl ?_; conv => whnf)
    all_goals refine ⟨[], ?_⟩
    repeat (any_goals (first | exact True.intro | exact rfl | with_reducible_and_instances rfl | exact (by kernel_rfl) | refine And.intro ?_ ?_))
    all_goals conv => whnf
  rw [if_pos hs] at wa
  obtain ⟨h1, h2⟩ := hist_fine hc hR hv hn
  have ha := add_sat c.h v hl hv hc.hx
  rw [h1, h2] at ha
  have hbl : (bump c.h (bkt v)).length = 65 := by rw [bump_len]; exact hl
  have hf := addC_fine (v := v) hR hn hs
  rw [hf]
  generalize bump c.h (bkt v) = b at *
  generalize c.s + v = s at *
  refine sat_of_vc (T := tiOf Try.prog) (E := E0) Try.func15 rfl rfl hE0 hm0 rfl ?_
  conv => whnf
  iterate 7
    repeat (any_goals (first
      | exact True.intro
      | (refine ⟨_, drop_id, ?_⟩; conv => whnf)
      | (refine ⟨_, _, at_n, ?_⟩; conv => whnf)
      | (refine ⟨_, _, at_hi, ?_⟩; conv => whnf)
      | (refine ⟨_, _, at_lo, ?_⟩; conv => whnf)
      | (refine ⟨_, _, at_mn, ?_⟩; conv => whnf)
      | (refine ⟨_, _, at_mx, ?_⟩; conv => whnf)
      | (refine ⟨_, _, at_ce, ?_⟩; conv => whnf)
      | (refine ⟨_, _, at_po, ?_⟩; conv => whnf)
      | (refine ⟨_, whole_z sC, clenz sC, ?_⟩; conv => whnf)
      | (refine ⟨_, setzC, ?_⟩; conv => whnf)
      | (refine And.intro (clenz sC) ?_; conv => whnf)
      | (refine And.intro fitzC ?_; conv => whnf)
      | (refine ⟨_, whole_cell sC hl, clen sC hl, ?_⟩; conv => whnf)
      | (refine And.intro (clen sC hl) ?_; conv => whnf)
      | (refine And.intro (fitC hl) ?_; conv => whnf)
      | (refine ⟨_, setC hl, ?_⟩; conv => whnf)
      | (refine ⟨_, whole_cell sC hbl, clen sC hbl, ?_⟩; conv => whnf)
      | (refine And.intro (clen sC hbl) ?_; conv => whnf)
      | (refine And.intro (fitC hbl) ?_; conv => whnf)
      | (refine ⟨_, setC hbl, ?_⟩; conv => whnf)
      | (refine ⟨_, whole_z sF, clenz sF, ?_⟩; conv => whnf)
      | (refine ⟨_, setzF, ?_⟩; conv => whnf)
      | (refine And.intro (clenz sF) ?_; conv => whnf)
      | (refine And.intro fitzF ?_; conv => whnf)
      | (refine ⟨_, whole_cell sF hl, clen sF hl, ?_⟩; conv => whnf)
      | (refine And.intro (clen sF hl) ?_; conv => whnf)
      | (refine And.intro (fitF hl) ?_; conv => whnf)
      | (refine ⟨_, setF hl, ?_⟩; conv => whnf)
      | (refine ⟨_, whole_cell sF hbl, clen sF hbl, ?_⟩; conv => whnf)
      | (refine And.intro (clen sF hbl) ?_; conv => whnf)
      | (refine And.intro (fitF hbl) ?_; conv => whnf)
      | (refine ⟨_, setF hbl, ?_⟩; conv => whnf)
      | (refine And.intro (fit1 hl (by decide)) ?_; conv => whnf)
      | (refine And.intro (fit1 hbl (by decide)) ?_; conv => whnf)
      | (refine And.intro (fit1 rfl (by decide)) ?_; conv => whnf)
      | (refine ⟨_, sum_cell s25, rfl, ?_⟩; conv => whnf)
      | (refine ⟨_, set_n _, ?_⟩; conv => whnf)
      | (refine ⟨_, set_mn _, ?_⟩; conv => whnf)
      | (refine ⟨_, set_mx _, ?_⟩; conv => whnf)
      | (refine ⟨_, set_ce _, ?_⟩; conv => whnf)
      | (refine ⟨_, set_po _, ?_⟩; conv => whnf)
      | (refine ⟨_, set_s _, ?_⟩; conv => whnf)
      | (refine ⟨_, set_hi _, ?_⟩; conv => whnf)
      | (refine ⟨_, set_lo _, ?_⟩; conv => whnf)
      | (refine ⟨_, hist_cell s69 hl, whole_len s69 hl, ?_⟩; conv => whnf)
      | (refine ⟨_, whole_row s69 hbl, whole_len s69 hbl, ?_⟩; conv => whnf)
      | (refine And.intro (whole_len s69 hbl) ?_; conv => whnf)
      | (refine And.intro (fit69 hbl) ?_; conv => whnf)
      | (refine ⟨_, set69 hbl, ?_⟩; conv => whnf)
      | (refine And.intro (hist_fit hl hbl) ?_; conv => whnf)
      | (refine ⟨_, set_hh hl hbl, ?_⟩; conv => whnf)
      | (refine And.intro (sum_fit hl) ?_; conv => whnf)
      | (refine And.intro (fun _ => ?_) tf; conv => whnf)
      | (refine And.intro ft (fun _ => ?_); conv => whnf)
      | (refine And.intro (by kernel_rfl) ?_; conv => whnf)
      | (refine And.intro (by decide) ?_; conv => whnf)
      | (refine And.intro (fun _ => ?_) (fun h => absurd h (by decide)); conv => whnf)
      | (refine And.intro (fun h => absurd h (by decide)) (fun _ => ?_); conv => whnf)
      | (refine And.intro (fun _ => ?_) (fun _ => ?_) <;> conv => whnf)
      | (refine ⟨_, _, r1.pu rfl rfl, ?_⟩; conv => whnf)
      | (refine ⟨_, _, sa.pu rfl rfl, ?_⟩; conv => whnf)
      | (refine ⟨_, _, wo.pu rfl rfl, ?_⟩; conv => whnf)
      | (refine ⟨_, _, wa.pu rfl rfl, ?_⟩; conv => whnf)
      | (refine ⟨_, _, ha.pu rfl rfl, ?_⟩; conv => whnf)))
    all_goals try (exfalso; simp only [decide_eq_true_eq, decide_eq_false_iff_not, Bool.not_eq_true', Bool.not_eq_false', Bool.not_eq_true, Bool.not_eq_false, beq_iff_eq, bne_iff_ne, beq_eq_false_iff_ne, bne_eq_false_iff_eq, ne_eq, Decidable.not_not] at *; first | omega | contradiction | (simp_all; done) | (simp_all; omega))
    all_goals try (refine Or.inl ?_; conv => whnf)
  · have q : c.n = 0 := (by (try simp only [decide_eq_true_eq, decide_eq_false_iff_not, Bool.not_eq_true', Bool.not_eq_false', Bool.not_eq_true, Bool.not_eq_false, beq_iff_eq, bne_iff_ne, beq_eq_false_iff_ne, bne_eq_false_iff_eq, ne_eq, Decidable.not_not, Int.natCast_eq_zero] at *); first | omega | assumption | (simp_all; done) | (simp_all; omega))
    rw [if_pos q, if_pos q]
    have e1 : (if v < v then v else v) = v := by split <;> rfl
    rw [e1]
    all_goals refine ⟨[], ?_⟩
    repeat (any_goals (first | exact True.intro | exact rfl | with_reducible_and_instances rfl | exact (by kernel_rfl) | refine And.intro ?_ ?_))
    all_goals conv => whnf
  · have q : ¬ c.n = 0 := (by (try simp only [decide_eq_true_eq, decide_eq_false_iff_not, Bool.not_eq_true', Bool.not_eq_false', Bool.not_eq_true, Bool.not_eq_false, beq_iff_eq, bne_iff_ne, beq_eq_false_iff_ne, bne_eq_false_iff_eq, ne_eq, Decidable.not_not, Int.natCast_eq_zero] at *); first | omega | assumption | (simp_all; done) | (simp_all; omega))
    rw [if_neg q, if_neg q, min_if, max_if]
    all_goals refine ⟨[], ?_⟩
    repeat (any_goals (first | exact True.intro | exact rfl | with_reducible_and_instances rfl | exact (by kernel_rfl) | refine And.intro ?_ ?_))
    all_goals conv => whnf
end Go.Proofs.Ytbjmdnemeidpjaa
/- Fold of a cell. -/
namespace Go.Proofs.Ytbjmdnemeidpjaa
set_option linter.unusedSimpArgs false
set_option linter.unusedVariables false
open Go.RowKit
set_option maxRecDepth 100000
theorem wsum_sat (l : List Int) (hl : ∀ z ∈ l, in64 z) (hn : l.length ≤ 60000) : Sat Try.prog 29 [.d (lD l)] [] (.d (wD l.sum)) [] :=
  .of_sl (lR_flats l) .nil (.d (wD_flat _)) fun w A c _ _ hr => by
    rw [List.length_map] at hr ⊢
    exact sum_any A l.length c l w hr (by omega) hl
theorem build_cell {n s : Int} {h : List Int} (hh : h.length = 65) : sets (sets (sets (List.map D.v (tiOf Try.prog 29).zero) 0 [iD n]) 1 [iD (hiZ s), uZ (loZ s)]) 7 (hR h) = cR ⟨n, s, 0, 0, 0, 0, h⟩ := by
  rw [zeC]
  exact set_hh (n := n) (s := s) (mn := 0) (mx := 0) (ce := 0) (po := 0) (h := z65) rfl hh
theorem map_lR_get {l : List Int} {k : Nat} {x : Int} (h : l[k]? = some x) : (l.map lR)[k]? = some (lR x) := map_get h
set_option maxHeartbeats 4000000 in
theorem fold_sat_c (l : List Int) (hl : ∀ z ∈ l, in64 z) (hn : l.length ≤ 60000) : Sat Try.prog 10 [.d (lD l)] [] (.d (cD (foldC l))) [] := by
  have hm : (l.map lR).length = l.length := List.length_map _
  have s1 := wsum_sat l hl hn
  have o1 := of_sat l hl (by omega)
  have hh : (histL l).length = 65 := histL_len l
  have ef : foldC l = ⟨l.length, l.sum, mmin l, mmax l, 0, 0, histL l⟩ := rfl
  rw [ef]
  generalize histL l = h at *
  generalize l.sum = s at *
  refine sat_of_vc (T := tiOf Try.prog) (E := E0) Try.func10 rfl rfl hE0 hm0 rfl ?_
  conv => whnf
  iterate 2
    repeat (any_goals (first
      | exact True.intro
      | (refine And.intro (whole_len s69 hh) ?_; conv => whnf)
      | (refine ⟨_, build_cell hh, ?_⟩; conv => whnf)
      | (refine ⟨_, drop_id, ?_⟩; conv => whnf)
      | (refine ⟨_, _, at_n, ?_⟩; conv => whnf)
      | (refine ⟨_, _, at_hi, ?_⟩; conv => whnf)
      | (refine ⟨_, _, at_lo, ?_⟩; conv => whnf)
      | (refine ⟨_, _, at_mn, ?_⟩; conv => whnf)
      | (refine ⟨_, _, at_mx, ?_⟩; conv => whnf)
      | (refine ⟨_, _, at_ce, ?_⟩; conv => whnf)
      | (refine ⟨_, _, at_po, ?_⟩; conv => whnf)
      | (refine ⟨_, whole_z sC, clenz sC, ?_⟩; conv => whnf)
      | (refine ⟨_, setzC, ?_⟩; conv => whnf)
      | (refine And.intro (clenz sC) ?_; conv => whnf)
      | (refine And.intro fitzC ?_; conv => whnf)
      | (refine ⟨_, whole_cell sC hh, clen sC hh, ?_⟩; conv => whnf)
      | (refine And.intro (clen sC hh) ?_; conv => whnf)
      | (refine And.intro (fitC hh) ?_; conv => whnf)
      | (refine ⟨_, setC hh, ?_⟩; conv => whnf)
      | (refine ⟨_, whole_z sF, clenz sF, ?_⟩; conv => whnf)
      | (refine ⟨_, setzF, ?_⟩; conv => whnf)
      | (refine And.intro (clenz sF) ?_; conv => whnf)
      | (refine And.intro fitzF ?_; conv => whnf)
      | (refine ⟨_, whole_cell sF hh, clen sF hh, ?_⟩; conv => whnf)
      | (refine And.intro (clen sF hh) ?_; conv => whnf)
      | (refine And.intro (fitF hh) ?_; conv => whnf)
      | (refine ⟨_, setF hh, ?_⟩; conv => whnf)
      | (refine And.intro (fit1 hh (by decide)) ?_; conv => whnf)
      | (refine And.intro (fit1 rfl (by decide)) ?_; conv => whnf)
      | (refine ⟨_, sum_cell s25, rfl, ?_⟩; conv => whnf)
      | (refine ⟨_, set_n _, ?_⟩; conv => whnf)
      | (refine ⟨_, set_mn _, ?_⟩; conv => whnf)
      | (refine ⟨_, set_mx _, ?_⟩; conv => whnf)
      | (refine ⟨_, set_ce _, ?_⟩; conv => whnf)
      | (refine ⟨_, set_po _, ?_⟩; conv => whnf)
      | (refine ⟨_, set_s _, ?_⟩; conv => whnf)
      | (refine ⟨_, set_hi _, ?_⟩; conv => whnf)
      | (refine ⟨_, set_lo _, ?_⟩; conv => whnf)
      | (refine And.intro (fun _ => ?_) tf; conv => whnf)
      | (refine And.intro ft (fun _ => ?_); conv => whnf)
      | (refine And.intro (by kernel_rfl) ?_; conv => whnf)
      | (refine And.intro (by decide) ?_; conv => whnf)
      | (refine And.intro (fun _ => ?_) (fun h => absurd h (by decide)); conv => whnf)
      | (refine And.intro (fun h => absurd h (by decide)) (fun _ => ?_); conv => whnf)
      | (refine And.intro (fun _ => ?_) (fun _ => ?_) <;> conv => whnf)
      | (refine ⟨_, _, s1.pu rfl rfl, ?_⟩; conv => whnf)
      | (refine ⟨_, _, o1.pu rfl rfl, ?_⟩; conv => whnf)))
    all_goals try (exfalso; simp only [decide_eq_true_eq, decide_eq_false_iff_not, Bool.not_eq_true', Bool.not_eq_false', Bool.not_eq_true, Bool.not_eq_false, beq_iff_eq, bne_iff_ne, beq_eq_false_iff_ne, bne_eq_false_iff_eq, ne_eq, Decidable.not_not] at *; first | omega | contradiction | (simp_all; done) | (simp_all; omega))
    all_goals try (refine Or.inl ?_; conv => whnf)
  refine ⟨Nat × Int × Int, fun y => y.1 ≤ l.length ∧ y.2.1 = mmin (l.take y.1) ∧ y.2.2 = mmax (l.take y.1), fun y => ([(15, iA y.1), (14, iA (l.map lR).length), (13, .d (lD l)), (3, .ptr 1 0), (2, .ptr 0 0)], [.row (cR zC), .row (cR ⟨l.length, s, y.2.1, y.2.2, 0, 0, h⟩)]), fun y => l.length - y.1, ⟨(0, 0, 0), ⟨Nat.zero_le _, rfl, rfl⟩, ?_⟩, ?_⟩
  · all_goals refine ⟨[], ?_⟩
    repeat (any_goals (first | exact True.intro | exact rfl | with_reducible_and_instances rfl | exact (by kernel_rfl) | refine And.intro ?_ ?_))
    all_goals conv => whnf
    show AObj.row (cR ⟨((l.map lR).length : Nat), s, 0, 0, 0, 0, h⟩) = _
    rw [hm]
  rintro ⟨k, a, b⟩ ⟨hk, ha, hb⟩
  have hk : k ≤ l.length := hk
  have ha : a = mmin (l.take k) := ha
  have hb : b = mmax (l.take k) := hb
  conv => whnf
  by_cases hlt : k < l.length
  · have hx : l[k]? = some l[k] := List.getElem?_eq_getElem hlt
    have q1 : mmin (l.take (k + 1)) = if k = 0 then l[k] else min a l[k] := by
      rw [List.take_succ_eq_append_getElem hlt, mmin_snoc, ← ha]
      by_cases e : k = 0
      · subst e; simp
      · rw [if_neg e, if_neg]; intro q; have := congrArg List.length q; rw [List.length_take, List.length_nil] at this; omega
    have q2 : mmax (l.take (k + 1)) = if k = 0 then l[k] else max b l[k] := by
      rw [List.take_succ_eq_append_getElem hlt, mmax_snoc, ← hb]
      by_cases e : k = 0
      · subst e; simp
      · rw [if_neg e, if_neg]; intro q; have := congrArg List.length q; rw [List.length_take, List.length_nil] at this; omega
    generalize l[k] = x at hx q1 q2
    by_cases e : k = 0
    · subst e
      rw [if_pos rfl] at q1 q2
      iterate 4
        repeat (any_goals (first
          | exact True.intro
          | (refine ⟨_, drop_id, ?_⟩; conv => whnf)
          | (refine ⟨_, _, at_n, ?_⟩; conv => whnf)
          | (refine ⟨_, _, at_hi, ?_⟩; conv => whnf)
          | (refine ⟨_, _, at_lo, ?_⟩; conv => whnf)
          | (refine ⟨_, _, at_mn, ?_⟩; conv => whnf)
          | (refine ⟨_, _, at_mx, ?_⟩; conv => whnf)
          | (refine ⟨_, _, at_ce, ?_⟩; conv => whnf)
          | (refine ⟨_, _, at_po, ?_⟩; conv => whnf)
          | (refine ⟨_, whole_z sC, clenz sC, ?_⟩; conv => whnf)
          | (refine ⟨_, setzC, ?_⟩; conv => whnf)
          | (refine And.intro (clenz sC) ?_; conv => whnf)
          | (refine And.intro fitzC ?_; conv => whnf)
          | (refine ⟨_, whole_cell sC hh, clen sC hh, ?_⟩; conv => whnf)
          | (refine And.intro (clen sC hh) ?_; conv => whnf)
          | (refine And.intro (fitC hh) ?_; conv => whnf)
          | (refine ⟨_, setC hh, ?_⟩; conv => whnf)
          | (refine ⟨_, whole_z sF, clenz sF, ?_⟩; conv => whnf)
          | (refine ⟨_, setzF, ?_⟩; conv => whnf)
          | (refine And.intro (clenz sF) ?_; conv => whnf)
          | (refine And.intro fitzF ?_; conv => whnf)
          | (refine ⟨_, whole_cell sF hh, clen sF hh, ?_⟩; conv => whnf)
          | (refine And.intro (clen sF hh) ?_; conv => whnf)
          | (refine And.intro (fitF hh) ?_; conv => whnf)
          | (refine ⟨_, setF hh, ?_⟩; conv => whnf)
          | (refine And.intro (fit1 hh (by decide)) ?_; conv => whnf)
          | (refine And.intro (fit1 rfl (by decide)) ?_; conv => whnf)
          | (refine ⟨_, sum_cell s25, rfl, ?_⟩; conv => whnf)
          | (refine ⟨_, set_n _, ?_⟩; conv => whnf)
          | (refine ⟨_, set_mn _, ?_⟩; conv => whnf)
          | (refine ⟨_, set_mx _, ?_⟩; conv => whnf)
          | (refine ⟨_, set_ce _, ?_⟩; conv => whnf)
          | (refine ⟨_, set_po _, ?_⟩; conv => whnf)
          | (refine ⟨_, set_s _, ?_⟩; conv => whnf)
          | (refine ⟨_, set_hi _, ?_⟩; conv => whnf)
          | (refine ⟨_, set_lo _, ?_⟩; conv => whnf)
          | (refine ⟨0, _, rfl, map_lR_get hx, ?_⟩; conv => whnf)
          | (refine And.intro (fun _ => ?_) tf; conv => whnf)
          | (refine And.intro ft (fun _ => ?_); conv => whnf)
          | (refine And.intro (by kernel_rfl) ?_; conv => whnf)
          | (refine And.intro (by decide) ?_; conv => whnf)
          | (refine And.intro (fun _ => ?_) (fun h => absurd h (by decide)); conv => whnf)
          | (refine And.intro (fun h => absurd h (by decide)) (fun _ => ?_); conv => whnf)
          | (refine And.intro (fun _ => ?_) (fun _ => ?_) <;> conv => whnf)))
        all_goals try (exfalso; simp only [decide_eq_true_eq, decide_eq_false_iff_not, Bool.not_eq_true', Bool.not_eq_false', Bool.not_eq_true, Bool.not_eq_false, beq_iff_eq, bne_iff_ne, beq_eq_false_iff_ne, bne_eq_false_iff_eq, ne_eq, Decidable.not_not] at *; first | omega | contradiction | (simp_all; done) | (simp_all; omega))
        all_goals try (refine Or.inl ?_; conv => whnf)
      refine ⟨(0 + 1, x, x), ⟨hlt, q1.symm, q2.symm⟩, show l.length - (0 + 1) < l.length - 0 by omega, ?_⟩
      all_goals refine ⟨[], ?_⟩
      repeat (any_goals (first | exact True.intro | exact rfl | with_reducible_and_instances rfl | exact (by kernel_rfl) | refine And.intro ?_ ?_))
      all_goals conv => whnf
      show AObj.row (cR ⟨l.length, s, if x < x then x else x, if x > x then x else x, 0, 0, h⟩) = AObj.row (cR ⟨l.length, s, x, x, 0, 0, h⟩)
      rw [show (if x < x then x else x) = x by split <;> rfl]
    · rw [if_neg e] at q1 q2
      iterate 4
        repeat (any_goals (first
          | exact True.intro
          | (refine ⟨_, drop_id, ?_⟩; conv => whnf)
          | (refine ⟨_, _, at_n, ?_⟩; conv => whnf)
          | (refine ⟨_, _, at_hi, ?_⟩; conv => whnf)
          | (refine ⟨_, _, at_lo, ?_⟩; conv => whnf)
          | (refine ⟨_, _, at_mn, ?_⟩; conv => whnf)
          | (refine ⟨_, _, at_mx, ?_⟩; conv => whnf)
          | (refine ⟨_, _, at_ce, ?_⟩; conv => whnf)
          | (refine ⟨_, _, at_po, ?_⟩; conv => whnf)
          | (refine ⟨_, whole_z sC, clenz sC, ?_⟩; conv => whnf)
          | (refine ⟨_, setzC, ?_⟩; conv => whnf)
          | (refine And.intro (clenz sC) ?_; conv => whnf)
          | (refine And.intro fitzC ?_; conv => whnf)
          | (refine ⟨_, whole_cell sC hh, clen sC hh, ?_⟩; conv => whnf)
          | (refine And.intro (clen sC hh) ?_; conv => whnf)
          | (refine And.intro (fitC hh) ?_; conv => whnf)
          | (refine ⟨_, setC hh, ?_⟩; conv => whnf)
          | (refine ⟨_, whole_z sF, clenz sF, ?_⟩; conv => whnf)
          | (refine ⟨_, setzF, ?_⟩; conv => whnf)
          | (refine And.intro (clenz sF) ?_; conv => whnf)
          | (refine And.intro fitzF ?_; conv => whnf)
          | (refine ⟨_, whole_cell sF hh, clen sF hh, ?_⟩; conv => whnf)
          | (refine And.intro (clen sF hh) ?_; conv => whnf)
          | (refine And.intro (fitF hh) ?_; conv => whnf)
          | (refine ⟨_, setF hh, ?_⟩; conv => whnf)
          | (refine And.intro (fit1 hh (by decide)) ?_; conv => whnf)
          | (refine And.intro (fit1 rfl (by decide)) ?_; conv => whnf)
          | (refine ⟨_, sum_cell s25, rfl, ?_⟩; conv => whnf)
          | (refine ⟨_, set_n _, ?_⟩; conv => whnf)
          | (refine ⟨_, set_mn _, ?_⟩; conv => whnf)
          | (refine ⟨_, set_mx _, ?_⟩; conv => whnf)
          | (refine ⟨_, set_ce _, ?_⟩; conv => whnf)
          | (refine ⟨_, set_po _, ?_⟩; conv => whnf)
          | (refine ⟨_, set_s _, ?_⟩; conv => whnf)
          | (refine ⟨_, set_hi _, ?_⟩; conv => whnf)
          | (refine ⟨_, set_lo _, ?_⟩; conv => whnf)
          | (refine ⟨k, _, rfl, map_lR_get hx, ?_⟩; conv => whnf)
          | (refine And.intro (fun _ => ?_) tf; conv => whnf)
          | (refine And.intro ft (fun _ => ?_); conv => whnf)
          | (refine And.intro (by kernel_rfl) ?_; conv => whnf)
          | (refine And.intro (by decide) ?_; conv => whnf)
          | (refine And.intro (fun _ => ?_) (fun h => absurd h (by decide)); conv => whnf)
          | (refine And.intro (fun h => absurd h (by decide)) (fun _ => ?_); conv => whnf)
          | (refine And.intro (fun _ => ?_) (fun _ => ?_) <;> conv => whnf)))
        all_goals try (exfalso; simp only [decide_eq_true_eq, decide_eq_false_iff_not, Bool.not_eq_true', Bool.not_eq_false', Bool.not_eq_true, Bool.not_eq_false, beq_iff_eq, bne_iff_ne, beq_eq_false_iff_ne, bne_eq_false_iff_eq, ne_eq, Decidable.not_not] at *; first | omega | contradiction | (simp_all; done) | (simp_all; omega))
        all_goals try (refine Or.inl ?_; conv => whnf)
      refine ⟨(k + 1, min a x, max b x), ⟨hlt, q1.symm, q2.symm⟩, show l.length - (k + 1) < l.length - k by omega, ?_⟩
      all_goals refine ⟨[], ?_⟩
      repeat (any_goals (first | exact True.intro | exact rfl | with_reducible_and_instances rfl | exact (by kernel_rfl) | refine And.intro ?_ ?_))
      all_goals conv => whnf
      · exact wk1 (by omega)
      · show AObj.row (cR ⟨l.length, s, if x < a then x else a, if x > b then x else b, 0, 0, h⟩) = AObj.row (cR ⟨l.length, s, min a x, max b x, 0, 0, h⟩)
        rw [min_if, max_if]
  · have hke : k = l.length := by omega
    subst hke
    rw [List.take_of_length_le (by omega)] at ha hb
    iterate 3
      repeat (any_goals (first
        | exact True.intro
        | (refine ⟨_, drop_id, ?_⟩; conv => whnf)
        | (refine ⟨_, _, at_n, ?_⟩; conv => whnf)
        | (refine ⟨_, _, at_hi, ?_⟩; conv => whnf)
        | (refine ⟨_, _, at_lo, ?_⟩; conv => whnf)
        | (refine ⟨_, _, at_mn, ?_⟩; conv => whnf)
        | (refine ⟨_, _, at_mx, ?_⟩; conv => whnf)
        | (refine ⟨_, _, at_ce, ?_⟩; conv => whnf)
        | (refine ⟨_, _, at_po, ?_⟩; conv => whnf)
        | (refine ⟨_, whole_z sC, clenz sC, ?_⟩; conv => whnf)
        | (refine ⟨_, setzC, ?_⟩; conv => whnf)
        | (refine And.intro (clenz sC) ?_; conv => whnf)
        | (refine And.intro fitzC ?_; conv => whnf)
        | (refine ⟨_, whole_cell sC hh, clen sC hh, ?_⟩; conv => whnf)
        | (refine And.intro (clen sC hh) ?_; conv => whnf)
        | (refine And.intro (fitC hh) ?_; conv => whnf)
        | (refine ⟨_, setC hh, ?_⟩; conv => whnf)
        | (refine ⟨_, whole_z sF, clenz sF, ?_⟩; conv => whnf)
        | (refine ⟨_, setzF, ?_⟩; conv => whnf)
        | (refine And.intro (clenz sF) ?_; conv => whnf)
        | (refine And.intro fitzF ?_; conv => whnf)
        | (refine ⟨_, whole_cell sF hh, clen sF hh, ?_⟩; conv => whnf)
        | (refine And.intro (clen sF hh) ?_; conv => whnf)
        | (refine And.intro (fitF hh) ?_; conv => whnf)
        | (refine ⟨_, setF hh, ?_⟩; conv => whnf)
        | (refine And.intro (fit1 hh (by decide)) ?_; conv => whnf)
        | (refine And.intro (fit1 rfl (by decide)) ?_; conv => whnf)
        | (refine ⟨_, sum_cell s25, rfl, ?_⟩; conv => whnf)
        | (refine ⟨_, set_n _, ?_⟩; conv => whnf)
        | (refine ⟨_, set_mn _, ?_⟩; conv => whnf)
        | (refine ⟨_, set_mx _, ?_⟩; conv => whnf)
        | (refine ⟨_, set_ce _, ?_⟩; conv => whnf)
        | (refine ⟨_, set_po _, ?_⟩; conv => whnf)
        | (refine ⟨_, set_s _, ?_⟩; conv => whnf)
        | (refine ⟨_, set_hi _, ?_⟩; conv => whnf)
        | (refine ⟨_, set_lo _, ?_⟩; conv => whnf)
        | (refine And.intro (fun _ => ?_) tf; conv => whnf)
        | (refine And.intro ft (fun _ => ?_); conv => whnf)
        | (refine And.intro (by kernel_rfl) ?_; conv => whnf)
        | (refine And.intro (by decide) ?_; conv => whnf)
        | (refine And.intro (fun _ => ?_) (fun h => absurd h (by decide)); conv => whnf)
        | (refine And.intro (fun h => absurd h (by decide)) (fun _ => ?_); conv => whnf)
        | (refine And.intro (fun _ => ?_) (fun _ => ?_) <;> conv => whnf)))
      all_goals try (exfalso; simp only [decide_eq_true_eq, decide_eq_false_iff_not, Bool.not_eq_true', Bool.not_eq_false', Bool.not_eq_true, Bool.not_eq_false, beq_iff_eq, bne_iff_ne, beq_eq_false_iff_ne, bne_eq_false_iff_eq, ne_eq, Decidable.not_not] at *; first | omega | contradiction | (simp_all; done) | (simp_all; omega))
      all_goals try (refine Or.inl ?_; conv => whnf)
    rw [← ha, ← hb]
    all_goals refine ⟨[], ?_⟩
    repeat (any_goals (first | exact True.intro | exact rfl | with_reducible_and_instances rfl | exact (by kernel_rfl) | refine And.intro ?_ ?_))
    all_goals conv => whnf
end Go.Proofs.Ytbjmdnemeidpjaa
