/- Parts LaL, LaM, LaN, LaO, LaP, LaQ, LaR, LaS, LaT, Laid, FrameLaid of the proof, put together. -/
import Derived.Test.YtpnbpcdmiiakcaaDoorM7
import Derived.RangeFuncNested
import Derived.RangeFuncBound
import Derived.RangeFuncCalls
import Derived.RangeFuncLeaves
import Derived.OwnWalkIn
import Derived.TacticsInMore
import Derived.LoopNIn
import Derived.LoopIn
import Derived.Test.YtpnbpcdmiiakcaaDoorChecked
import Derived.Test.YtpnbpcdmiiakcaaDoorRows
import Derived.Lay
import Derived.SevenTiedAt
import Derived.LaidOnce
import Derived.OpenShut
import Derived.LaidMore
/- label: strings.SplitSeq at one byte: its iterator. -/
namespace Go.Proofs.YtpnbpcdmiiakcaaDoor
open Go.RowKit
set_option linter.unusedVariables false
set_option linter.unusedSimpArgs false
/-- The part up to a byte, and what is behind it. -/
def headT (r : Bt) : Bt := if ixB r 44 < 0 then r else r.take (ixB r 44).toNat
def nextT (r : Bt) : Option Bt := if ixB r 44 < 0 then none else some (r.drop ((ixB r 44).toNat + 1))
def splitNx (y : Option Bt) (x : List AV) (y' : Option Bt) : Prop := ∃ r, y = some r ∧ x = [.d (tD (headT r))] ∧ y' = nextT r
theorem ix_lt : ∀ (r : Bt) (c : UInt8), 0 ≤ ixB r c → (ixB r c).toNat < r.length
  | [], c, h => absurd (show (0 : Int) ≤ -1 from h) (by decide)
  | b :: l, c, h => by
    have ih := ix_lt l c
    unfold ixB Lib.indexByte at h ⊢
    split
    · simp
    · rename_i hb
      rw [if_neg hb] at h
      split
      · rename_i h2; rw [if_pos h2] at h; exact absurd h (by decide)
      · rename_i h2
        rw [if_neg h2] at h
        have g := Lib.indexByte_ge l c
        have h3 : Lib.indexByte l c ≠ -1 := by simpa using h2
        have := ih (show 0 ≤ Lib.indexByte l c by omega)
        rw [List.length_cons]
        show (Lib.indexByte l c + 1).toNat < _
        have e : (ixB l c).toNat = (Lib.indexByte l c).toNat := rfl
        omega
theorem cellOf {w : World} {F : Nat → Prop} {ρ : Nat → Option Value} {H : Hp} (E : Env F ρ H w) {i : Nat} {d : D} {u : Value} (hi : H i = some (.cells [.d d])) (hd : FlatV d u) {v : Value} (hv : RA w F ρ (.ptr i 0) v) :
    ∃ b t, v = .pointer (some ⟨b, 0, none⟩) ∧ ρ i = some v ∧ Blk w b t #[u] := by
  obtain ⟨b, rfl, h1, ⟨b', t, vs, h2, hB, hR, _⟩, _⟩ := E.cellsAt hi rfl hv
  injection h2 with h2; injection h2 with h2; injection h2 with h2
  subst h2
  obtain ⟨u', e4, hu⟩ := hR.one_out
  have : vs = #[u'] := by
    apply Array.ext'
    rw [e4]
  subst this
  cases hu with | d hu =>
  have := FlatV.eq hd hu
  subst this
  exact ⟨b, t, rfl, h1, hB⟩
attribute [local go_sem] Oper.semAt_some
/-- The iterator's own cells: the byte, what is left, a nought. -/
structure SplC (b1 b2 b3 t1 t2 t3 : Nat) (O : Nat → Prop) (r : Bt) (w : World) : Prop where
  c1 : Blk w b1 t1 #[.string ⟨#[44]⟩]
  c2 : Blk w b2 t2 #[.string ⟨r.toArray⟩]
  c3 : Blk w b3 t3 #[.int .i64 0]
  n1 : ¬ O b1
  n2 : ¬ O b2
  n3 : ¬ O b3
set_option maxHeartbeats 1000000 in
set_option maxRecDepth 100000 in
theorem splitIt {s : Bt} (hs : s.length ≤ 1000000) {Hs : List AObj} {i j k : Nat} (hij : i ≠ j) (hjk : j ≠ k) (hi : Hs[i]? = some (.cells [.d (tD [44])])) (hj : Hs[j]? = some (.cells [.d (tD s)])) (hk : Hs[k]? = some (.cells [iA 0])) :
    IterO Tryd.prog 79 [] [.ptr i 0, .ptr j 0, .ptr k 0] Hs (some s) splitNx (fun y => y = none) := by
  intro us vs l
  refine ⟨fun y vals y' => ∃ r, y = some r ∧ vals = [.string ⟨(headT r).toArray⟩] ∧ y' = nextT r, ?_, ?_⟩
  · rintro y vals y' ⟨r, rfl, rfl, rfl⟩
    exact ⟨[.d (tD (headT r))], ⟨r, rfl, rfl, rfl⟩, fun w F ρ => .cons (.d (.v _)) .nil⟩
  intro J Jx hJ hN hNx hY O w h0 hst
  obtain ⟨F, ρ, H, E, ho, q1, q2⟩ := hst
  cases q1
  obtain ⟨v1, v2, v3, rfl, r1, r2, r3⟩ := q2.three_out
  obtain ⟨hi1, hi2⟩ := ho i _ hi rfl
  obtain ⟨hj1, hj2⟩ := ho j _ hj rfl
  obtain ⟨hk1, hk2⟩ := ho k _ hk rfl
  obtain ⟨b1, t1, rfl, e1, B1⟩ := cellOf E hi1 (.v _) r1
  obtain ⟨b2, t2, rfl, e2, B2⟩ := cellOf E hj1 (.v _) r2
  obtain ⟨b3, t3, rfl, e3, B3⟩ := cellOf E hk1 (.v _) r3
  have n12 : b1 ≠ b2 := fun h => hij (E.inj i j _ _ _ _ b1 hi1 hj1 rfl rfl e1 e2 rfl (by rw [h]; rfl))
  have n23 : b2 ≠ b3 := fun h => hjk (E.inj j k _ _ _ _ b2 hj1 hk1 rfl rfl e2 e3 rfl (by rw [h]; rfl))
  have S0 : SplC b1 b2 b3 t1 t2 t3 O s w := ⟨B1, B2, B3, hi2 _ _ e1 rfl, hj2 _ _ e2 rfl, hk2 _ _ e3 rfl⟩
  clear r1 r2 r3 hi1 hi2 hj1 hj2 hk1 hk2 e1 e2 e3 E ho hi hj hk
  have HJ := hide hJ
  have HN := hide hN
  have c0 := B1.cell 0
  clear hJ hN hNx B1 B2 B3
  refine (callsIn_wide (n := 1)).1 (callsIn_of_wp Tryd.func79 rfl trivial ?_ rfl)
  simp only [Tryd.ntmps79, List.size_toArray, List.length_cons, List.length_nil, Nat.reduceAdd, Nat.reduceSub, Array.replicate_succ, Array.replicate_zero, List.push_toArray, List.append_toArray, List.nil_append, List.cons_append]
  simp only [List.getElem?_toArray, List.getElem?_cons_zero] at c0
  gi_wp2
  gi_loopw [7] (fun _ wr => ∃ (r : Bt) (O : Nat → Prop), r.length ≤ 1000000 ∧ J (some r) O wr ∧ SplC b1 b2 b3 t1 t2 t3 O r wr) (fun _ wr => match wr.cell? ⟨b2, 0, none⟩ with | some (.string x) => x.size | _ => 0)
  case atStart => exact ⟨s, O, hs, h0, S0⟩
  case round =>
    obtain ⟨r, O1, hr, hJr, hS⟩ := hrel
    have HI := hide (Tryd.strings_Index_one ⟨r.toArray⟩ 44 wr)
    have c1 := hS.c1.cell 0
    have c2 := hS.c2.cell 0
    have c3 := hS.c3.cell 0
    simp only [List.getElem?_toArray, List.getElem?_cons_zero] at c1 c2 c3
    have hq : Lib.indexByte ((⟨r.toArray⟩ : ByteArray).data.toList) 44 = ixB r 44 := rfl
    rw [hq] at HI
    by_cases hix : ixB r 44 < 0
    · have hh : headT r = r := if_pos hix
      have hn : nextT r = none := if_pos hix
      obtain ⟨fn, tmps, assign, body, hy, hR⟩ := hY (some r) O1 wr _ _ ⟨r, rfl, rfl, rfl⟩ hJr
      rw [hh] at hy
      rw [hn] at hR
      gi_wp2_with (refine And.intro trivial ?_; gi_at_call 81; refine callsIn_wide.2 (HI.out.mono ?_); rintro e w' ⟨rfl, rfl⟩)
      refine hR.mono ?_
      rintro e W3 ⟨O', hfar, hO', ⟨rfl, hJ3⟩ | ⟨rfl, hJx3⟩⟩
      · clear hfar hR hy
        gi_wp2
        go_end0
        exact ⟨⟨_, rfl⟩, _, .inl ⟨_, rfl, hJ3⟩⟩
      · clear hfar hR hy
        gi_wp2
        go_end0
        exact ⟨⟨_, rfl⟩, _, .inr hJx3⟩
    · have hix0 : 0 ≤ ixB r 44 := by omega
      have hlt := ix_lt r 44 hix0
      have hh : headT r = r.take (ixB r 44).toNat := if_neg hix
      have hn : nextT r = some (r.drop ((ixB r 44).toNat + 1)) := if_neg hix
      obtain ⟨fn, tmps, assign, body, hy, hR⟩ := hY (some r) O1 wr _ _ ⟨r, rfl, rfl, rfl⟩ hJr
      rw [hh] at hy
      rw [hn] at hR
      have hex : (⟨r.toArray⟩ : ByteArray).extract 0 (ixB r 44).toNat = ⟨(r.take (ixB r 44).toNat).toArray⟩ := by rw [text_, List.drop_zero]
      gi_wp2_with (refine And.intro trivial ?_; gi_at_call 81; refine callsIn_wide.2 (HI.out.mono ?_); rintro e w' ⟨rfl, rfl⟩)
      refine hR.mono ?_
      rintro e W3 ⟨O', hfar, hO', ⟨rfl, hJ3⟩ | ⟨rfl, hJx3⟩⟩
      · have hlt1 := hS.c1.lt
        have hlt2 := hS.c2.lt
        have hlt3 := hS.c3.lt
        have B1 : Blk W3 b1 t1 #[.string ⟨#[44]⟩] := (hfar.2.2.2.2 _ hlt1 hS.n1).trans hS.c1
        have B2 : Blk W3 b2 t2 #[.string ⟨r.toArray⟩] := (hfar.2.2.2.2 _ hlt2 hS.n2).trans hS.c2
        have B3 : Blk W3 b3 t3 #[.int .i64 0] := (hfar.2.2.2.2 _ hlt3 hS.n3).trans hS.c3
        have m1 : ¬ O' b1 := fun q => (hO' _ q).elim hS.n1 fun q => by omega
        have m2 : ¬ O' b2 := fun q => (hO' _ q).elim hS.n2 fun q => by omega
        have m3 : ¬ O' b3 := fun q => (hO' _ q).elim hS.n3 fun q => by omega
        have d1 := B1.cell 0
        have d2 := B2.cell 0
        have d3 := B3.cell 0
        have f2 := B2.frozen 0
        simp only [List.getElem?_toArray, List.getElem?_cons_zero] at d1 d2 d3
        have HC := hide c2
        have HB := hide (And.intro B1 (And.intro B2 B3))
        clear hfar hR hy c1 c2 c3 hS B1 B2 B3
        gi_wp2
        obtain ⟨B1, B2, B3⟩ := HB.out
        have e : (⟨r.toArray⟩ : ByteArray).extract (ixB r 44 + 1).toNat r.length = ⟨(r.drop ((ixB r 44).toNat + 1)).toArray⟩ := by
          rw [text_, List.take_length, show (ixB r 44 + 1).toNat = (ixB r 44).toNat + 1 by omega]
        rw [e]
        have B2' : Blk (W3.setCell ⟨b2, 0, none⟩ (.string ⟨(r.drop ((ixB r 44).toNat + 1)).toArray⟩)) b2 t2 #[.string ⟨(r.drop ((ixB r 44).toNat + 1)).toArray⟩] := B2.set_ 0 _
        have hlr : (r.drop ((ixB r 44).toNat + 1)).length < r.length := by rw [List.length_drop]; omega
        refine ⟨⟨r.drop ((ixB r 44).toNat + 1), O', by omega, HN.out _ _ _ _ hJ3 ⟨rfl, rfl, rfl, by simp [World.setCell], fun b hb => Below.heap_setCell _ _ _ _ (fun q => m2 ((show b = b2 from q) ▸ hb))⟩, ⟨(Below.heap_setCell _ _ _ _ n12).trans B1, B2', (Below.heap_setCell _ _ _ _ (Ne.symm n23)).trans B3, m1, m2, m3⟩⟩, ?_⟩
        have g2 := B2'.cell 0
        simp only [List.getElem?_toArray, List.getElem?_cons_zero] at g2
        rw [g2, HC.out]
        exact hlr
      · clear hfar hR hy
        gi_wp2
        refine bodyPost_ret (results_none rfl _ _ _) rfl ?_
        exact ⟨⟨_, rfl⟩, _, .inr hJx3⟩
end Go.Proofs.YtpnbpcdmiiakcaaDoor
/- label: strings.Cut, strings.SplitSeq, by conditions. -/
namespace Go.Proofs.YtpnbpcdmiiakcaaDoor
set_option linter.unusedSimpArgs false
open Go.RowKit
set_option maxRecDepth 100000
set_option linter.unusedVariables false
def cutC (s : Bt) (c : UInt8) : Bt × Bt × Bool := if ixB s c < 0 then (s, [], false) else (s.take (ixB s c).toNat, s.drop ((ixB s c).toNat + 1), true)
abbrev cutCA (x : Bt × Bt × Bool) : AV := .tup [.d (tD x.1), .d (tD x.2.1), bA x.2.2]
theorem cut0_sat (s : Bt) (c : UInt8) (hn : s.length ≤ 1000000) : Sat Tryd.prog 58 [.d (tD s), .d (tD [c])] [] (cutCA (cutC s c)) [] := by
  have i1 := index_sat s c
  unfold cutC
  by_cases h : ixB s c < 0
  · rw [if_pos h]
    have ge0 : decide (ixB s c ≥ 0) = false := decide_eq_false (by omega)
    refine sat_of_vc (T := tiOf Tryd.prog) (E := E0) Tryd.func58 rfl rfl hE0 hm0 rfl ?_
    conv => whnf
    iterate 2
      repeat' (first | exact True.intro | ((first | refine And.intro (fun _ => ?_) tf | refine And.intro ft (fun _ => ?_) | refine And.intro (by kernel_rfl) ?_ | refine And.intro (by decide) ?_ | refine And.intro (fun _ => ?_) (fun h => absurd h (by decide)) | refine And.intro (fun h => absurd h (by decide)) (fun _ => ?_) | refine ⟨_, _, i1.pu rfl rfl, ?_⟩ | fail); conv => whnf) | (refine And.intro (fun _ => ?_) (fun _ => ?_) <;> conv => whnf) | fail)
      all_goals try (refine Or.inl ?_; conv => whnf)
    all_goals try exact (bnl ‹_› ge0).elim
    repeat' (first | exact True.intro | ((first | refine And.intro (fun _ => ?_) tf | refine And.intro ft (fun _ => ?_) | refine And.intro (by kernel_rfl) ?_ | refine And.intro (by decide) ?_ | refine And.intro (fun _ => ?_) (fun h => absurd h (by decide)) | refine And.intro (fun h => absurd h (by decide)) (fun _ => ?_) | fail); conv => whnf) | (refine And.intro (fun _ => ?_) (fun _ => ?_) <;> conv => whnf) | fail)
    all_goals try (refine Or.inl ?_; conv => whnf)
    all_goals refine ⟨[], ?_⟩
    repeat (any_goals (first | exact True.intro | exact rfl | with_reducible_and_instances rfl | exact (by kernel_rfl) | refine And.intro ?_ ?_))
    all_goals conv => whnf
  · rw [if_neg h]
    have ge0 : decide (ixB s c ≥ 0) = true := decide_eq_true (by omega)
    have hlt := ix_lt s c (by omega)
    obtain ⟨k, hk⟩ : ∃ k : Nat, ixB s c = (k : Int) := ⟨(ixB s c).toNat, by omega⟩
    rw [hk] at i1 ge0 hlt ⊢
    rw [Int.toNat_natCast] at hlt ⊢
    have hw : IntKind.i64.wrap ((k : Int) + 1) = ((k + 1 : Nat) : Int) := by rw [wi (by omega) (by omega)]; rfl
    have fr : ∀ {L : List AObj} {ty n : Nat} {x y : Operand}, Does Tryd.prog (.slice 9 x (some y) none none) ty L n [.d (tD s), .d (.v (.int .i64 (IntKind.i64.wrap ((k : Int) + (([c] : Bt).length : Int)))))] e0 (.d (tD (s.drop (k + 1)))) := by
      intro L ty n x y
      rw [show (([c] : Bt).length : Int) = 1 from rfl, hw]
      exact from_L Tryd.underlying9 (by omega)
    refine sat_of_vc (T := tiOf Tryd.prog) (E := E0) Tryd.func58 rfl rfl hE0 hm0 rfl ?_
    conv => whnf
    iterate 2
      repeat' (first | exact True.intro | ((first | refine And.intro (fun _ => ?_) tf | refine And.intro ft (fun _ => ?_) | refine And.intro (by kernel_rfl) ?_ | refine And.intro (by decide) ?_ | refine And.intro (fun _ => ?_) (fun h => absurd h (by decide)) | refine And.intro (fun h => absurd h (by decide)) (fun _ => ?_) | refine ⟨_, _, i1.pu rfl rfl, ?_⟩ | refine ⟨_, _, up_L Tryd.underlying9 (Nat.le_of_lt hlt), ?_⟩ | refine ⟨_, _, fr, ?_⟩ | fail); conv => whnf) | (refine And.intro (fun _ => ?_) (fun _ => ?_) <;> conv => whnf) | fail)
      all_goals try (refine Or.inl ?_; conv => whnf)
    all_goals try exact (bnl ge0 ‹_›).elim
    iterate 2
      repeat' (first | exact True.intro | ((first | refine And.intro (fun _ => ?_) tf | refine And.intro ft (fun _ => ?_) | refine And.intro (by kernel_rfl) ?_ | refine And.intro (by decide) ?_ | refine And.intro (fun _ => ?_) (fun h => absurd h (by decide)) | refine And.intro (fun h => absurd h (by decide)) (fun _ => ?_) | refine ⟨_, _, up_L Tryd.underlying9 (Nat.le_of_lt hlt), ?_⟩ | refine ⟨_, _, fr, ?_⟩ | fail); conv => whnf) | (refine And.intro (fun _ => ?_) (fun _ => ?_) <;> conv => whnf) | fail)
      all_goals try (refine Or.inl ?_; conv => whnf)
    all_goals refine ⟨[], ?_⟩
    repeat (any_goals (first | exact True.intro | exact rfl | with_reducible_and_instances rfl | exact (by kernel_rfl) | refine And.intro ?_ ?_))
    all_goals conv => whnf
theorem cut_sat (s : Bt) (c : UInt8) (hn : s.length ≤ 1000000) : Sat Tryd.prog 39 [.d (tD s), .d (tD [c])] [] (cutCA (cutC s c)) [] := by
  have i1 := cut0_sat s c hn
  refine sat_of_vc (T := tiOf Tryd.prog) (E := E0) Tryd.func39 rfl rfl hE0 hm0 rfl ?_
  conv => whnf
  iterate 3
    repeat' (first | exact True.intro | ((first | refine And.intro (fun _ => ?_) tf | refine And.intro ft (fun _ => ?_) | refine And.intro (by kernel_rfl) ?_ | refine And.intro (by decide) ?_ | refine And.intro (fun _ => ?_) (fun h => absurd h (by decide)) | refine And.intro (fun h => absurd h (by decide)) (fun _ => ?_) | refine ⟨_, _, i1.pu rfl rfl, ?_⟩ | fail); conv => whnf) | (refine And.intro (fun _ => ?_) (fun _ => ?_) <;> conv => whnf) | fail)
    all_goals try (refine Or.inl ?_; conv => whnf)
  all_goals refine ⟨[], ?_⟩
  repeat (any_goals (first | exact True.intro | exact rfl | with_reducible_and_instances rfl | exact (by kernel_rfl) | refine And.intro ?_ ?_))
  all_goals conv => whnf
abbrev spF : AV := .fn (.func 79) [] [.ptr 1 0, .ptr 0 0, .ptr 2 0]
theorem split0_sat (s : Bt) : Sat Tryd.prog 60 [.d (tD s), .d (tD [44]), iA 0] [] spF [.cells [.d (tD s)], .cells [.d (tD [44])], .cells [iA 0]] := by
  refine sat_of_vc (T := tiOf Tryd.prog) (E := E0) Tryd.func60 rfl rfl hE0 hm0 rfl ?_
  conv => whnf
  iterate 3
    repeat' (first | exact True.intro | ((first | refine And.intro (fun _ => ?_) tf | refine And.intro ft (fun _ => ?_) | refine And.intro (by kernel_rfl) ?_ | refine And.intro (by decide) ?_ | refine And.intro (fun _ => ?_) (fun h => absurd h (by decide)) | refine And.intro (fun h => absurd h (by decide)) (fun _ => ?_) | fail); conv => whnf) | (refine And.intro (fun _ => ?_) (fun _ => ?_) <;> conv => whnf) | fail)
    all_goals try (refine Or.inl ?_; conv => whnf)
  all_goals refine ⟨[], ?_⟩
  repeat (any_goals (first | exact True.intro | exact rfl | with_reducible_and_instances rfl | exact (by kernel_rfl) | refine And.intro ?_ ?_))
  all_goals conv => whnf
theorem split_sat (s : Bt) : Sat Tryd.prog 41 [.d (tD s), .d (tD [44])] [] spF [.cells [.d (tD s)], .cells [.d (tD [44])], .cells [iA 0]] := by
  have i1 := split0_sat s
  refine sat_of_vc (T := tiOf Tryd.prog) (E := E0) Tryd.func41 rfl rfl hE0 hm0 rfl ?_
  conv => whnf
  iterate 3
    repeat' (first | exact True.intro | ((first | refine And.intro (fun _ => ?_) tf | refine And.intro ft (fun _ => ?_) | refine And.intro (by kernel_rfl) ?_ | refine And.intro (by decide) ?_ | refine And.intro (fun _ => ?_) (fun h => absurd h (by decide)) | refine And.intro (fun h => absurd h (by decide)) (fun _ => ?_) | refine ⟨_, _, i1.nw rfl, ?_⟩ | fail); conv => whnf) | (refine And.intro (fun _ => ?_) (fun _ => ?_) <;> conv => whnf) | fail)
    all_goals try (refine Or.inl ?_; conv => whnf)
  all_goals refine ⟨[], ?_⟩
  repeat (any_goals (first | exact True.intro | exact rfl | with_reducible_and_instances rfl | exact (by kernel_rfl) | refine And.intro ?_ ?_))
  all_goals conv => whnf
end Go.Proofs.YtpnbpcdmiiakcaaDoor
/- label: Parse. -/
namespace Go.Proofs.YtpnbpcdmiiakcaaDoor
set_option linter.unusedSimpArgs false
open Go.RowKit
set_option maxRecDepth 100000
set_option linter.unusedVariables false
def splitC : Bt → List Bt
  | [] => [[]]
  | c :: r => if c = 44 then [] :: splitC r else match splitC r with | [] => [[c]] | h :: t => (c :: h) :: t
def restC (y : Option Bt) : List Bt := match y with | none => [] | some q => splitC q
theorem splitC_eq : ∀ r : Bt, splitC r = headT r :: restC (nextT r)
  | [] => rfl
  | c :: l => by
    have ih := splitC_eq l
    show (if c = 44 then [] :: splitC l else match splitC l with | [] => [[c]] | h :: t => (c :: h) :: t) = _
    by_cases hc : c = 44
    · rw [if_pos hc]
      have e : ixB (c :: l) 44 = 0 := by unfold ixB Lib.indexByte; rw [hc]; rfl
      have e1 : headT (c :: l) = [] := by unfold headT; rw [e]; rfl
      have e2 : nextT (c :: l) = some l := by unfold nextT; rw [e]; rfl
      rw [e1, e2]
      rfl
    · rw [if_neg hc, ih]
      have hcb : (c == (44 : UInt8)) = false := by rw [beq_eq_false_iff_ne]; exact hc
      have ge := Lib.indexByte_ge l 44
      by_cases hi : ixB l 44 < 0
      · have e1 : Lib.indexByte l 44 = -1 := by have : Lib.indexByte l 44 < 0 := hi; omega
        have e : ixB (c :: l) 44 = -1 := by unfold ixB Lib.indexByte; rw [hcb, e1]; rfl
        unfold headT nextT
        rw [if_pos hi, if_pos hi, e]
        rfl
      · have hn : ¬ Lib.indexByte l 44 = -1 := by have : ¬ Lib.indexByte l 44 < 0 := hi; omega
        have e : ixB (c :: l) 44 = ixB l 44 + 1 := by
          unfold ixB
          rw [Lib.indexByte, hcb]
          simp [hn]
        have h1 : headT (c :: l) = c :: headT l := by
          unfold headT
          rw [if_neg hi, e, if_neg (by omega), show (ixB l 44 + 1).toNat = (ixB l 44).toNat + 1 by omega]; rfl
        have h2 : nextT (c :: l) = nextT l := by
          unfold nextT
          rw [if_neg hi, e, if_neg (by omega), show (ixB l 44 + 1).toNat = (ixB l 44).toNat + 1 by omega]; rfl
        rw [h1, h2]
def takeP : List Bt → List Lab → Option (List Lab)
  | [], acc => some acc
  | p :: ps, acc => if (cutC p 61).2.2 = false ∨ acc.length = 8 then none else takeP ps (acc ++ [((cutC p 61).1, (cutC p 61).2.1)])
def finS (s : Ser) : Option Ser := if rightB s = true then some s else none
def parseS (t : Bt) : Option Ser :=
  if (cutC t 123).2.2 = false then finS ((cutC t 123).1, []) else if Lib.hasSuffix (cutC t 123).2.1 [125] = false then none else (takeP (splitC (Lib.trimSuffix (cutC t 123).2.1 [125])) []).bind fun l => finS ((cutC t 123).1, l)
theorem restC_next {r : Bt} : restC (some r) = headT r :: restC (nextT r) := splitC_eq r
theorem Sat.pre {P : Program} {g : FuncId} {args args' : List AV} {H H' : List AObj} {r : AV} (h : Sat P g args H r H') (ha : ∀ w F ρ vs, RAs w F ρ args' vs → RAs w F ρ args vs) : Sat P g args' H r H' := fun F ρ w vals En hv => h F ρ w vals En (ha _ _ _ _ hv)
theorem rightNil (nm : Bt) : Sat Tryd.prog 12 [.d (.agg [tD nm, nilV])] [] (bA (rightB (nm, []))) [] :=
  (sRight_sat (nm, [])).pre fun w F ρ vs h => by
    cases h with | cons h1 h2 =>
    cases h1 with | d h1 => exact .cons (.d h1.nilAgg) h2
theorem headT_len (r : Bt) : (headT r).length ≤ r.length := by
  unfold headT
  split
  · exact Nat.le_refl _
  · rw [List.length_take]; omega
theorem nextT_len {r q : Bt} (h : nextT r = some q) : q.length ≤ r.length := by
  unfold nextT at h
  split at h
  · cases h
  · injection h with h
    rw [← h, List.length_drop]; omega
theorem cutC_len (s : Bt) (c : UInt8) : (cutC s c).1.length ≤ s.length ∧ (cutC s c).2.1.length ≤ s.length := by
  unfold cutC
  split
  · exact ⟨Nat.le_refl _, Nat.zero_le _⟩
  · exact ⟨by rw [List.length_take]; omega, by rw [List.length_drop]; omega⟩
theorem trim_len (s p : Bt) : (Lib.trimSuffix s p).length ≤ s.length := by
  unfold Lib.trimSuffix
  split
  · rw [List.length_take]; omega
  · exact Nat.le_refl _
theorem finS_some {x s : Ser} (h : finS x = some s) : rightB x = true ∧ s = x := by
  unfold finS at h
  split at h
  · injection h with h; exact ⟨‹_›, h.symm⟩
  · cases h
set_option maxHeartbeats 8000000 in
theorem parse_none (t : Bt) (ht : t.length ≤ 1000000) (hp : parseS t = none) : Sat Tryd.prog 20 [.d (tD t)] [] (.tup [.d (serD ([], [])), bA false]) [] := by
  refine Sat.post (r := .tup [.d (.agg [tD [], nilV]), bA false]) ?_ fun w F ρ v h => nilTup h
  have c1 := cut_sat t 123 ht
  have cl := cutC_len t 123
  unfold parseS at hp
  generalize hc : cutC t 123 = c at *
  obtain ⟨nm, rest, lab⟩ := c
  simp only at hp cl
  cases lab with
  | false =>
    rw [if_pos rfl] at hp
    have hr : rightB (nm, []) = false := by
      unfold finS at hp
      split at hp
      · cases hp
      · simpa using ‹¬ rightB (nm, []) = true›
    have r1 := rightNil nm
    rw [hr] at r1
    refine sat_of_vc (T := tiOf Tryd.prog) (E := E0) Tryd.func20 rfl rfl hE0 hm0 rfl ?_
    conv => whnf
    iterate 6
      repeat' (first | exact True.intro | ((first | refine And.intro (fun _ => ?_) tf | refine And.intro ft (fun _ => ?_) | refine And.intro (by kernel_rfl) ?_ | refine And.intro (by decide) ?_ | refine And.intro (fun _ => ?_) (fun h => absurd h (by decide)) | refine And.intro (fun h => absurd h (by decide)) (fun _ => ?_) | refine ⟨_, _, c1.pu rfl rfl, ?_⟩ | refine ⟨_, _, r1.pu rfl rfl, ?_⟩ | fail); conv => whnf) | (refine And.intro (fun _ => ?_) (fun _ => ?_) <;> conv => whnf) | fail)
      all_goals try (refine Or.inl ?_; conv => whnf)
    all_goals try (exfalso; simp only [decide_eq_true_eq, decide_eq_false_iff_not, Bool.not_eq_true', Bool.not_eq_false', Bool.not_eq_true, Bool.not_eq_false, beq_iff_eq, bne_iff_ne, beq_eq_false_iff_ne, bne_eq_false_iff_eq, ne_eq, Decidable.not_not] at *; first | omega | contradiction | (simp_all; done) | (simp_all; omega))
    all_goals refine ⟨[], ?_⟩
    repeat (any_goals (first | exact True.intro | exact rfl | with_reducible_and_instances rfl | exact (by kernel_rfl) | refine And.intro ?_ ?_))
    all_goals conv => whnf
  | true =>
  rw [if_neg (by simp)] at hp
  have s1 := cutSuffix_sat rest [125] (by omega)
  cases hsx : Lib.hasSuffix rest [125] with
  | false =>
    rw [hsx] at s1
    refine sat_of_vc (T := tiOf Tryd.prog) (E := E0) Tryd.func20 rfl rfl hE0 hm0 rfl ?_
    conv => whnf
    iterate 5
      repeat' (first | exact True.intro | ((first | refine And.intro (fun _ => ?_) tf | refine And.intro ft (fun _ => ?_) | refine And.intro (by kernel_rfl) ?_ | refine And.intro (by decide) ?_ | refine And.intro (fun _ => ?_) (fun h => absurd h (by decide)) | refine And.intro (fun h => absurd h (by decide)) (fun _ => ?_) | refine ⟨_, _, c1.pu rfl rfl, ?_⟩ | refine ⟨_, _, s1.pu rfl rfl, ?_⟩ | fail); conv => whnf) | (refine And.intro (fun _ => ?_) (fun _ => ?_) <;> conv => whnf) | fail)
      all_goals try (refine Or.inl ?_; conv => whnf)
    all_goals try (exfalso; simp only [decide_eq_true_eq, decide_eq_false_iff_not, Bool.not_eq_true', Bool.not_eq_false', Bool.not_eq_true, Bool.not_eq_false, beq_iff_eq, bne_iff_ne, beq_eq_false_iff_ne, bne_eq_false_iff_eq, ne_eq, Decidable.not_not] at *; first | omega | contradiction | (simp_all; done) | (simp_all; omega))
    all_goals refine ⟨[], ?_⟩
    repeat (any_goals (first | exact True.intro | exact rfl | with_reducible_and_instances rfl | exact (by kernel_rfl) | refine And.intro ?_ ?_))
    all_goals conv => whnf
  | true =>
  rw [hsx] at s1
  rw [if_neg (by rw [hsx]; simp)] at hp
  have tl := trim_len rest [125]
  generalize hlist : Lib.trimSuffix rest [125] = list at *
  have sp := split_sat list
  obtain ⟨R, hR⟩ : ∃ R, takeP (restC (some list)) [] = R := ⟨_, rfl⟩
  rw [show takeP (splitC list) [] = R from hR] at hp
  refine sat_of_vc (T := tiOf Tryd.prog) (E := E0) Tryd.func20 rfl rfl hE0 hm0 rfl ?_
  conv => whnf
  iterate 3
    repeat' (first | exact True.intro | ((first | refine And.intro (fun _ => ?_) tf | refine And.intro ft (fun _ => ?_) | refine And.intro (by kernel_rfl) ?_ | refine And.intro (by decide) ?_ | refine And.intro (fun _ => ?_) (fun h => absurd h (by decide)) | refine And.intro (fun h => absurd h (by decide)) (fun _ => ?_) | refine ⟨_, _, c1.pu rfl rfl, ?_⟩ | refine ⟨_, _, s1.pu rfl rfl, ?_⟩ | fail); conv => whnf) | (refine And.intro (fun _ => ?_) (fun _ => ?_) <;> conv => whnf) | fail)
    all_goals try (refine Or.inl ?_; conv => whnf)
  all_goals try (exfalso; simp only [decide_eq_true_eq, decide_eq_false_iff_not, Bool.not_eq_true', Bool.not_eq_false', Bool.not_eq_true, Bool.not_eq_false, beq_iff_eq, bne_iff_ne, beq_eq_false_iff_ne, bne_eq_false_iff_eq, ne_eq, Decidable.not_not] at *; first | omega | contradiction | (simp_all; done) | (simp_all; omega))
  repeat' (first | exact True.intro | ((first | refine And.intro (fun _ => ?_) tf | refine And.intro ft (fun _ => ?_) | refine And.intro (by kernel_rfl) ?_ | refine And.intro (by decide) ?_ | refine And.intro (fun _ => ?_) (fun h => absurd h (by decide)) | refine And.intro (fun h => absurd h (by decide)) (fun _ => ?_) | refine ⟨_, _, sp.nw rfl, ?_⟩ | fail); conv => whnf) | (refine And.intro (fun _ => ?_) (fun _ => ?_) <;> conv => whnf) | fail)
  refine Or.inr ⟨List Lab, Option Bt, fun y acc => takeP (restC y) acc = R ∧ acc.length ≤ 8 ∧ ∀ r, y = some r → r.length ≤ 1000000, fun acc => [.cells [.d (tD []), .d nilV], .cells [bA false], .cells [.d (tD nm), .own 6], .dead, .dead, .dead, .sl 2 (acc.map labR)], [(32, .fn (.func 79) [] [.ptr 4 0, .ptr 3 0, .ptr 5 0]), (7, .ptr 2 0), (3, .ptr 1 0), (2, .ptr 0 0)], 6, 79, [], [.ptr 4 0, .ptr 3 0, .ptr 5 0], [.dead, .dead, .dead, .cells [.d (tD list)], .cells [.d (tD [44])], .cells [iA 0]], some list, splitNx, fun y => y = none, [.cells [.d (tD []), .d nilV], .cells [bA false], .cells [.d (tD nm), .own 6], .cells [.d (tD list)], .cells [.d (tD [44])], .cells [iA 0], .sl 2 []], ?_, ⟨[], ⟨hR, Nat.zero_le _, fun r h => by injection h with h; subst h; omega⟩, rfl⟩, rfl, by kernel_rfl, ?_, splitIt (by omega) (by decide) (by decide) rfl rfl rfl, ?_, fun k z _ => by show 6 ≤ 7; decide, ?_, ?_⟩
  · all_goals refine ⟨[], ?_⟩
    repeat (any_goals (first | exact True.intro | exact rfl | with_reducible_and_instances rfl | exact (by kernel_rfl) | refine And.intro ?_ ?_))
    all_goals conv => whnf
  · exact ⟨rfl, rfl, rfl, trivial⟩
  · rintro k x k' ⟨r, rfl, rfl, rfl⟩
    rfl
  · rintro y acc x y' ⟨hI1, hI2, hI3⟩ ⟨r, rfl, rfl, rfl⟩
    have hrl := hI3 r rfl
    have hhl := headT_len r
    have c2 := cut_sat (headT r) 61 (by omega)
    have hal : (acc.map labR).length = acc.length := List.length_map _
    rw [restC_next, takeP] at hI1
    generalize cutC (headT r) 61 = x at *
    obtain ⟨a, v, ok⟩ := x
    simp only at hI1
    conv => whnf
    cases ok with
    | false =>
      iterate 4
        repeat' (first | exact True.intro | ((first | refine And.intro (fun _ => ?_) tf | refine And.intro ft (fun _ => ?_) | refine And.intro (by kernel_rfl) ?_ | refine And.intro (by decide) ?_ | refine And.intro (fun _ => ?_) (fun h => absurd h (by decide)) | refine And.intro (fun h => absurd h (by decide)) (fun _ => ?_) | refine ⟨_, _, c2.pu rfl rfl, ?_⟩ | fail); conv => whnf) | (refine And.intro (fun _ => ?_) (fun _ => ?_) <;> conv => whnf) | fail)
        all_goals try (refine Or.inl ?_; conv => whnf)
      all_goals try exact (bnl (a := (!(a, v, false).2.2)) rfl ‹_›).elim
      all_goals refine ⟨[], ?_⟩
      repeat (any_goals (first | exact True.intro | exact rfl | with_reducible_and_instances rfl | exact (by kernel_rfl) | refine And.intro ?_ ?_))
      all_goals conv => whnf
    | true =>
      by_cases h8 : acc.length = 8
      · have e8 : ((((acc.map labR).length : Nat) : Int) == 8) = true := by rw [hal, h8]; rfl
        iterate 4
          repeat' (first | exact True.intro | ((first | refine And.intro (fun _ => ?_) tf | refine And.intro ft (fun _ => ?_) | refine And.intro (by kernel_rfl) ?_ | refine And.intro (by decide) ?_ | refine And.intro (fun _ => ?_) (fun h => absurd h (by decide)) | refine And.intro (fun h => absurd h (by decide)) (fun _ => ?_) | refine ⟨_, _, c2.pu rfl rfl, ?_⟩ | fail); conv => whnf) | (refine And.intro (fun _ => ?_) (fun _ => ?_) <;> conv => whnf) | fail)
          all_goals try (refine Or.inl ?_; conv => whnf)
        all_goals try exact (bnl e8 ‹_›).elim
        all_goals try (exfalso; simp only [decide_eq_true_eq, decide_eq_false_iff_not, Bool.not_eq_true', Bool.not_eq_false', Bool.not_eq_true, Bool.not_eq_false, beq_iff_eq, bne_iff_ne, beq_eq_false_iff_ne, bne_eq_false_iff_eq, ne_eq, Decidable.not_not] at *; first | omega | contradiction | (simp_all; done) | (simp_all; omega))
        all_goals refine ⟨[], ?_⟩
        repeat (any_goals (first | exact True.intro | exact rfl | with_reducible_and_instances rfl | exact (by kernel_rfl) | refine And.intro ?_ ?_))
        all_goals conv => whnf
      · have e8 : ((((acc.map labR).length : Nat) : Int) == 8) = false := by rw [hal, beq_eq_false_iff_ne]; omega
        rw [if_neg (by simp [h8])] at hI1
        iterate 4
          repeat' (first | exact True.intro | ((first | refine And.intro (fun _ => ?_) tf | refine And.intro ft (fun _ => ?_) | refine And.intro (by kernel_rfl) ?_ | refine And.intro (by decide) ?_ | refine And.intro (fun _ => ?_) (fun h => absurd h (by decide)) | refine And.intro (fun h => absurd h (by decide)) (fun _ => ?_) | refine ⟨_, _, c2.pu rfl rfl, ?_⟩ | refine ⟨_, _, ap 2 32 (by kernel_rfl) rfl rfl (by simp; omega), ?_⟩ | fail); conv => whnf) | (refine And.intro (fun _ => ?_) (fun _ => ?_) <;> conv => whnf) | fail)
          all_goals try (refine Or.inl ?_; conv => whnf)
        all_goals try exact (bnl ‹_› e8).elim
        all_goals try (exfalso; simp only [decide_eq_true_eq, decide_eq_false_iff_not, Bool.not_eq_true', Bool.not_eq_false', Bool.not_eq_true, Bool.not_eq_false, beq_iff_eq, bne_iff_ne, beq_eq_false_iff_ne, bne_eq_false_iff_eq, ne_eq, Decidable.not_not] at *; first | omega | contradiction | (simp_all; done) | (simp_all; omega))
        refine ⟨acc ++ [(a, v)], ⟨hI1, by rw [List.length_append]; simp; omega, fun q hq => by have := nextT_len hq; omega⟩, ?_⟩
        all_goals refine ⟨[(6, 8)], ?_⟩
        repeat (any_goals (first | exact True.intro | exact rfl | with_reducible_and_instances rfl | exact (by kernel_rfl) | refine And.intro ?_ ?_))
        all_goals conv => whnf
        rw [List.map_append]; rfl
  · rintro y acc rfl ⟨hI1, hI2, hI3⟩
    have hR2 : R = some acc := hI1.symm
    rw [hR2] at hp
    have hp : finS (nm, acc) = none := hp
    have hr : rightB (nm, acc) = false := by
      unfold finS at hp
      split at hp
      · cases hp
      · simpa using ‹¬ rightB (nm, acc) = true›
    have r1 := sRight_sat (nm, acc)
    rw [hr] at r1
    conv => whnf
    iterate 4
      repeat' (first | exact True.intro | ((first | refine And.intro (fun _ => ?_) tf | refine And.intro ft (fun _ => ?_) | refine And.intro (by kernel_rfl) ?_ | refine And.intro (by decide) ?_ | refine And.intro (fun _ => ?_) (fun h => absurd h (by decide)) | refine And.intro (fun h => absurd h (by decide)) (fun _ => ?_) | refine ⟨_, _, r1.lendAgg rfl rfl, ?_⟩ | fail); conv => whnf) | (refine And.intro (fun _ => ?_) (fun _ => ?_) <;> conv => whnf) | fail)
      all_goals try (refine Or.inl ?_; conv => whnf)
    all_goals try (exfalso; simp only [decide_eq_true_eq, decide_eq_false_iff_not, Bool.not_eq_true', Bool.not_eq_false', Bool.not_eq_true, Bool.not_eq_false, beq_iff_eq, bne_iff_ne, beq_eq_false_iff_ne, bne_eq_false_iff_eq, ne_eq, Decidable.not_not] at *; first | omega | contradiction | (simp_all; done) | (simp_all; omega))
    all_goals refine ⟨[], ?_⟩
    repeat (any_goals (first | exact True.intro | exact rfl | with_reducible_and_instances rfl | exact (by kernel_rfl) | refine And.intro ?_ ?_))
    all_goals conv => whnf
set_option maxHeartbeats 8000000 in
theorem parse_some (t : Bt) (s : Ser) (ht : t.length ≤ 1000000) (hp : parseS t = some s) : Sat Tryd.prog 20 [.d (tD t)] [] (.tup [.d (serD s), bA true]) [] := by
  have c1 := cut_sat t 123 ht
  have cl := cutC_len t 123
  unfold parseS at hp
  generalize hc : cutC t 123 = c at *
  obtain ⟨nm, rest, lab⟩ := c
  simp only at hp cl
  cases lab with
  | false =>
    rw [if_pos rfl] at hp
    obtain ⟨hr, rfl⟩ := finS_some hp
    have r1 := rightNil nm
    rw [hr] at r1
    refine Sat.post (r := .tup [.d (.agg [tD nm, nilV]), bA true]) ?_ fun w F ρ v h => nilTup h
    refine sat_of_vc (T := tiOf Tryd.prog) (E := E0) Tryd.func20 rfl rfl hE0 hm0 rfl ?_
    conv => whnf
    iterate 6
      repeat' (first | exact True.intro | ((first | refine And.intro (fun _ => ?_) tf | refine And.intro ft (fun _ => ?_) | refine And.intro (by kernel_rfl) ?_ | refine And.intro (by decide) ?_ | refine And.intro (fun _ => ?_) (fun h => absurd h (by decide)) | refine And.intro (fun h => absurd h (by decide)) (fun _ => ?_) | refine ⟨_, _, c1.pu rfl rfl, ?_⟩ | refine ⟨_, _, r1.pu rfl rfl, ?_⟩ | fail); conv => whnf) | (refine And.intro (fun _ => ?_) (fun _ => ?_) <;> conv => whnf) | fail)
      all_goals try (refine Or.inl ?_; conv => whnf)
    all_goals try (exfalso; simp only [decide_eq_true_eq, decide_eq_false_iff_not, Bool.not_eq_true', Bool.not_eq_false', Bool.not_eq_true, Bool.not_eq_false, beq_iff_eq, bne_iff_ne, beq_eq_false_iff_ne, bne_eq_false_iff_eq, ne_eq, Decidable.not_not] at *; first | omega | contradiction | (simp_all; done) | (simp_all; omega))
    all_goals refine ⟨[], ?_⟩
    repeat (any_goals (first | exact True.intro | exact rfl | with_reducible_and_instances rfl | exact (by kernel_rfl) | refine And.intro ?_ ?_))
    all_goals conv => whnf
  | true =>
  rw [if_neg (by simp)] at hp
  have s1 := cutSuffix_sat rest [125] (by omega)
  cases hsx : Lib.hasSuffix rest [125] with
  | false =>
    rw [if_pos hsx] at hp
    cases hp
  | true =>
  rw [hsx] at s1
  rw [if_neg (by rw [hsx]; simp)] at hp
  have tl := trim_len rest [125]
  generalize hlist : Lib.trimSuffix rest [125] = list at *
  have sp := split_sat list
  obtain ⟨R, hR⟩ : ∃ R, takeP (restC (some list)) [] = R := ⟨_, rfl⟩
  rw [show takeP (splitC list) [] = R from hR] at hp
  refine sat_of_vc (T := tiOf Tryd.prog) (E := E0) Tryd.func20 rfl rfl hE0 hm0 rfl ?_
  conv => whnf
  iterate 3
    repeat' (first | exact True.intro | ((first | refine And.intro (fun _ => ?_) tf | refine And.intro ft (fun _ => ?_) | refine And.intro (by kernel_rfl) ?_ | refine And.intro (by decide) ?_ | refine And.intro (fun _ => ?_) (fun h => absurd h (by decide)) | refine And.intro (fun h => absurd h (by decide)) (fun _ => ?_) | refine ⟨_, _, c1.pu rfl rfl, ?_⟩ | refine ⟨_, _, s1.pu rfl rfl, ?_⟩ | fail); conv => whnf) | (refine And.intro (fun _ => ?_) (fun _ => ?_) <;> conv => whnf) | fail)
    all_goals try (refine Or.inl ?_; conv => whnf)
  all_goals try (exfalso; simp only [decide_eq_true_eq, decide_eq_false_iff_not, Bool.not_eq_true', Bool.not_eq_false', Bool.not_eq_true, Bool.not_eq_false, beq_iff_eq, bne_iff_ne, beq_eq_false_iff_ne, bne_eq_false_iff_eq, ne_eq, Decidable.not_not] at *; first | omega | contradiction | (simp_all; done) | (simp_all; omega))
  repeat' (first | exact True.intro | ((first | refine And.intro (fun _ => ?_) tf | refine And.intro ft (fun _ => ?_) | refine And.intro (by kernel_rfl) ?_ | refine And.intro (by decide) ?_ | refine And.intro (fun _ => ?_) (fun h => absurd h (by decide)) | refine And.intro (fun h => absurd h (by decide)) (fun _ => ?_) | refine ⟨_, _, sp.nw rfl, ?_⟩ | fail); conv => whnf) | (refine And.intro (fun _ => ?_) (fun _ => ?_) <;> conv => whnf) | fail)
  refine Or.inr ⟨List Lab, Option Bt, fun y acc => takeP (restC y) acc = R ∧ acc.length ≤ 8 ∧ ∀ r, y = some r → r.length ≤ 1000000, fun acc => [.cells [.d (tD []), .d nilV], .cells [bA false], .cells [.d (tD nm), .own 6], .dead, .dead, .dead, .sl 2 (acc.map labR)], [(32, .fn (.func 79) [] [.ptr 4 0, .ptr 3 0, .ptr 5 0]), (7, .ptr 2 0), (3, .ptr 1 0), (2, .ptr 0 0)], 6, 79, [], [.ptr 4 0, .ptr 3 0, .ptr 5 0], [.dead, .dead, .dead, .cells [.d (tD list)], .cells [.d (tD [44])], .cells [iA 0]], some list, splitNx, fun y => y = none, [.cells [.d (tD []), .d nilV], .cells [bA false], .cells [.d (tD nm), .own 6], .cells [.d (tD list)], .cells [.d (tD [44])], .cells [iA 0], .sl 2 []], ?_, ⟨[], ⟨hR, Nat.zero_le _, fun r h => by injection h with h; subst h; omega⟩, rfl⟩, rfl, by kernel_rfl, ?_, splitIt (by omega) (by decide) (by decide) rfl rfl rfl, ?_, fun k z _ => by show 6 ≤ 7; decide, ?_, ?_⟩
  · all_goals refine ⟨[], ?_⟩
    repeat (any_goals (first | exact True.intro | exact rfl | with_reducible_and_instances rfl | exact (by kernel_rfl) | refine And.intro ?_ ?_))
    all_goals conv => whnf
  · exact ⟨rfl, rfl, rfl, trivial⟩
  · rintro k x k' ⟨r, rfl, rfl, rfl⟩
    rfl
  · rintro y acc x y' ⟨hI1, hI2, hI3⟩ ⟨r, rfl, rfl, rfl⟩
    have hrl := hI3 r rfl
    have hhl := headT_len r
    have c2 := cut_sat (headT r) 61 (by omega)
    have hal : (acc.map labR).length = acc.length := List.length_map _
    rw [restC_next, takeP] at hI1
    generalize cutC (headT r) 61 = x at *
    obtain ⟨a, v, ok⟩ := x
    simp only at hI1
    conv => whnf
    cases ok with
    | false =>
      rw [if_pos (.inl rfl)] at hI1
      rw [← hI1] at hp
      cases hp
    | true =>
      by_cases h8 : acc.length = 8
      · rw [if_pos (.inr h8)] at hI1
        rw [← hI1] at hp
        cases hp
      · have e8 : ((((acc.map labR).length : Nat) : Int) == 8) = false := by rw [hal, beq_eq_false_iff_ne]; omega
        rw [if_neg (by simp [h8])] at hI1
        iterate 4
          repeat' (first | exact True.intro | ((first | refine And.intro (fun _ => ?_) tf | refine And.intro ft (fun _ => ?_) | refine And.intro (by kernel_rfl) ?_ | refine And.intro (by decide) ?_ | refine And.intro (fun _ => ?_) (fun h => absurd h (by decide)) | refine And.intro (fun h => absurd h (by decide)) (fun _ => ?_) | refine ⟨_, _, c2.pu rfl rfl, ?_⟩ | refine ⟨_, _, ap 2 32 (by kernel_rfl) rfl rfl (by simp; omega), ?_⟩ | fail); conv => whnf) | (refine And.intro (fun _ => ?_) (fun _ => ?_) <;> conv => whnf) | fail)
          all_goals try (refine Or.inl ?_; conv => whnf)
        all_goals try exact (bnl ‹_› e8).elim
        all_goals try (exfalso; simp only [decide_eq_true_eq, decide_eq_false_iff_not, Bool.not_eq_true', Bool.not_eq_false', Bool.not_eq_true, Bool.not_eq_false, beq_iff_eq, bne_iff_ne, beq_eq_false_iff_ne, bne_eq_false_iff_eq, ne_eq, Decidable.not_not] at *; first | omega | contradiction | (simp_all; done) | (simp_all; omega))
        refine ⟨acc ++ [(a, v)], ⟨hI1, by rw [List.length_append]; simp; omega, fun q hq => by have := nextT_len hq; omega⟩, ?_⟩
        all_goals refine ⟨[(6, 8)], ?_⟩
        repeat (any_goals (first | exact True.intro | exact rfl | with_reducible_and_instances rfl | exact (by kernel_rfl) | refine And.intro ?_ ?_))
        all_goals conv => whnf
        rw [List.map_append]; rfl
  · rintro y acc rfl ⟨hI1, hI2, hI3⟩
    have hR2 : R = some acc := hI1.symm
    rw [hR2] at hp
    obtain ⟨hr, rfl⟩ := finS_some (show finS (nm, acc) = some s from hp)
    have r1 := sRight_sat (nm, acc)
    rw [hr] at r1
    conv => whnf
    iterate 4
      repeat' (first | exact True.intro | ((first | refine And.intro (fun _ => ?_) tf | refine And.intro ft (fun _ => ?_) | refine And.intro (by kernel_rfl) ?_ | refine And.intro (by decide) ?_ | refine And.intro (fun _ => ?_) (fun h => absurd h (by decide)) | refine And.intro (fun h => absurd h (by decide)) (fun _ => ?_) | refine ⟨_, _, r1.lendAgg rfl rfl, ?_⟩ | fail); conv => whnf) | (refine And.intro (fun _ => ?_) (fun _ => ?_) <;> conv => whnf) | fail)
      all_goals try (refine Or.inl ?_; conv => whnf)
    all_goals try (exfalso; simp only [decide_eq_true_eq, decide_eq_false_iff_not, Bool.not_eq_true', Bool.not_eq_false', Bool.not_eq_true, Bool.not_eq_false, beq_iff_eq, bne_iff_ne, beq_eq_false_iff_ne, bne_eq_false_iff_eq, ne_eq, Decidable.not_not] at *; first | omega | contradiction | (simp_all; done) | (simp_all; omega))
    all_goals refine ⟨[], ?_⟩
    repeat (any_goals (first | exact True.intro | exact rfl | with_reducible_and_instances rfl | exact (by kernel_rfl) | refine And.intro ?_ ?_))
    all_goals conv => whnf
end Go.Proofs.YtpnbpcdmiiakcaaDoor
/- alive of the law 08. -/
namespace Go.Proofs.YtpnbpcdmiiakcaaDoor
set_option linter.unusedSimpArgs false
open Go.RowKit
set_option maxRecDepth 100000
set_option linter.unusedVariables false
def hitsT : Bt := [104, 105, 116, 115]
def labsM : List Lab := [([97], [49]), ([98], [50])]
def serM : Ser := (hitsT, labsM)
def bM8 : Bt := [4, 104, 105, 116, 115, 2, 1, 97, 1, 49, 1, 98, 1, 50]
def lf8 (k : Nat) : Bt := bM8.drop k
theorem text_at8 (l l' : Bt) (x : Bt) (n s : Nat) (hn : l.length ≤ 65536) (hc : cnt l 64 = (n, s, 0)) (hs : s + n ≤ l.length) (hl : l.drop (s + n) = l') (hx : (l.take (s + n)).drop s = x) : Sat Tryd.prog 47 [.ptr 0 0, iA 64] [rdO l 0] (.d (tD x)) [rdO l' 0] := by
  have := text_sat l 64 n s (by decide) hn hc hs
  rwa [hl, hx] at this
theorem count_at8 (l l' : Bt) (n s : Nat) (hn : l.length ≤ 65536) (hd : cnt l 8 = (n, s, 0)) (hl : l.drop s = l') : Sat Tryd.prog 48 [.ptr 0 0, iA 8] [rdO l 0] (iA n) [rdO l' 0] := by
  have := countM_sat l 8 (by decide) hn (by rw [hd])
  rw [hd] at this
  rw [← hl]
  exact this
theorem err8_sat (l : Bt) : Sat Tryd.prog 49 [.ptr 0 0] [rdO l 0] (iA 0) [rdO l 0] := by
  refine sat_of_vc (T := tiOf Tryd.prog) (E := E0) Tryd.func49 rfl rfl hE0 hm0 rfl ?_
  conv => whnf
  iterate 2
    repeat' (first | exact True.intro | ((first | refine And.intro (fun _ => ?_) tf | refine And.intro ft (fun _ => ?_) | refine And.intro (by kernel_rfl) ?_ | refine And.intro (by decide) ?_ | refine And.intro (fun _ => ?_) (fun h => absurd h (by decide)) | refine And.intro (fun h => absurd h (by decide)) (fun _ => ?_) | fail); conv => whnf) | (refine And.intro (fun _ => ?_) (fun _ => ?_) <;> conv => whnf) | fail)
    all_goals try (refine Or.inl ?_; conv => whnf)
  all_goals refine ⟨[], ?_⟩
  repeat (any_goals (first | exact True.intro | exact rfl | with_reducible_and_instances rfl | exact (by kernel_rfl) | refine And.intro ?_ ?_))
  all_goals conv => whnf
set_option maxHeartbeats 4000000 in
theorem readM_sat : Sat Tryd.prog 25 [.ptr 0 0] [rdO (lf8 0) 0] (.tup [.d (serD serM), iA 0]) [rdO (lf8 14) 0] := by
  have t0 := text_at8 (lf8 0) (lf8 5) hitsT 4 1 (by decide) (by decide) (by decide) (by decide) (by decide)
  have c0 := count_at8 (lf8 5) (lf8 6) 2 1 (by decide) (by decide) (by decide)
  have t1 := text_at8 (lf8 6) (lf8 8) [97] 1 1 (by decide) (by decide) (by decide) (by decide) (by decide)
  have t2 := text_at8 (lf8 8) (lf8 10) [49] 1 1 (by decide) (by decide) (by decide) (by decide) (by decide)
  have t3 := text_at8 (lf8 10) (lf8 12) [98] 1 1 (by decide) (by decide) (by decide) (by decide) (by decide)
  have t4 := text_at8 (lf8 12) (lf8 14) [50] 1 1 (by decide) (by decide) (by decide) (by decide) (by decide)
  have e1 := err8_sat (lf8 14)
  have r1 := sRight_sat serM
  rw [show rightB serM = true by decide] at r1
  refine sat_of_vc (T := tiOf Tryd.prog) (E := E0) Tryd.func25 rfl rfl hE0 hm0 rfl ?_
  conv => whnf
  iterate 3
    repeat' (first | exact True.intro | ((first | refine And.intro (fun _ => ?_) tf | refine And.intro ft (fun _ => ?_) | refine And.intro (by kernel_rfl) ?_ | refine And.intro (by decide) ?_ | refine And.intro (fun _ => ?_) (fun h => absurd h (by decide)) | refine And.intro (fun h => absurd h (by decide)) (fun _ => ?_) | refine ⟨_, _, t0.at1 0 rfl rfl rfl, ?_⟩ | refine ⟨_, _, c0.at1 0 rfl rfl rfl, ?_⟩ | fail); conv => whnf) | (refine And.intro (fun _ => ?_) (fun _ => ?_) <;> conv => whnf) | fail)
    all_goals try (refine Or.inl ?_; conv => whnf)
  refine ⟨Nat, fun k => k ≤ 2, fun k => ([(12, iA k), (11, iA 2), (4, .ptr 2 0), (2, .ptr 1 0), (0, .ptr 0 0)], [rdO (lf8 (6 + 4 * k)) 0, .cells [.d (tD []), .d nilV], .cells [.d (tD hitsT), .own 3], .sl 2 ((labsM.take k).map labR)]), fun k => 2 - k, ⟨0, by decide, ?_⟩, ?_⟩
  · all_goals refine ⟨[], ?_⟩
    repeat (any_goals (first | exact True.intro | exact rfl | with_reducible_and_instances rfl | exact (by kernel_rfl) | refine And.intro ?_ ?_))
    all_goals conv => whnf
  intro k hk
  have hk3 : k = 0 ∨ k = 1 ∨ k = 2 := by have : k ≤ 2 := hk; omega
  rcases hk3 with rfl | rfl | rfl
  · conv => whnf
    iterate 3
      repeat' (first | exact True.intro | ((first | refine And.intro (fun _ => ?_) tf | refine And.intro ft (fun _ => ?_) | refine And.intro (by kernel_rfl) ?_ | refine And.intro (by decide) ?_ | refine And.intro (fun _ => ?_) (fun h => absurd h (by decide)) | refine And.intro (fun h => absurd h (by decide)) (fun _ => ?_) | refine ⟨_, _, t1.at1 0 rfl rfl rfl, ?_⟩ | refine ⟨_, _, t2.at1 0 rfl rfl rfl, ?_⟩ | refine ⟨_, _, ap 2 32 (by kernel_rfl) rfl rfl (by simp), ?_⟩ | fail); conv => whnf) | (refine And.intro (fun _ => ?_) (fun _ => ?_) <;> conv => whnf) | fail)
      all_goals try (refine Or.inl ?_; conv => whnf)
    refine ⟨1, by decide, by decide, ?_⟩
    all_goals refine ⟨[(3, 5)], ?_⟩
    repeat (any_goals (first | exact True.intro | exact rfl | with_reducible_and_instances rfl | exact (by kernel_rfl) | refine And.intro ?_ ?_))
    all_goals conv => whnf
  · conv => whnf
    iterate 3
      repeat' (first | exact True.intro | ((first | refine And.intro (fun _ => ?_) tf | refine And.intro ft (fun _ => ?_) | refine And.intro (by kernel_rfl) ?_ | refine And.intro (by decide) ?_ | refine And.intro (fun _ => ?_) (fun h => absurd h (by decide)) | refine And.intro (fun h => absurd h (by decide)) (fun _ => ?_) | refine ⟨_, _, t3.at1 0 rfl rfl rfl, ?_⟩ | refine ⟨_, _, t4.at1 0 rfl rfl rfl, ?_⟩ | refine ⟨_, _, ap 2 32 (by kernel_rfl) rfl rfl (by simp [labsM]), ?_⟩ | fail); conv => whnf) | (refine And.intro (fun _ => ?_) (fun _ => ?_) <;> conv => whnf) | fail)
      all_goals try (refine Or.inl ?_; conv => whnf)
    refine ⟨2, by decide, by decide, ?_⟩
    all_goals refine ⟨[(3, 5)], ?_⟩
    repeat (any_goals (first | exact True.intro | exact rfl | with_reducible_and_instances rfl | exact (by kernel_rfl) | refine And.intro ?_ ?_))
    all_goals conv => whnf
  · conv => whnf
    iterate 5
      repeat' (first | exact True.intro | ((first | refine And.intro (fun _ => ?_) tf | refine And.intro ft (fun _ => ?_) | refine And.intro (by kernel_rfl) ?_ | refine And.intro (by decide) ?_ | refine And.intro (fun _ => ?_) (fun h => absurd h (by decide)) | refine And.intro (fun h => absurd h (by decide)) (fun _ => ?_) | refine ⟨_, _, e1.at1 0 rfl rfl rfl, ?_⟩ | refine ⟨_, _, r1.lendAgg rfl rfl, ?_⟩ | fail); conv => whnf) | (refine And.intro (fun _ => ?_) (fun _ => ?_) <;> conv => whnf) | fail)
      all_goals try (refine Or.inl ?_; conv => whnf)
    all_goals refine ⟨[], ?_⟩
    repeat (any_goals (first | exact True.intro | exact rfl | with_reducible_and_instances rfl | exact (by kernel_rfl) | refine And.intro ?_ ?_))
    all_goals conv => whnf
end Go.Proofs.YtpnbpcdmiiakcaaDoor
/- alive of the law 08, the whole. -/
namespace Go.Proofs.YtpnbpcdmiiakcaaDoor
set_option linter.unusedSimpArgs false
open Go.RowKit
set_option maxRecDepth 100000
set_option linter.unusedVariables false
def txM : Bt := [104, 105, 116, 115, 123, 97, 61, 49, 44, 98, 61, 50, 125]
def txN : Bt := [104, 105, 116, 115, 123, 98, 61, 50, 44, 97, 61, 49, 125]
theorem cmpNil (a : Ser) (nm : Bt) (hn : a.2.length ≤ 1000000) : Sat Tryd.prog 22 [.d (serD a), .d (.agg [tD nm, nilV])] [] (iA (serCmp a (nm, []))) [] :=
  (serCmp_sat a (nm, []) hn).pre fun w F ρ vs h => by
    cases h with | cons h1 h2 =>
    cases h2 with | cons h2 h3 =>
    cases h2 with | d h2 => exact .cons h1 (.cons (.d h2.nilAgg) h3)
set_option maxHeartbeats 8000000 in
theorem alive8 : Sat Tryd.prog 6 [] [] (bA true) [] := by
  have m1 := make_sat hitsT [([98], [50]), ([97], [49])]
  rw [show makeS hitsT [([98], [50]), ([97], [49])] = (serM, 0) by decide +kernel] at m1
  have m2 := make_sat hitsT [([97], []), ([97], [])]
  rw [show makeS hitsT [([97], []), ([97], [])] = (([], []), 18) by decide +kernel] at m2
  have p1 := parse_some txM serM (by decide) (by decide +kernel)
  have p2 := parse_none txN (by decide) (by decide +kernel)
  have g1 := get_sat serM [98] (by decide)
  rw [show getL serM.2 [98] = ([50], true) by decide +kernel] at g1
  have b1 := bytes_satS serM
  rw [show bytesS serM = bM8 by decide +kernel] at b1
  have n1 : Sat Tryd.prog 24 [.d (bsD bM8)] [] (.ptr 1 0) [.dead, rdO (lf8 0) 0] := newR_sat bM8 (by decide) (by decide)
  have rd := readM_sat
  have r1 := sRight_sat serM
  rw [show rightB serM = true by decide +kernel] at r1
  have t1 := text_satS serM
  rw [show textS serM = txM by decide +kernel] at t1
  have s1 := sameS_sat serM serM (by decide) (by decide)
  rw [decide_eq_true rfl] at s1
  have c1 := cmpNil serM hitsT (by decide)
  rw [show serCmp serM (hitsT, []) = 1 by decide +kernel] at c1
  refine sat_of_vc (T := tiOf Tryd.prog) (E := E0) Tryd.func6 rfl rfl hE0 hm0 rfl ?_
  conv => whnf
  iterate 4
    repeat' (first | exact True.intro | ((first | refine And.intro (fun _ => ?_) tf | refine And.intro ft (fun _ => ?_) | refine And.intro (by kernel_rfl) ?_ | refine And.intro (by decide) ?_ | refine And.intro (fun _ => ?_) (fun h => absurd h (by decide)) | refine And.intro (fun h => absurd h (by decide)) (fun _ => ?_) | refine ⟨_, _, frz_b m1 rfl rfl, ?_⟩ | refine ⟨_, _, frz_b m2 rfl rfl, ?_⟩ | refine ⟨_, _, p1.pu rfl rfl, ?_⟩ | refine ⟨_, _, p2.pu rfl rfl, ?_⟩ | refine ⟨_, _, g1.pu rfl rfl, ?_⟩ | refine ⟨_, _, b1.pu rfl rfl, ?_⟩ | refine ⟨_, _, n1.nw rfl, ?_⟩ | refine ⟨_, _, rd.at1 7 rfl rfl rfl, ?_⟩ | refine ⟨_, _, eqP (by kernel_rfl), ?_⟩ | refine ⟨_, _, eqN (by kernel_rfl), ?_⟩ | refine ⟨_, _, r1.pu rfl rfl, ?_⟩ | refine ⟨_, _, t1.pu rfl rfl, ?_⟩ | refine ⟨_, _, s1.pu rfl rfl, ?_⟩ | refine ⟨_, _, c1.pu rfl rfl, ?_⟩ | refine ⟨_, _, eqL', ?_⟩ | fail); conv => whnf) | (refine And.intro (fun _ => ?_) (fun _ => ?_) <;> conv => whnf) | fail)
    all_goals try (refine Or.inl ?_; conv => whnf)
  all_goals try (exfalso; simp only [decide_eq_true_eq, decide_eq_false_iff_not, Bool.not_eq_true', Bool.not_eq_false', Bool.not_eq_true, Bool.not_eq_false, beq_iff_eq, bne_iff_ne, beq_eq_false_iff_ne, bne_eq_false_iff_eq, ne_eq, Decidable.not_not] at *; first | omega | contradiction | (simp_all; done) | (simp_all; omega))
  all_goals refine ⟨[], ?_⟩
  repeat (any_goals (first | exact True.intro | exact rfl | with_reducible_and_instances rfl | exact (by kernel_rfl) | refine And.intro ?_ ?_))
  all_goals conv => whnf
end Go.Proofs.YtpnbpcdmiiakcaaDoor
/- label, in plain Lean: the order of series is one; the sort. -/
namespace Go.Proofs.YtpnbpcdmiiakcaaDoor
set_option linter.unusedSimpArgs false
set_option linter.unusedVariables false
open Go.RowKit
structure Cmp3 {α : Type} (f : α → α → Int) : Prop where
  rng : ∀ a b, f a b = -1 ∨ f a b = 0 ∨ f a b = 1
  neg : ∀ a b, f b a = - f a b
  eq : ∀ a b, f a b = 0 ↔ a = b
  tr : ∀ a b c, f a b ≤ 0 → f b c ≤ 0 → f a c ≤ 0
theorem ordB_lt {a b : Bt} (h : a < b) : ordB a b = -1 := if_pos h
theorem ordB_gt {a b : Bt} (h : b < a) : ordB a b = 1 := by
  unfold ordB
  rw [if_neg (fun q => List.lt_irrefl _ (List.lt_trans h q)), if_pos h]
theorem ordB_tri (a b : Bt) : a < b ∨ a = b ∨ b < a := by
  by_cases h1 : a < b
  · exact .inl h1
  · by_cases h2 : b < a
    · exact .inr (.inr h2)
    · exact .inr (.inl (List.le_antisymm (List.not_lt.1 h2) (List.not_lt.1 h1)))
theorem ordB_self (a : Bt) : ordB a a = 0 := ordB_zero.2 rfl
theorem ordB_le {a b : Bt} : ordB a b ≤ 0 ↔ ¬ b < a := by
  rcases ordB_tri a b with h | h | h
  · rw [ordB_lt h]; exact ⟨fun _ q => List.lt_irrefl _ (List.lt_trans h q), fun _ => by decide⟩
  · subst h; rw [ordB_self]; exact ⟨fun _ => List.lt_irrefl _, fun _ => by decide⟩
  · rw [ordB_gt h]; exact ⟨fun q => absurd q (by decide), fun q => absurd h q⟩
theorem cmp3_ordB : Cmp3 ordB where
  rng a b := by
    rcases ordB_tri a b with h | h | h
    · exact .inl (ordB_lt h)
    · exact .inr (.inl (ordB_zero.2 h))
    · exact .inr (.inr (ordB_gt h))
  neg a b := by
    rcases ordB_tri a b with h | h | h
    · rw [ordB_lt h, ordB_gt h]; rfl
    · rw [ordB_zero.2 h, ordB_zero.2 h.symm]; rfl
    · rw [ordB_gt h, ordB_lt h]
  eq a b := ordB_zero
  tr a b c h1 h2 := by
    rw [ordB_le] at *
    intro h
    rcases ordB_tri a b with q | q | q
    · rcases ordB_tri b c with p | p | p
      · exact List.lt_irrefl _ (List.lt_trans h (List.lt_trans q p))
      · subst p; exact List.lt_irrefl _ (List.lt_trans h q)
      · exact h2 p
    · subst q; exact h2 h
    · exact h1 q
theorem orI_neg {a b : Int} : orI (-a) (-b) = - orI a b := by
  unfold orI
  by_cases h : a = 0
  · subst h; simp
  · rw [if_pos (by omega), if_pos h]
theorem Cmp3.lex {α β : Type} {f : α → α → Int} {g : β → β → Int} (F : Cmp3 f) (G : Cmp3 g) : Cmp3 (fun (a b : α × β) => orI (f a.1 b.1) (g a.2 b.2)) where
  rng a b := by
    show orI (f a.1 b.1) (g a.2 b.2) = -1 ∨ orI (f a.1 b.1) (g a.2 b.2) = 0 ∨ orI (f a.1 b.1) (g a.2 b.2) = 1
    unfold orI
    split
    · exact F.rng _ _
    · exact G.rng _ _
  neg a b := by
    show orI (f b.1 a.1) (g b.2 a.2) = _
    rw [F.neg, G.neg, orI_neg]
  eq a b := by
    show orI (f a.1 b.1) (g a.2 b.2) = 0 ↔ _
    rw [orI_zero, F.eq, G.eq, Prod.ext_iff]
  tr a b c := by
    show orI (f a.1 b.1) (g a.2 b.2) ≤ 0 → orI (f b.1 c.1) (g b.2 c.2) ≤ 0 → orI (f a.1 c.1) (g a.2 c.2) ≤ 0
    intro h1 h2
    have t := F.tr a.1 b.1 c.1
    have t2 := G.tr a.2 b.2 c.2
    unfold orI at h1 h2 ⊢
    by_cases e1 : f a.1 b.1 = 0
    · rw [if_neg (by simpa using e1)] at h1
      have e := (F.eq _ _).1 e1
      rw [e]
      by_cases e2 : f b.1 c.1 = 0
      · rw [if_neg (by simpa using e2)] at h2 ⊢
        exact t2 h1 h2
      · rw [if_pos e2] at h2 ⊢
        exact h2
    · rw [if_pos e1] at h1
      have h2' : f b.1 c.1 ≤ 0 := by
        by_cases e2 : f b.1 c.1 = 0
        · omega
        · rw [if_pos e2] at h2; exact h2
      have t3 := t h1 h2'
      by_cases e3 : f a.1 c.1 = 0
      · have e := (F.eq _ _).1 e3
        rw [← e, F.neg] at h2'
        omega
      · rw [if_pos e3]; exact t3
theorem cmp3_lab : Cmp3 labCmp := cmp3_ordB.lex cmp3_ordB
theorem labsCmp_neg : ∀ (l k : List Lab), labsCmp k l = - labsCmp l k
  | [], [] => rfl
  | [], _ :: _ => rfl
  | _ :: _, [] => rfl
  | a :: l, b :: k => by
    show orI (labCmp b a) (labsCmp k l) = - orI (labCmp a b) (labsCmp l k)
    rw [cmp3_lab.neg, labsCmp_neg l k, orI_neg]
theorem labsCmp_rng : ∀ (l k : List Lab), labsCmp l k = -1 ∨ labsCmp l k = 0 ∨ labsCmp l k = 1
  | [], [] => .inr (.inl rfl)
  | [], _ :: _ => .inl rfl
  | _ :: _, [] => .inr (.inr rfl)
  | a :: l, b :: k => by
    show orI (labCmp a b) (labsCmp l k) = -1 ∨ orI (labCmp a b) (labsCmp l k) = 0 ∨ orI (labCmp a b) (labsCmp l k) = 1
    unfold orI
    split
    · exact cmp3_lab.rng _ _
    · exact labsCmp_rng l k
theorem labsCmp_tr : ∀ (l k m : List Lab), labsCmp l k ≤ 0 → labsCmp k m ≤ 0 → labsCmp l m ≤ 0
  | [], _, [], _, _ => Int.le_refl _
  | [], _, _ :: _, _, _ => show (-1 : Int) ≤ 0 by decide
  | _ :: _, [], _, h, _ => absurd (show (1 : Int) ≤ 0 from h) (by decide)
  | _ :: _, _ :: _, [], _, h => absurd (show (1 : Int) ≤ 0 from h) (by decide)
  | a :: l, b :: k, c :: m, h1, h2 => by
    have F := cmp3_lab
    have t2 := labsCmp_tr l k m
    have t := F.tr a b c
    have h1 : orI (labCmp a b) (labsCmp l k) ≤ 0 := h1
    have h2 : orI (labCmp b c) (labsCmp k m) ≤ 0 := h2
    show orI (labCmp a c) (labsCmp l m) ≤ 0
    unfold orI at h1 h2 ⊢
    by_cases e1 : labCmp a b = 0
    · rw [if_neg (by simpa using e1)] at h1
      have e := (F.eq _ _).1 e1
      rw [e]
      by_cases e2 : labCmp b c = 0
      · rw [if_neg (by simpa using e2)] at h2 ⊢
        exact t2 h1 h2
      · rw [if_pos e2] at h2 ⊢
        exact h2
    · rw [if_pos e1] at h1
      have h2' : labCmp b c ≤ 0 := by
        by_cases e2 : labCmp b c = 0
        · omega
        · rw [if_pos e2] at h2; exact h2
      have t3 := t h1 h2'
      by_cases e3 : labCmp a c = 0
      · have e := (F.eq _ _).1 e3
        rw [← e, F.neg] at h2'
        omega
      · rw [if_pos e3]; exact t3
theorem cmp3_labs : Cmp3 labsCmp := ⟨labsCmp_rng, labsCmp_neg, fun a b => labsCmp_zero, labsCmp_tr⟩
theorem cmp3_ser : Cmp3 serCmp := cmp3_ordB.lex cmp3_labs
/-! ### the sort -/
theorem sinkR_perm (x : Lab) : ∀ r : List Lab, (sinkR x r).Perm (x :: r)
  | [] => .refl _
  | a :: r => by
    unfold sinkR
    split
    · exact ((sinkR_perm x r).cons a).trans (.swap x a r)
    · exact .refl _
theorem insR_perm : ∀ (l r : List Lab), (l.foldl (fun r x => sinkR x r) r).Perm (l ++ r)
  | [], r => .refl _
  | x :: l, r => by
    rw [List.foldl_cons]
    refine (insR_perm l _).trans ?_
    refine ((sinkR_perm x r).append_left l).trans ?_
    exact List.perm_middle
theorem sinkR_pw (x : Lab) : ∀ r : List Lab, r.Pairwise (fun a b => ¬ a.1 < b.1) → (sinkR x r).Pairwise (fun a b => ¬ a.1 < b.1)
  | [], _ => by simp [sinkR]
  | a :: r, h => by
    rw [List.pairwise_cons] at h
    unfold sinkR
    split
    · rename_i hx
      rw [List.pairwise_cons]
      refine ⟨fun y hy => ?_, sinkR_pw x r h.2⟩
      rcases List.mem_cons.1 ((sinkR_perm x r).subset hy) with e | e
      · rw [e]; exact fun q => List.lt_irrefl _ (List.lt_trans q hx)
      · exact h.1 y e
    · rename_i hx
      rw [List.pairwise_cons]
      refine ⟨fun y hy => ?_, by rw [List.pairwise_cons]; exact h⟩
      rcases List.mem_cons.1 hy with e | e
      · rw [e]; exact hx
      · intro q
        rcases ordB_tri x.1 a.1 with p | p | p
        · exact hx p
        · exact h.1 y e (by rw [← p]; exact q)
        · exact h.1 y e (List.lt_trans p q)
theorem insR_pw : ∀ (l r : List Lab), r.Pairwise (fun a b => ¬ a.1 < b.1) → (l.foldl (fun r x => sinkR x r) r).Pairwise (fun a b => ¬ a.1 < b.1)
  | [], _, h => h
  | x :: l, r, h => insR_pw l _ (sinkR_pw x r h)
theorem insS_perm (l : List Lab) : (insS l).Perm l := by
  unfold insS insR
  refine (List.reverse_perm _).trans ?_
  have := insR_perm l []
  rwa [List.append_nil] at this
theorem insS_pw (l : List Lab) : (insS l).Pairwise (fun a b => ¬ b.1 < a.1) := by
  unfold insS insR
  rw [List.pairwise_reverse]
  exact insR_pw l [] List.Pairwise.nil
/-! ### strictly ascending names -/
def ascL (l : List Lab) : Prop := l.Pairwise fun a b => a.1 < b.1
theorem chkL_iff : ∀ (l : List Lab) (p : Option Bt), chkL p l = true ↔ (∀ x ∈ l, labB x = true) ∧ ascL l ∧ ∀ a, p = some a → ∀ x ∈ l, a < x.1
  | [], p => by simp [chkL, ascL]
  | y :: r, p => by
    have ih := chkL_iff r (some y.1)
    have e : chkL p (y :: r) = (labB y && ((match p with | none => true | some a => decide (a < y.1)) && chkL (some y.1) r)) := by cases p <;> rfl
    rw [e, Bool.and_eq_true, Bool.and_eq_true, ih]
    unfold ascL
    rw [List.pairwise_cons]
    constructor
    · rintro ⟨h1, h2, h3, h4, h5⟩
      refine ⟨fun x hx => ?_, ⟨h5 _ rfl, h4⟩, fun a ha x hx => ?_⟩
      · rcases List.mem_cons.1 hx with q | q
        · rw [q]; exact h1
        · exact h3 x q
      · subst ha
        have ha : a < y.1 := of_decide_eq_true h2
        rcases List.mem_cons.1 hx with q | q
        · rw [q]; exact ha
        · exact List.lt_trans ha (h5 _ rfl x q)
    · rintro ⟨h1, ⟨h2, h3⟩, h4⟩
      refine ⟨h1 y (List.mem_cons_self ..), ?_, fun x hx => h1 x (List.mem_cons_of_mem _ hx), h3, fun a ha x hx => ?_⟩
      · cases p with
        | none => rfl
        | some a => exact decide_eq_true (h4 a rfl y (List.mem_cons_self ..))
      · injection ha with ha
        rw [← ha]
        exact h2 x hx
theorem right_iff (s : Ser) : rightB s = true ↔ nameL s.1 = true ∧ s.2.length ≤ 8 ∧ (∀ x ∈ s.2, labB x = true) ∧ ascL s.2 := by
  unfold rightB
  rw [Bool.and_eq_true, Bool.and_eq_true, decide_eq_true_eq, chkL_iff]
  constructor
  · rintro ⟨h1, h2, h3, h4, _⟩
    exact ⟨h1, h2, h3, h4⟩
  · rintro ⟨h1, h2, h3, h4⟩
    exact ⟨h1, h2, h3, h4, fun a h => by cases h⟩
/-- The sort of a list that is another order of an ascending one. -/
theorem insS_asc {l k : List Lab} (h : l.Perm k) (hk : ascL k) : insS l = k := by
  have hp := (insS_perm l).trans h
  have hk2 : k.Pairwise fun a b => ¬ b.1 < a.1 := hk.imp fun {a b} q p => List.lt_irrefl _ (List.lt_trans q p)
  refine List.Perm.eq_of_pairwise (le := fun a b => ¬ b.1 < a.1) (fun a b ha0 hb h1 h2 => ?_) (insS_pw l) hk2 hp
  have he : a.1 = b.1 := List.le_antisymm (List.not_lt.1 h1) (List.not_lt.1 h2)
  have ha : a ∈ k := hp.subset ha0
  -- equal names in an ascending list are one label
  clear ha0 hp h h1 h2 hk2
  induction k with
  | nil => cases ha
  | cons x r ih =>
    unfold ascL at hk
    rw [List.pairwise_cons] at hk
    rcases List.mem_cons.1 ha with p | p <;> rcases List.mem_cons.1 hb with q | q
    · rw [p, q]
    · have := hk.1 b q
      rw [← p, he] at this
      exact absurd this (List.lt_irrefl _)
    · have := hk.1 a p
      rw [← q, he] at this
      exact absurd this (List.lt_irrefl _)
    · exact ih hk.2 q p
theorem make_turn {a : Ser} {l : List Lab} (ha : rightB a = true) (hl : l.Perm a.2) : makeS a.1 l = (a, 0) := by
  obtain ⟨h1, h2, h3, h4⟩ := (right_iff a).1 ha
  unfold makeS
  rw [if_pos h1, if_pos (by rw [hl.length_eq]; exact h2), if_pos (by rw [List.all_eq_true]; exact fun x hx => h3 x (hl.subset hx)), insS_asc hl h4]
  rw [if_pos ha]
end Go.Proofs.YtpnbpcdmiiakcaaDoor
/- label, in plain Lean: a right series' text is parsed as it was; bytes tell the series. -/
namespace Go.Proofs.YtpnbpcdmiiakcaaDoor
set_option linter.unusedSimpArgs false
set_option linter.unusedVariables false
open Go.RowKit
theorem ix_app {c : UInt8} : ∀ {a : Bt} {b : Bt}, (∀ x ∈ a, x ≠ c) → ixB (a ++ c :: b) c = a.length
  | [], b, _ => by unfold ixB; rw [List.nil_append, Lib.indexByte]; simp
  | x :: a, b, h => by
    have ih := ix_app (c := c) (a := a) (b := b) fun y hy => h y (List.mem_cons_of_mem _ hy)
    unfold ixB at ih ⊢
    have hx : (x == c) = false := by rw [beq_eq_false_iff_ne]; exact h x (List.mem_cons_self ..)
    rw [List.cons_append, Lib.indexByte, hx, ih]
    have : ((a.length : Int) == -1) = false := by rw [beq_eq_false_iff_ne]; omega
    simp only [this]
    simp
theorem ix_none {c : UInt8} : ∀ {a : Bt}, (∀ x ∈ a, x ≠ c) → ixB a c = -1
  | [], _ => rfl
  | x :: a, h => by
    have ih := ix_none (c := c) (a := a) fun y hy => h y (List.mem_cons_of_mem _ hy)
    unfold ixB at ih ⊢
    have hx : (x == c) = false := by rw [beq_eq_false_iff_ne]; exact h x (List.mem_cons_self ..)
    rw [Lib.indexByte, hx, ih]
    rfl
theorem cut_app {c : UInt8} {a b : Bt} (h : ∀ x ∈ a, x ≠ c) : cutC (a ++ c :: b) c = (a, b, true) := by
  unfold cutC
  rw [ix_app h, if_neg (by omega), Int.toNat_natCast]
  simp
theorem cut_no {c : UInt8} {a : Bt} (h : ∀ x ∈ a, x ≠ c) : cutC a c = (a, [], false) := by
  unfold cutC
  rw [ix_none h, if_pos (by decide)]
theorem splitC_one : ∀ {a : Bt}, (∀ x ∈ a, x ≠ 44) → splitC a = [a]
  | [], _ => rfl
  | x :: a, h => by
    have ih := splitC_one (a := a) fun y hy => h y (List.mem_cons_of_mem _ hy)
    show (if x = 44 then [] :: splitC a else match splitC a with | [] => [[x]] | h :: t => (x :: h) :: t) = _
    rw [if_neg (h x (List.mem_cons_self ..)), ih]
theorem splitC_app : ∀ {a b : Bt}, (∀ x ∈ a, x ≠ 44) → splitC (a ++ 44 :: b) = a :: splitC b
  | [], b, _ => by
    show (if (44 : UInt8) = 44 then [] :: splitC b else _) = _
    rw [if_pos rfl]
  | x :: a, b, h => by
    have ih := splitC_app (a := a) (b := b) fun y hy => h y (List.mem_cons_of_mem _ hy)
    show (if x = 44 then [] :: splitC (a ++ 44 :: b) else match splitC (a ++ 44 :: b) with | [] => [[x]] | h :: t => (x :: h) :: t) = _
    rw [if_neg (h x (List.mem_cons_self ..)), ih]
/-- The characters of names and values. -/
def sepC (x : UInt8) : Prop := x ≠ 44 ∧ x ≠ 61 ∧ x ≠ 123 ∧ x ≠ 125
theorem nameC_sep {x : UInt8} (h : nameC x = true) : sepC x := by
  have h := nameC_true h
  refine ⟨?_, ?_, ?_, ?_⟩ <;> (rintro rfl; revert h; decide)
theorem valC_sep {x : UInt8} (h : valC x = true) : sepC x := by
  have h := valC_true h
  refine ⟨?_, ?_, ?_, ?_⟩ <;> (rintro rfl; revert h; decide)
theorem nameL_sep {l : Bt} (h : nameL l = true) : ∀ x ∈ l, sepC x := by
  cases l with
  | nil => intro x hx; cases hx
  | cons y r =>
    rw [nameL_cons, Bool.and_eq_true, Bool.and_eq_true, List.all_eq_true] at h
    exact fun x hx => nameC_sep (h.2.2 x hx)
theorem valueL_sep {l : Bt} (h : valueL l = true) : ∀ x ∈ l, sepC x := by
  unfold valueL at h
  rw [Bool.and_eq_true, List.all_eq_true] at h
  exact fun x hx => valC_sep (h.2 x hx)
theorem labB_out {x : Lab} (h : labB x = true) : nameL x.1 = true ∧ valueL x.2 = true := by
  unfold labB at h
  rw [Bool.and_eq_true] at h
  exact ⟨h.2, h.1⟩
theorem piece_no {x : Lab} (h : labB x = true) : ∀ c ∈ pieceT x, c ≠ 44 := by
  obtain ⟨h1, h2⟩ := labB_out h
  intro c hc
  unfold pieceT at hc
  rw [List.mem_append, List.mem_append] at hc
  rcases hc with (hc | hc) | hc
  · exact (nameL_sep h1 c hc).1
  · rw [List.mem_singleton.1 hc]; decide
  · exact (valueL_sep h2 c hc).1
theorem split_body : ∀ (x : Lab) (r : List Lab), (∀ y ∈ x :: r, labB y = true) → splitC (pieceT x ++ (r.map fun y => [44] ++ pieceT y).flatten) = (x :: r).map pieceT
  | x, [], h => by
    rw [List.map_nil, List.flatten_nil, List.append_nil, splitC_one (piece_no (h x (List.mem_cons_self ..)))]; rfl
  | x, y :: r, h => by
    have ih := split_body y r fun z hz => h z (List.mem_cons_of_mem _ hz)
    have e : pieceT x ++ ((y :: r).map fun y => [44] ++ pieceT y).flatten = pieceT x ++ 44 :: (pieceT y ++ (r.map fun y => [44] ++ pieceT y).flatten) := by
      rw [List.map_cons, List.flatten_cons]; simp
    rw [e, splitC_app (piece_no (h x (List.mem_cons_self ..))), ih]; rfl
theorem cut_piece {x : Lab} (h : labB x = true) : cutC (pieceT x) 61 = (x.1, x.2, true) := by
  have e : pieceT x = x.1 ++ 61 :: x.2 := by unfold pieceT; simp
  rw [e, cut_app fun c hc => (nameL_sep (labB_out h).1 c hc).2.1]
theorem take_pieces : ∀ (r acc : List Lab), (∀ y ∈ r, labB y = true) → acc.length + r.length ≤ 8 → takeP (r.map pieceT) acc = some (acc ++ r)
  | [], acc, _, _ => by simp [takeP]
  | x :: r, acc, h, hl => by
    rw [List.map_cons, takeP, cut_piece (h x (List.mem_cons_self ..)), if_neg (by simp at hl ⊢; omega)]
    rw [take_pieces r _ (fun y hy => h y (List.mem_cons_of_mem _ hy)) (by simp at hl ⊢; omega)]
    simp
theorem parse_text {s : Ser} (h : rightB s = true) : parseS (textS s) = some s := by
  obtain ⟨nm, l⟩ := s
  obtain ⟨h1, h2, h3, h4⟩ := (right_iff _).1 h
  have hfin : finS (nm, l) = some (nm, l) := if_pos h
  have hnm : ∀ x ∈ nm, x ≠ 123 := fun x hx => (nameL_sep h1 x hx).2.2.1
  unfold parseS textS
  rw [if_pos h]
  cases l with
  | nil =>
    rw [if_pos rfl, cut_no hnm, if_pos rfl]
    exact hfin
  | cons x r =>
    have e : (nm, x :: r).1 ++ bodyT (nm, x :: r).2 ++ [125] = nm ++ 123 :: ((pieceT x ++ (r.map fun y => [44] ++ pieceT y).flatten) ++ [125]) := by
      show nm ++ ([123] ++ pieceT x ++ (r.map fun y => [44] ++ pieceT y).flatten) ++ [125] = _
      simp
    have hne : ¬ (nm, x :: r).2 = [] := fun q => by cases q
    rw [if_neg hne, e, cut_app hnm]
    show (if true = false then _ else _) = _
    rw [if_neg (by decide)]
    generalize hb : pieceT x ++ (r.map fun y => [44] ++ pieceT y).flatten = b
    have hs : Lib.hasSuffix (b ++ [125]) [125] = true := by
      unfold Lib.hasSuffix
      rw [List.isSuffixOf_iff_suffix]
      exact ⟨b, rfl⟩
    have ht : Lib.trimSuffix (b ++ [125]) [125] = b := by
      unfold Lib.trimSuffix
      rw [if_pos hs]
      simp
    show (if Lib.hasSuffix (b ++ [125]) [125] = false then none else (takeP (splitC (Lib.trimSuffix (b ++ [125]) [125])) []).bind fun l => finS (nm, l)) = _
    rw [hs, if_neg (by simp), ht, ← hb, split_body x r h3, take_pieces _ [] h3 (by simpa using h2)]
    exact hfin
theorem text_inj {a b : Ser} (ha : rightB a = true) (hb : rightB b = true) (h : textS a = textS b) : a = b := by
  have h1 := parse_text ha
  rw [h, parse_text hb] at h1
  injection h1 with h1
  exact h1.symm
/-! ### bytes -/
theorem enc_small {n : Nat} (h : n < 128) : enc n = [UInt8.ofNat n] := by
  show (if n < 128 then [UInt8.ofNat n] else _) = _
  rw [if_pos h]
theorem u8_inj {a b : Nat} (ha : a < 128) (hb : b < 128) (h : UInt8.ofNat a = UInt8.ofNat b) : a = b := by
  have := congrArg UInt8.toNat h
  rw [UInt8.toNat_ofNat', UInt8.toNat_ofNat', Nat.mod_eq_of_lt (by omega), Nat.mod_eq_of_lt (by omega)] at this
  exact this
theorem encTL_inj {x y u v : Bt} (hx : x.length < 128) (hy : y.length < 128) (h : encTL x ++ u = encTL y ++ v) : x = y ∧ u = v := by
  unfold encTL at h
  rw [enc_small hx, enc_small hy, List.append_assoc, List.append_assoc, List.singleton_append, List.singleton_append, List.cons.injEq] at h
  exact List.append_inj h.2 (u8_inj hx hy h.1)
theorem labsT_inj : ∀ {l k : List Lab}, (∀ x ∈ l, labB x = true) → (∀ x ∈ k, labB x = true) → l.length = k.length → labsT l = labsT k → l = k
  | [], [], _, _, _, _ => rfl
  | [], _ :: _, _, _, h, _ => by simp at h
  | _ :: _, [], _, _, h, _ => by simp at h
  | x :: l, y :: k, hl, hk, hn, h => by
    have lx := labB_len (hl x (List.mem_cons_self ..))
    have ly := labB_len (hk y (List.mem_cons_self ..))
    have h : encTL x.1 ++ encTL x.2 ++ labsT l = encTL y.1 ++ encTL y.2 ++ labsT k := h
    rw [List.append_assoc, List.append_assoc] at h
    obtain ⟨e1, h⟩ := encTL_inj (by omega) (by omega) h
    obtain ⟨e2, h⟩ := encTL_inj (by omega) (by omega) h
    have ih := labsT_inj (fun z hz => hl z (List.mem_cons_of_mem _ hz)) (fun z hz => hk z (List.mem_cons_of_mem _ hz)) (by simpa using hn) h
    rw [ih, Prod.ext e1 e2]
theorem bytes_inj {a b : Ser} (ha : rightB a = true) (hb : rightB b = true) (h : bytesS a = bytesS b) : a = b := by
  obtain ⟨a1, a2, a3⟩ := right_out ha
  obtain ⟨b1, b2, b3⟩ := right_out hb
  have la := nameL_len a1
  have lb := nameL_len b1
  unfold bytesS at h
  rw [if_pos ha, if_pos hb, List.append_assoc, List.append_assoc] at h
  obtain ⟨e1, h⟩ := encTL_inj (by omega) (by omega) h
  rw [enc_small (by omega), enc_small (by omega), List.singleton_append, List.singleton_append, List.cons.injEq] at h
  have e2 := labsT_inj a3 b3 (u8_inj (by omega) (by omega) h.1) h.2
  exact Prod.ext e1 e2
end Go.Proofs.YtpnbpcdmiiakcaaDoor
/- LabelOrder, its law. -/
namespace Go.Proofs.YtpnbpcdmiiakcaaDoor
set_option linter.unusedSimpArgs false
open Go.RowKit
set_option maxRecDepth 100000
set_option linter.unusedVariables false
set_option maxHeartbeats 4000000 in
theorem sameBytes_sat (a b : Bt) (ha : a.length ≤ 1000000) : Sat Tryd.prog 16 [.d (bsD a), .d (bsD b)] [] (bA (decide (a = b))) [] := by
  have hla : (a.map bR).length = a.length := List.length_map _
  have hlb : (b.map bR).length = b.length := List.length_map _
  by_cases hlen : a.length = b.length
  case neg =>
    rw [decide_eq_false fun h => hlen (by rw [h])]
    refine sat_of_vc (T := tiOf Tryd.prog) (E := E0) Tryd.func16 rfl rfl hE0 hm0 rfl ?_
    conv => whnf
    iterate 4
      repeat' (first | exact True.intro | ((first | refine And.intro (fun _ => ?_) tf | refine And.intro ft (fun _ => ?_) | refine And.intro (by kernel_rfl) ?_ | refine And.intro (by decide) ?_ | refine And.intro (fun _ => ?_) (fun h => absurd h (by decide)) | refine And.intro (fun h => absurd h (by decide)) (fun _ => ?_) | fail); conv => whnf) | (refine And.intro (fun _ => ?_) (fun _ => ?_) <;> conv => whnf) | fail)
      all_goals try (exfalso; simp only [decide_eq_true_eq, decide_eq_false_iff_not, Bool.not_eq_true', Bool.not_eq_false', Bool.not_eq_true, Bool.not_eq_false, beq_iff_eq, bne_iff_ne, beq_eq_false_iff_ne, bne_eq_false_iff_eq, ne_eq, Decidable.not_not] at *; first | omega | contradiction | (simp_all; done) | (simp_all; omega))
      all_goals try (refine Or.inl ?_; conv => whnf)
    all_goals refine ⟨[], ?_⟩
    repeat (any_goals (first | exact True.intro | exact rfl | with_reducible_and_instances rfl | exact (by kernel_rfl) | refine And.intro ?_ ?_))
    all_goals conv => whnf
  refine sat_of_vc (T := tiOf Tryd.prog) (E := E0) Tryd.func16 rfl rfl hE0 hm0 rfl ?_
  conv => whnf
  iterate 4
    repeat' (first | exact True.intro | ((first | refine And.intro (fun _ => ?_) tf | refine And.intro ft (fun _ => ?_) | refine And.intro (by kernel_rfl) ?_ | refine And.intro (by decide) ?_ | refine And.intro (fun _ => ?_) (fun h => absurd h (by decide)) | refine And.intro (fun h => absurd h (by decide)) (fun _ => ?_) | fail); conv => whnf) | (refine And.intro (fun _ => ?_) (fun _ => ?_) <;> conv => whnf) | fail)
    all_goals try (exfalso; simp only [decide_eq_true_eq, decide_eq_false_iff_not, Bool.not_eq_true', Bool.not_eq_false', Bool.not_eq_true, Bool.not_eq_false, beq_iff_eq, bne_iff_ne, beq_eq_false_iff_ne, bne_eq_false_iff_eq, ne_eq, Decidable.not_not] at *; first | omega | contradiction | (simp_all; done) | (simp_all; omega))
    all_goals try (refine Or.inl ?_; conv => whnf)
  refine ⟨Nat, fun i => i ≤ a.length ∧ a.take i = b.take i, fun i => ([(5, iA i), (1, .d (bsD b)), (0, .d (bsD a))], []), fun i => a.length - i, ⟨0, ⟨Nat.zero_le _, rfl⟩, ?_⟩, ?_⟩
  · all_goals refine ⟨[], ?_⟩
    repeat (any_goals (first | exact True.intro | exact rfl | with_reducible_and_instances rfl | exact (by kernel_rfl) | refine And.intro ?_ ?_))
    all_goals conv => whnf
  rintro i ⟨hi, hI⟩
  have hi : i ≤ a.length := hi
  conv => whnf
  by_cases hlt : i < a.length
  · have hx : a[i]? = some a[i] := List.getElem?_eq_getElem hlt
    generalize a[i] = x at hx
    have hy : b[i]? = some b[i] := List.getElem?_eq_getElem (by omega)
    generalize b[i]'(by omega) = y at hy
    have hgx := map_get (f := bR) hx
    have hgy := map_get (f := bR) hy
    have d1 : decide ((i : Int) < ((a.map bR).length : Nat)) = true := decide_eq_true (by rw [hla]; omega)
    by_cases hxy : x = y
    · have e1 : ((x.toNat : Int) != (y.toNat : Int)) = false := by rw [hxy]; simp
      iterate 4
        repeat' (first | exact True.intro | ((first | refine ⟨i, _, rfl, hgx, ?_⟩ | refine ⟨i, _, rfl, hgy, ?_⟩ | refine And.intro (fun _ => ?_) tf | refine And.intro ft (fun _ => ?_) | refine And.intro (by kernel_rfl) ?_ | refine And.intro (by decide) ?_ | refine And.intro (fun _ => ?_) (fun h => absurd h (by decide)) | refine And.intro (fun h => absurd h (by decide)) (fun _ => ?_) | fail); conv => whnf) | (refine And.intro (fun _ => ?_) (fun _ => ?_) <;> conv => whnf) | fail)
        all_goals try (refine Or.inl ?_; conv => whnf)
      all_goals try exact (bnl d1 ‹_›).elim
      all_goals try exact (bnl ‹_› e1).elim
      refine ⟨i + 1, ⟨hlt, by rw [List.take_add_one, List.take_add_one, hI, hx, hy, hxy]⟩, show a.length - (i + 1) < a.length - i by omega, ?_⟩
      all_goals refine ⟨[], ?_⟩
      repeat (any_goals (first | exact True.intro | exact rfl | with_reducible_and_instances rfl | exact (by kernel_rfl) | refine And.intro ?_ ?_))
      all_goals conv => whnf
      exact wk1 (by omega)
    · have e1 : ((x.toNat : Int) != (y.toNat : Int)) = true := by
        rw [bne_iff_ne]
        exact fun h => hxy (UInt8.toNat.inj (by omega))
      rw [decide_eq_false fun h => hxy (by rw [h, hy] at hx; injection hx with hx; exact hx.symm)]
      iterate 4
        repeat' (first | exact True.intro | ((first | refine ⟨i, _, rfl, hgx, ?_⟩ | refine ⟨i, _, rfl, hgy, ?_⟩ | refine And.intro (fun _ => ?_) tf | refine And.intro ft (fun _ => ?_) | refine And.intro (by kernel_rfl) ?_ | refine And.intro (by decide) ?_ | refine And.intro (fun _ => ?_) (fun h => absurd h (by decide)) | refine And.intro (fun h => absurd h (by decide)) (fun _ => ?_) | fail); conv => whnf) | (refine And.intro (fun _ => ?_) (fun _ => ?_) <;> conv => whnf) | fail)
        all_goals try (refine Or.inl ?_; conv => whnf)
      all_goals try exact (bnl d1 ‹_›).elim
      all_goals try exact (bnl e1 ‹_›).elim
      all_goals refine ⟨[], ?_⟩
      repeat (any_goals (first | exact True.intro | exact rfl | with_reducible_and_instances rfl | exact (by kernel_rfl) | refine And.intro ?_ ?_))
      all_goals conv => whnf
  · rw [decide_eq_true (by rw [← List.take_of_length_le (show a.length ≤ i by omega), hI, List.take_of_length_le (by omega)])]
    have d1 : decide ((i : Int) < ((a.map bR).length : Nat)) = false := decide_eq_false (by rw [hla]; omega)
    iterate 4
      repeat' (first | exact True.intro | ((first | refine And.intro (fun _ => ?_) tf | refine And.intro ft (fun _ => ?_) | refine And.intro (by kernel_rfl) ?_ | refine And.intro (by decide) ?_ | refine And.intro (fun _ => ?_) (fun h => absurd h (by decide)) | refine And.intro (fun h => absurd h (by decide)) (fun _ => ?_) | fail); conv => whnf) | (refine And.intro (fun _ => ?_) (fun _ => ?_) <;> conv => whnf) | fail)
      all_goals try (refine Or.inl ?_; conv => whnf)
    all_goals try exact (bnl ‹_› d1).elim
    all_goals refine ⟨[], ?_⟩
    repeat (any_goals (first | exact True.intro | exact rfl | with_reducible_and_instances rfl | exact (by kernel_rfl) | refine And.intro ?_ ?_))
    all_goals conv => whnf
theorem bytesS_len (s : Ser) : (bytesS s).length ≤ 10000 := by
  unfold bytesS
  split
  · rename_i h
    obtain ⟨a1, a2, a3⟩ := right_out h
    have la := nameL_len a1
    have l1 := encTL_len s.1
    have l2 := enc_lens s.2.length
    have l3 := labsT_len a3
    rw [List.length_append, List.length_append]
    omega
  · exact Nat.zero_le _
set_option maxHeartbeats 16000000 in
theorem order8_sat (a b c : Ser) (z : Int) : Sat Tryd.prog 5 [.d (serD a), .d (serD b), .d (serD c), iA z] [] (bA true) [] := by
  have ga := great8_sat a
  have gb := great8_sat b
  have gc := great8_sat c
  cases hga : greatB a with
  | true =>
    rw [hga] at ga
    refine sat_of_vc (T := tiOf Tryd.prog) (E := E0) Tryd.func5 rfl rfl hE0 hm0 rfl ?_
    conv => whnf
    iterate 4
      repeat' (first | exact True.intro | ((first | refine And.intro (fun _ => ?_) tf | refine And.intro ft (fun _ => ?_) | refine And.intro (by kernel_rfl) ?_ | refine And.intro (by decide) ?_ | refine And.intro (fun _ => ?_) (fun h => absurd h (by decide)) | refine And.intro (fun h => absurd h (by decide)) (fun _ => ?_) | refine ⟨_, _, alive8.pu rfl rfl, ?_⟩ | refine ⟨_, _, ga.pu rfl rfl, ?_⟩ | fail); conv => whnf) | (refine And.intro (fun _ => ?_) (fun _ => ?_) <;> conv => whnf) | fail)
      all_goals try (refine Or.inl ?_; conv => whnf)
    all_goals refine ⟨[], ?_⟩
    repeat (any_goals (first | exact True.intro | exact rfl | with_reducible_and_instances rfl | exact (by kernel_rfl) | refine And.intro ?_ ?_))
    all_goals conv => whnf
  | false =>
  rw [hga] at ga
  cases hgb : greatB b with
  | true =>
    rw [hgb] at gb
    refine sat_of_vc (T := tiOf Tryd.prog) (E := E0) Tryd.func5 rfl rfl hE0 hm0 rfl ?_
    conv => whnf
    iterate 4
      repeat' (first | exact True.intro | ((first | refine And.intro (fun _ => ?_) tf | refine And.intro ft (fun _ => ?_) | refine And.intro (by kernel_rfl) ?_ | refine And.intro (by decide) ?_ | refine And.intro (fun _ => ?_) (fun h => absurd h (by decide)) | refine And.intro (fun h => absurd h (by decide)) (fun _ => ?_) | refine ⟨_, _, alive8.pu rfl rfl, ?_⟩ | refine ⟨_, _, ga.pu rfl rfl, ?_⟩ | refine ⟨_, _, gb.pu rfl rfl, ?_⟩ | fail); conv => whnf) | (refine And.intro (fun _ => ?_) (fun _ => ?_) <;> conv => whnf) | fail)
      all_goals try (refine Or.inl ?_; conv => whnf)
    all_goals try (exfalso; simp only [decide_eq_true_eq, decide_eq_false_iff_not, Bool.not_eq_true', Bool.not_eq_false', Bool.not_eq_true, Bool.not_eq_false, beq_iff_eq, bne_iff_ne, beq_eq_false_iff_ne, bne_eq_false_iff_eq, ne_eq, Decidable.not_not] at *; first | omega | contradiction | (simp_all; done) | (simp_all; omega))
    all_goals refine ⟨[], ?_⟩
    repeat (any_goals (first | exact True.intro | exact rfl | with_reducible_and_instances rfl | exact (by kernel_rfl) | refine And.intro ?_ ?_))
    all_goals conv => whnf
  | false =>
  rw [hgb] at gb
  cases hgc : greatB c with
  | true =>
    rw [hgc] at gc
    refine sat_of_vc (T := tiOf Tryd.prog) (E := E0) Tryd.func5 rfl rfl hE0 hm0 rfl ?_
    conv => whnf
    iterate 4
      repeat' (first | exact True.intro | ((first | refine And.intro (fun _ => ?_) tf | refine And.intro ft (fun _ => ?_) | refine And.intro (by kernel_rfl) ?_ | refine And.intro (by decide) ?_ | refine And.intro (fun _ => ?_) (fun h => absurd h (by decide)) | refine And.intro (fun h => absurd h (by decide)) (fun _ => ?_) | refine ⟨_, _, alive8.pu rfl rfl, ?_⟩ | refine ⟨_, _, ga.pu rfl rfl, ?_⟩ | refine ⟨_, _, gb.pu rfl rfl, ?_⟩ | refine ⟨_, _, gc.pu rfl rfl, ?_⟩ | fail); conv => whnf) | (refine And.intro (fun _ => ?_) (fun _ => ?_) <;> conv => whnf) | fail)
      all_goals try (refine Or.inl ?_; conv => whnf)
    all_goals try (exfalso; simp only [decide_eq_true_eq, decide_eq_false_iff_not, Bool.not_eq_true', Bool.not_eq_false', Bool.not_eq_true, Bool.not_eq_false, beq_iff_eq, bne_iff_ne, beq_eq_false_iff_ne, bne_eq_false_iff_eq, ne_eq, Decidable.not_not] at *; first | omega | contradiction | (simp_all; done) | (simp_all; omega))
    all_goals refine ⟨[], ?_⟩
    repeat (any_goals (first | exact True.intro | exact rfl | with_reducible_and_instances rfl | exact (by kernel_rfl) | refine And.intro ?_ ?_))
    all_goals conv => whnf
  | false =>
  rw [hgc] at gc
  obtain ⟨la, _, _⟩ := great_no8 hga
  obtain ⟨lb, _, _⟩ := great_no8 hgb
  obtain ⟨lc, _, _⟩ := great_no8 hgc
  have C := cmp3_ser
  have cab := serCmp_sat a b (by omega)
  have cbc := serCmp_sat b c (by omega)
  have cba := serCmp_sat b a (by omega)
  have caa := serCmp_sat a a (by omega)
  have cac := serCmp_sat a c (by omega)
  rw [(C.eq a a).2 rfl] at caa
  rw [C.neg a b] at cba
  have hx := C.rng a b
  have hy := C.rng b c
  have htr := C.tr a b c
  have heq := C.eq a b
  generalize serCmp a b = x at *
  generalize serCmp b c = y at *
  generalize serCmp a c = u at *
  have n1 : (-x != IntKind.i64.wrap (0 - x)) = false := by rw [wi (by omega) (by omega)]; simp
  have k1 : decide (x < -1) = false := decide_eq_false (by omega)
  have k2 : decide (x > 1) = false := decide_eq_false (by omega)
  have ra := sRight_sat a
  have rb := sRight_sat b
  have ta := text_satS a
  have tb := text_satS b
  have ba := bytes_satS a
  have bb := bytes_satS b
  have sb := sameBytes_sat (bytesS a) (bytesS b) (by have := bytesS_len a; omega)
  cases hra : rightB a with
  | false =>
    rw [hra] at ra
    refine sat_of_vc (T := tiOf Tryd.prog) (E := E0) Tryd.func5 rfl rfl hE0 hm0 rfl ?_
    conv => whnf
    iterate 4
      repeat' (first | exact True.intro | ((first | refine And.intro (fun _ => ?_) tf | refine And.intro ft (fun _ => ?_) | refine And.intro (by kernel_rfl) ?_ | refine And.intro (by decide) ?_ | refine And.intro (fun _ => ?_) (fun h => absurd h (by decide)) | refine And.intro (fun h => absurd h (by decide)) (fun _ => ?_) | refine ⟨_, _, alive8.pu rfl rfl, ?_⟩ | refine ⟨_, _, ga.pu rfl rfl, ?_⟩ | refine ⟨_, _, gb.pu rfl rfl, ?_⟩ | refine ⟨_, _, gc.pu rfl rfl, ?_⟩ | refine ⟨_, _, cab.pu rfl rfl, ?_⟩ | refine ⟨_, _, cbc.pu rfl rfl, ?_⟩ | refine ⟨_, _, cba.pu rfl rfl, ?_⟩ | refine ⟨_, _, caa.pu rfl rfl, ?_⟩ | refine ⟨_, _, cac.pu rfl rfl, ?_⟩ | fail); conv => whnf) | (refine And.intro (fun _ => ?_) (fun _ => ?_) <;> conv => whnf) | fail)
      all_goals try (refine Or.inl ?_; conv => whnf)
    all_goals try exact (bnl ‹(-x != IntKind.i64.wrap (0 - x)) = true› n1).elim
    all_goals try exact (bnl ‹decide (x < -1) = true› k1).elim
    all_goals try exact (bnl ‹decide (x > 1) = true› k2).elim
    all_goals try exact absurd (of_decide_eq_true ‹decide (u > 0) = true›) (by have := htr (of_decide_eq_true ‹decide (x ≤ 0) = true›) (of_decide_eq_true ‹decide (y ≤ 0) = true›); omega)
    iterate 5
      repeat' (first | exact True.intro | ((first | refine And.intro (fun _ => ?_) tf | refine And.intro ft (fun _ => ?_) | refine And.intro (by kernel_rfl) ?_ | refine And.intro (by decide) ?_ | refine And.intro (fun _ => ?_) (fun h => absurd h (by decide)) | refine And.intro (fun h => absurd h (by decide)) (fun _ => ?_) | refine ⟨_, _, ra.pu rfl rfl, ?_⟩ | fail); conv => whnf) | (refine And.intro (fun _ => ?_) (fun _ => ?_) <;> conv => whnf) | fail)
      all_goals try (refine Or.inl ?_; conv => whnf)
    all_goals refine ⟨[], ?_⟩
    repeat (any_goals (first | exact True.intro | exact rfl | with_reducible_and_instances rfl | exact (by kernel_rfl) | refine And.intro ?_ ?_))
    all_goals conv => whnf
  | true =>
  rw [hra] at ra
  have hmk : ∀ k : Nat, Sat Tryd.prog 8 [.d (tD a.1), .d (.sl 2 (([] ++ (a.2.map labR).drop k) ++ (a.2.map labR).take k))] [] (.tup [.d (serD a), iA 0]) [] := fun k => by
    have hp : (a.2.drop k ++ a.2.take k).Perm a.2 := List.perm_append_comm.trans (by rw [List.take_append_drop])
    have h := make_sat a.1 (a.2.drop k ++ a.2.take k)
    rw [make_turn hra hp, List.map_append, List.map_drop, List.map_take] at h
    rwa [List.nil_append]
  have hsm := sameS_sat a a (by omega) (by omega)
  rw [decide_eq_true rfl] at hsm
  have hl2 : (a.2.map labR).length = a.2.length := List.length_map _
  cases hrb : rightB b with
  | false =>
    rw [hrb] at rb
    by_cases hz : 0 ≤ z ∧ z ≤ a.2.length
    case neg =>
      refine sat_of_vc (T := tiOf Tryd.prog) (E := E0) Tryd.func5 rfl rfl hE0 hm0 rfl ?_
      conv => whnf
      iterate 4
        repeat' (first | exact True.intro | ((first | refine And.intro (fun _ => ?_) tf | refine And.intro ft (fun _ => ?_) | refine And.intro (by kernel_rfl) ?_ | refine And.intro (by decide) ?_ | refine And.intro (fun _ => ?_) (fun h => absurd h (by decide)) | refine And.intro (fun h => absurd h (by decide)) (fun _ => ?_) | refine ⟨_, _, alive8.pu rfl rfl, ?_⟩ | refine ⟨_, _, ga.pu rfl rfl, ?_⟩ | refine ⟨_, _, gb.pu rfl rfl, ?_⟩ | refine ⟨_, _, gc.pu rfl rfl, ?_⟩ | refine ⟨_, _, cab.pu rfl rfl, ?_⟩ | refine ⟨_, _, cbc.pu rfl rfl, ?_⟩ | refine ⟨_, _, cba.pu rfl rfl, ?_⟩ | refine ⟨_, _, caa.pu rfl rfl, ?_⟩ | refine ⟨_, _, cac.pu rfl rfl, ?_⟩ | fail); conv => whnf) | (refine And.intro (fun _ => ?_) (fun _ => ?_) <;> conv => whnf) | fail)
        all_goals try (refine Or.inl ?_; conv => whnf)
      all_goals try exact (bnl ‹(-x != IntKind.i64.wrap (0 - x)) = true› n1).elim
      all_goals try exact (bnl ‹decide (x < -1) = true› k1).elim
      all_goals try exact (bnl ‹decide (x > 1) = true› k2).elim
      all_goals try exact absurd (of_decide_eq_true ‹decide (u > 0) = true›) (by have := htr (of_decide_eq_true ‹decide (x ≤ 0) = true›) (of_decide_eq_true ‹decide (y ≤ 0) = true›); omega)
      iterate 6
        repeat' (first | exact True.intro | ((first | refine And.intro (fun _ => ?_) tf | refine And.intro ft (fun _ => ?_) | refine And.intro (by kernel_rfl) ?_ | refine And.intro (by decide) ?_ | refine And.intro (fun _ => ?_) (fun h => absurd h (by decide)) | refine And.intro (fun h => absurd h (by decide)) (fun _ => ?_) | refine ⟨_, _, ra.pu rfl rfl, ?_⟩ | refine ⟨_, _, rb.pu rfl rfl, ?_⟩ | fail); conv => whnf) | (refine And.intro (fun _ => ?_) (fun _ => ?_) <;> conv => whnf) | fail)
        all_goals try (refine Or.inl ?_; conv => whnf)
      all_goals try exact (hz ⟨by have := of_decide_eq_false ‹decide (z < 0) = false›; omega, by have := of_decide_eq_false ‹decide (z > ((a.2.map labR).length : Int)) = false›; omega⟩).elim
      all_goals refine ⟨[], ?_⟩
      repeat (any_goals (first | exact True.intro | exact rfl | with_reducible_and_instances rfl | exact (by kernel_rfl) | refine And.intro ?_ ?_))
      all_goals conv => whnf
    obtain ⟨k, rfl⟩ : ∃ k : Nat, z = (k : Int) := ⟨z.toNat, by omega⟩
    have mk := hmk k
    have hkl : k ≤ (a.2.map labR).length := by rw [hl2]; omega
    have z1 : decide ((k : Int) < 0) = false := decide_eq_false (by omega)
    have z2 : decide ((k : Int) > ((a.2.map labR).length : Int)) = false := decide_eq_false (by omega)
    refine sat_of_vc (T := tiOf Tryd.prog) (E := E0) Tryd.func5 rfl rfl hE0 hm0 rfl ?_
    conv => whnf
    iterate 4
      repeat' (first | exact True.intro | ((first | refine And.intro (fun _ => ?_) tf | refine And.intro ft (fun _ => ?_) | refine And.intro (by kernel_rfl) ?_ | refine And.intro (by decide) ?_ | refine And.intro (fun _ => ?_) (fun h => absurd h (by decide)) | refine And.intro (fun h => absurd h (by decide)) (fun _ => ?_) | refine ⟨_, _, alive8.pu rfl rfl, ?_⟩ | refine ⟨_, _, ga.pu rfl rfl, ?_⟩ | refine ⟨_, _, gb.pu rfl rfl, ?_⟩ | refine ⟨_, _, gc.pu rfl rfl, ?_⟩ | refine ⟨_, _, cab.pu rfl rfl, ?_⟩ | refine ⟨_, _, cbc.pu rfl rfl, ?_⟩ | refine ⟨_, _, cba.pu rfl rfl, ?_⟩ | refine ⟨_, _, caa.pu rfl rfl, ?_⟩ | refine ⟨_, _, cac.pu rfl rfl, ?_⟩ | fail); conv => whnf) | (refine And.intro (fun _ => ?_) (fun _ => ?_) <;> conv => whnf) | fail)
      all_goals try (refine Or.inl ?_; conv => whnf)
    all_goals try exact (bnl ‹(-x != IntKind.i64.wrap (0 - x)) = true› n1).elim
    all_goals try exact (bnl ‹decide (x < -1) = true› k1).elim
    all_goals try exact (bnl ‹decide (x > 1) = true› k2).elim
    all_goals try exact absurd (of_decide_eq_true ‹decide (u > 0) = true›) (by have := htr (of_decide_eq_true ‹decide (x ≤ 0) = true›) (of_decide_eq_true ‹decide (y ≤ 0) = true›); omega)
    iterate 6
      repeat' (first | exact True.intro | ((first | refine And.intro (fun _ => ?_) tf | refine And.intro ft (fun _ => ?_) | refine And.intro (by kernel_rfl) ?_ | refine And.intro (by decide) ?_ | refine And.intro (fun _ => ?_) (fun h => absurd h (by decide)) | refine And.intro (fun h => absurd h (by decide)) (fun _ => ?_) | refine ⟨_, _, ra.pu rfl rfl, ?_⟩ | refine ⟨_, _, rb.pu rfl rfl, ?_⟩ | refine ⟨_, _, from_d 2 32 (by kernel_rfl) hkl, ?_⟩ | refine ⟨_, _, upto_d 2 32 (by kernel_rfl) hkl, ?_⟩ | refine ⟨_, _, apd 2 32 (by kernel_rfl) rfl (by simp; omega), ?_⟩ | refine ⟨_, _, frz_b mk rfl rfl, ?_⟩ | refine ⟨_, _, hsm.pu rfl rfl, ?_⟩ | fail); conv => whnf) | (refine And.intro (fun _ => ?_) (fun _ => ?_) <;> conv => whnf) | fail)
      all_goals try (refine Or.inl ?_; conv => whnf)
    all_goals try exact (bnl ‹_› z1).elim
    all_goals try exact (bnl ‹_› z2).elim
    all_goals refine ⟨[], ?_⟩
    repeat (any_goals (first | exact True.intro | exact rfl | with_reducible_and_instances rfl | exact (by kernel_rfl) | refine And.intro ?_ ?_))
    all_goals conv => whnf
  | true =>
    rw [hrb] at rb
    have e1 : ((x == 0) != decide (textS a = textS b)) = false := by
      rw [show (x == 0) = decide (textS a = textS b) from by rw [Bool.eq_iff_iff, beq_iff_eq, decide_eq_true_eq, heq]; exact ⟨fun h => by rw [h], fun h => text_inj hra hrb h⟩]; simp
    have e2 : ((x == 0) != decide (bytesS a = bytesS b)) = false := by
      rw [show (x == 0) = decide (bytesS a = bytesS b) from by rw [Bool.eq_iff_iff, beq_iff_eq, decide_eq_true_eq, heq]; exact ⟨fun h => by rw [h], fun h => bytes_inj hra hrb h⟩]; simp
    by_cases hz : 0 ≤ z ∧ z ≤ a.2.length
    case neg =>
      refine sat_of_vc (T := tiOf Tryd.prog) (E := E0) Tryd.func5 rfl rfl hE0 hm0 rfl ?_
      conv => whnf
      iterate 4
        repeat' (first | exact True.intro | ((first | refine And.intro (fun _ => ?_) tf | refine And.intro ft (fun _ => ?_) | refine And.intro (by kernel_rfl) ?_ | refine And.intro (by decide) ?_ | refine And.intro (fun _ => ?_) (fun h => absurd h (by decide)) | refine And.intro (fun h => absurd h (by decide)) (fun _ => ?_) | refine ⟨_, _, alive8.pu rfl rfl, ?_⟩ | refine ⟨_, _, ga.pu rfl rfl, ?_⟩ | refine ⟨_, _, gb.pu rfl rfl, ?_⟩ | refine ⟨_, _, gc.pu rfl rfl, ?_⟩ | refine ⟨_, _, cab.pu rfl rfl, ?_⟩ | refine ⟨_, _, cbc.pu rfl rfl, ?_⟩ | refine ⟨_, _, cba.pu rfl rfl, ?_⟩ | refine ⟨_, _, caa.pu rfl rfl, ?_⟩ | refine ⟨_, _, cac.pu rfl rfl, ?_⟩ | fail); conv => whnf) | (refine And.intro (fun _ => ?_) (fun _ => ?_) <;> conv => whnf) | fail)
        all_goals try (refine Or.inl ?_; conv => whnf)
      all_goals try exact (bnl ‹(-x != IntKind.i64.wrap (0 - x)) = true› n1).elim
      all_goals try exact (bnl ‹decide (x < -1) = true› k1).elim
      all_goals try exact (bnl ‹decide (x > 1) = true› k2).elim
      all_goals try exact absurd (of_decide_eq_true ‹decide (u > 0) = true›) (by have := htr (of_decide_eq_true ‹decide (x ≤ 0) = true›) (of_decide_eq_true ‹decide (y ≤ 0) = true›); omega)
      iterate 6
        repeat' (first | exact True.intro | ((first | refine And.intro (fun _ => ?_) tf | refine And.intro ft (fun _ => ?_) | refine And.intro (by kernel_rfl) ?_ | refine And.intro (by decide) ?_ | refine And.intro (fun _ => ?_) (fun h => absurd h (by decide)) | refine And.intro (fun h => absurd h (by decide)) (fun _ => ?_) | refine ⟨_, _, ra.pu rfl rfl, ?_⟩ | refine ⟨_, _, rb.pu rfl rfl, ?_⟩ | refine ⟨_, _, ta.pu rfl rfl, ?_⟩ | refine ⟨_, _, tb.pu rfl rfl, ?_⟩ | refine ⟨_, _, ba.pu rfl rfl, ?_⟩ | refine ⟨_, _, bb.pu rfl rfl, ?_⟩ | refine ⟨_, _, sb.pu rfl rfl, ?_⟩ | refine ⟨_, _, eqL', ?_⟩ | refine ⟨_, _, neB (by kernel_rfl), ?_⟩ | fail); conv => whnf) | (refine And.intro (fun _ => ?_) (fun _ => ?_) <;> conv => whnf) | fail)
        all_goals try (refine Or.inl ?_; conv => whnf)
      all_goals try exact (bnl ‹((x == 0) != decide (textS a = textS b)) = true› e1).elim
      all_goals try exact (bnl ‹((x == 0) != decide (bytesS a = bytesS b)) = true› e2).elim
      all_goals try exact (hz ⟨by have := of_decide_eq_false ‹decide (z < 0) = false›; omega, by have := of_decide_eq_false ‹decide (z > ((a.2.map labR).length : Int)) = false›; omega⟩).elim
      all_goals refine ⟨[], ?_⟩
      repeat (any_goals (first | exact True.intro | exact rfl | with_reducible_and_instances rfl | exact (by kernel_rfl) | refine And.intro ?_ ?_))
      all_goals conv => whnf
    obtain ⟨k, rfl⟩ : ∃ k : Nat, z = (k : Int) := ⟨z.toNat, by omega⟩
    have mk := hmk k
    have hkl : k ≤ (a.2.map labR).length := by rw [hl2]; omega
    have z1 : decide ((k : Int) < 0) = false := decide_eq_false (by omega)
    have z2 : decide ((k : Int) > ((a.2.map labR).length : Int)) = false := decide_eq_false (by omega)
    refine sat_of_vc (T := tiOf Tryd.prog) (E := E0) Tryd.func5 rfl rfl hE0 hm0 rfl ?_
    conv => whnf
    iterate 4
      repeat' (first | exact True.intro | ((first | refine And.intro (fun _ => ?_) tf | refine And.intro ft (fun _ => ?_) | refine And.intro (by kernel_rfl) ?_ | refine And.intro (by decide) ?_ | refine And.intro (fun _ => ?_) (fun h => absurd h (by decide)) | refine And.intro (fun h => absurd h (by decide)) (fun _ => ?_) | refine ⟨_, _, alive8.pu rfl rfl, ?_⟩ | refine ⟨_, _, ga.pu rfl rfl, ?_⟩ | refine ⟨_, _, gb.pu rfl rfl, ?_⟩ | refine ⟨_, _, gc.pu rfl rfl, ?_⟩ | refine ⟨_, _, cab.pu rfl rfl, ?_⟩ | refine ⟨_, _, cbc.pu rfl rfl, ?_⟩ | refine ⟨_, _, cba.pu rfl rfl, ?_⟩ | refine ⟨_, _, caa.pu rfl rfl, ?_⟩ | refine ⟨_, _, cac.pu rfl rfl, ?_⟩ | fail); conv => whnf) | (refine And.intro (fun _ => ?_) (fun _ => ?_) <;> conv => whnf) | fail)
      all_goals try (refine Or.inl ?_; conv => whnf)
    all_goals try exact (bnl ‹(-x != IntKind.i64.wrap (0 - x)) = true› n1).elim
    all_goals try exact (bnl ‹decide (x < -1) = true› k1).elim
    all_goals try exact (bnl ‹decide (x > 1) = true› k2).elim
    all_goals try exact absurd (of_decide_eq_true ‹decide (u > 0) = true›) (by have := htr (of_decide_eq_true ‹decide (x ≤ 0) = true›) (of_decide_eq_true ‹decide (y ≤ 0) = true›); omega)
    iterate 6
      repeat' (first | exact True.intro | ((first | refine And.intro (fun _ => ?_) tf | refine And.intro ft (fun _ => ?_) | refine And.intro (by kernel_rfl) ?_ | refine And.intro (by decide) ?_ | refine And.intro (fun _ => ?_) (fun h => absurd h (by decide)) | refine And.intro (fun h => absurd h (by decide)) (fun _ => ?_) | refine ⟨_, _, ra.pu rfl rfl, ?_⟩ | refine ⟨_, _, rb.pu rfl rfl, ?_⟩ | refine ⟨_, _, ta.pu rfl rfl, ?_⟩ | refine ⟨_, _, tb.pu rfl rfl, ?_⟩ | refine ⟨_, _, ba.pu rfl rfl, ?_⟩ | refine ⟨_, _, bb.pu rfl rfl, ?_⟩ | refine ⟨_, _, sb.pu rfl rfl, ?_⟩ | refine ⟨_, _, eqL', ?_⟩ | refine ⟨_, _, neB (by kernel_rfl), ?_⟩ | refine ⟨_, _, from_d 2 32 (by kernel_rfl) hkl, ?_⟩ | refine ⟨_, _, upto_d 2 32 (by kernel_rfl) hkl, ?_⟩ | refine ⟨_, _, apd 2 32 (by kernel_rfl) rfl (by simp; omega), ?_⟩ | refine ⟨_, _, frz_b mk rfl rfl, ?_⟩ | refine ⟨_, _, hsm.pu rfl rfl, ?_⟩ | fail); conv => whnf) | (refine And.intro (fun _ => ?_) (fun _ => ?_) <;> conv => whnf) | fail)
      all_goals try (refine Or.inl ?_; conv => whnf)
    all_goals try exact (bnl ‹((x == 0) != decide (textS a = textS b)) = true› e1).elim
    all_goals try exact (bnl ‹((x == 0) != decide (bytesS a = bytesS b)) = true› e2).elim
    all_goals try exact (bnl ‹_› z1).elim
    all_goals try exact (bnl ‹_› z2).elim
    all_goals refine ⟨[], ?_⟩
    repeat (any_goals (first | exact True.intro | exact rfl | with_reducible_and_instances rfl | exact (by kernel_rfl) | refine And.intro ?_ ?_))
    all_goals conv => whnf
end Go.Proofs.YtpnbpcdmiiakcaaDoor
/- LabelOrder from its arguments. -/
namespace Go.Proofs.YtpnbpcdmiiakcaaDoor
set_option linter.unusedSimpArgs false
set_option linter.unusedVariables false
open Go.RowKit
set_option maxRecDepth 100000
theorem ty_strL {m : Nat} {t : TypeId} {ds : List D} (h : Ty Tryd.prog (m + 1) t ds) (hu : Tryd.prog.underlying t = some .string) : ∃ l : Bt, ds = [tD l] := by
  have h : TyB (Ty Tryd.prog m) Tryd.prog t ds := h
  unfold TyB at h
  rw [hu] at h
  obtain ⟨s, rfl, _⟩ := h
  obtain ⟨l, hl⟩ := str_list s
  exact ⟨l, by rw [hl]⟩
theorem ty_lab {m : Nat} {ds : List D} (h : Ty Tryd.prog (m + 2) 45 ds) : ∃ l : Lab, ds = labR l := by
  have h : TyB (Ty Tryd.prog (m + 1)) Tryd.prog 45 ds := h
  unfold TyB at h
  rw [Tryd.underlying45] at h
  obtain ⟨dss, e0, h⟩ := h
  obtain ⟨d1, r1, e1, h1, h⟩ := h
  obtain ⟨d2, r2, e2, h2, h⟩ := h
  obtain rfl : r2 = [] := h
  subst e2 e1 e0
  obtain ⟨a, rfl⟩ := ty_strL h1 Tryd.underlying9
  obtain ⟨b, rfl⟩ := ty_strL h2 Tryd.underlying9
  exact ⟨(a, b), rfl⟩
theorem ty_ser {x : D} (h : TyV Tryd.prog 24 x) : ∃ s : Ser, x = serD s := by
  unfold TyV at h
  rw [Tryd.underlying24] at h
  obtain ⟨ds, rfl, h⟩ := h
  have h : TyB (Ty Tryd.prog 8) Tryd.prog 24 ds := h
  unfold TyB at h
  rw [Tryd.underlying24] at h
  obtain ⟨dss, e0, h⟩ := h
  obtain ⟨d1, r1, e1, h1, h⟩ := h
  obtain ⟨d2, r2, e2, h2, h⟩ := h
  obtain rfl : r2 = [] := h
  subst e2 e1 e0
  obtain ⟨a, rfl⟩ := ty_strL h1 Tryd.underlying9
  have h2 : TyB (Ty Tryd.prog 7) Tryd.prog 22 d2 := h2
  unfold TyB at h2
  rw [Tryd.underlying22] at h2
  obtain ⟨rows, rfl, hr, _⟩ := h2
  obtain ⟨l, rfl, _⟩ := rows_map (f := labR) (p := fun _ => True) fun r hr' => by
    obtain ⟨y, hy⟩ := ty_lab (m := 5) (hr r hr')
    exact ⟨y, hy, trivial⟩
  exact ⟨(a, l), rfl⟩
theorem order8_law (H : Type) (enc : TypeId × Value → H) : LawWalk H enc Tryd.prog 5 Tryd.f5 :=
  lawWalk_of_sat (by kernel_rfl) fun args h => by
    obtain ⟨a, _, rfl, h1, h⟩ := h
    obtain ⟨b, _, rfl, h2, h⟩ := h
    obtain ⟨c, _, rfl, h3, h⟩ := h
    obtain ⟨d, _, rfl, h4, h⟩ := h
    obtain rfl := h
    obtain ⟨x, rfl⟩ := ty_ser h1
    obtain ⟨y, rfl⟩ := ty_ser h2
    obtain ⟨z, rfl⟩ := ty_ser h3
    obtain ⟨k, rfl, _⟩ := ty_i64 h4 Tryd.underlying3
    exact order8_sat x y z k
end Go.Proofs.YtpnbpcdmiiakcaaDoor
/- Two closed facts on the program that every law's statement asks. -/
namespace Go.Proofs.YtpnbpcdmiiakcaaDoor
set_option linter.unusedSimpArgs false
set_option linter.unusedVariables false
open Go.RowKit
theorem own : ownKnob Tryd.prog.godebug = none := by kernel_rfl
theorem laidOut : laidOutB Tryd.prog = true := by kernel_rfl
end Go.Proofs.YtpnbpcdmiiakcaaDoor
/- From the walk of a law to its statement, where the row lists package-level variables with what they hold (a tied card). No program is named here. -/
namespace Go.Proofs.YtpnbpcdmiiakcaaDoor
set_option linter.unusedSimpArgs false
set_option linter.unusedVariables false
open Go.ChangeShapes Go.WideShapes Go.ChangeAt Go.RowKit
theorem lift_law_laid {H : Type} {enc : TypeId × Value → H} {C : Checked} {os : Os} {F : FuncId} {fn : Func} {s : ChangeSpec} {bT : TypeId} {ld : List (String × DataW Unit)} (laid : laidOutB C.prog = true) (own : ownKnob C.prog.godebug = none) (started : os.Started) (noInit : C.prog.inits.idxOf? F = none)
    (hfn : C.prog.funcs[F]? = some fn) (hts : (fn.params.toList.all fun t => C.prog.readableRec t && decide (t < C.prog.types.size)) = true) (hbT : C.prog.underlying bT = some .bool) (hres : fn.resultTypes = #[bT])
    (hvars : s.vars = []) (hs : ∀ ds : List (DataW H), ds.length = fn.params.toList.length → s.fn H ds = { results := [.lit (.bool true)], args := ds })
    (witness : ∃ (w : World) (tape : Tape) (i : Input), w.os = os ∧ (w.forCall tape i).Shaped C.prog ∧ i.vars = [] ∧ Input.okWide C.prog (w.forCall tape i) .any w.heap.size F i ∧
      ((s.pre enc C.prog fn [] false (w.forCall tape i).memory i.args ∧ laidMetH C.prog ld (w.forCall tape i).memory) ∧ sizedMet enc C.prog fn (OpenSpec.ofChange s) false (w.forCall tape i).memory i.args) ∧ Assume.holds {} C.prog (lone (Frame.enter C.prog F i.args .normal) [] (w.forCall tape i)))
    (walk : LawWalk H enc C.prog F fn) :
    ReturnsInHanded {} C os F .any (fun w args => (s.pre enc C.prog fn [] false w args ∧ laidMetH C.prog ld w) ∧ sizedMet enc C.prog fn (OpenSpec.ofChange s) false w args) (s.post enc C.prog fn false true false false) := by
  refine returnsInHanded_of_change_and (X := fun w _ => laidMetH C.prog ld w) (fun _ _ _ hh h => h.of_heap hh) own started noInit hfn witness ?_
  intro W base args ds gs before hval hW _ hsz _ _
  have hW' := hW
  obtain ⟨p, q, hA, hV, rfl, hfz, hnd⟩ := hW
  rw [hvars] at hV
  obtain ⟨rfl, rfl⟩ := trodVars_none hV
  have hvt : s.plain.varTypes C.prog = [] := by simp [ChangeSpec.plain, DataSpec.varTypes, hvars]
  rw [hvt, List.append_nil, List.append_nil] at hsz
  refine (walk W base args ds p hval hA hsz).mono fun e W' ⟨he, bel⟩ => ?_
  subst he
  have hd := trodAll_length hA
  have hsp := hs ds hd
  refine ⟨_, rfl, ds, [], p ++ [], [], p, [], hW', ?_, ?_, ?_, bel.frame _, fun h => by cases h⟩
  · rw [List.append_nil, hsp, hres]
    exact trodAll_mk1 (shut_bool hbT _)
  · rw [List.append_nil, hsp]
    exact trodAll_below laid bel hts hA
  · rw [List.append_nil, hsp, hvars]
    rfl
end Go.Proofs.YtpnbpcdmiiakcaaDoor
