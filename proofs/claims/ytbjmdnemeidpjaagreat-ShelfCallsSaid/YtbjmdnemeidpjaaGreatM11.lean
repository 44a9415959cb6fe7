/- Parts ShA, ShB, ShC, Fr, ShI, ShT, St, CeQ, CeS of the proof, put together. -/
import Derived.Test.YtbjmdnemeidpjaaGreatM10
import Derived.Sort.Walk0
/- The shelf's map: keys of a window and a series, cells. -/
namespace Go.Proofs.YtbjmdnemeidpjaaGreat
set_option linter.unusedSimpArgs false
set_option linter.unusedVariables false
open Go.RowKit
set_option maxRecDepth 100000
abbrev KeyW := Int × ByteArray
abbrev kyR (k : KeyW) : List D := [iD k.1, .v (.string k.2)]
abbrev kyD (k : KeyW) : D := .agg (kyR k)
theorem ky_eqL (a b : KeyW) : eqL [1, 3] (kyR a) (kyR b) = some (decide (b = a)) := by
  have e : eqL [1, 3] (kyR a) (kyR b) = some ((a.1 == b.1) && (a.2 == b.2)) := rfl
  rw [e]
  congr 1
  rw [Bool.eq_iff_iff]
  obtain ⟨a1, a2⟩ := a
  obtain ⟨b1, b2⟩ := b
  simp only [Bool.and_eq_true, MapKept.bytes_beq, beq_iff_eq, decide_eq_true_eq, Prod.mk.injEq]
  exact ⟨fun h => ⟨h.1.symm, h.2.symm⟩, fun h => ⟨h.1.symm, h.2.symm⟩⟩
theorem kyT : KeyT Tryz.prog 24 kyD := key_flat [1, 3] (by kernel_rfl) ky_eqL
theorem closed_hR : ∀ l : List Int, closedC (hR l) = true
  | [] => rfl
  | z :: l => by
    show closedC (iD z :: hR l) = true
    rw [closedC, closed_hR l]; rfl
theorem closed_cD (c : Cel) : closedD (cD c) = true := by
  show closedC (iD c.n :: iD (hiZ c.s) :: uZ (loZ c.s) :: iD c.mn :: iD c.mx :: iD c.ce :: iD c.po :: hR c.h) = true
  simp only [closedC, closed_hR, Bool.and_true]; rfl
abbrev Sh := Es KeyW Cel
abbrev shO (m : Sh) (c : Nat) : AObj := mapO kyD cD m c
theorem zcell : (Tryz.prog.info? 41).bind (·.zero) = some (vOf (cD zC)) := by kernel_rfl
/-- A shelf: how many cells at most, its map. -/
abbrev shH (most : Int) (m : Sh) (c : Nat) : List AObj := [.cells [iA most, .mp 1], shO m c]
theorem shNew_ok (most : Int) (h : 1 ≤ most) (h' : most ≤ 1024) : Sat Tryz.prog 7 [iA most] [] (.tup [.ptr 1 0, iA 0]) [shO [] 0, .cells [iA most, .mp 0]] := by
  refine sat_of_vc (T := tiOf Tryz.prog) (E := E0) Tryz.func7 rfl rfl hE0 hm0 rfl ?_
  conv => whnf
  iterate 4
    repeat' (first | exact True.intro | ((first | refine And.intro (fun _ => ?_) tf | refine And.intro ft (fun _ => ?_) | refine And.intro (by kernel_rfl) ?_ | refine And.intro (by decide) ?_ | refine And.intro (fun _ => ?_) (fun h => absurd h (by decide)) | refine And.intro (fun h => absurd h (by decide)) (fun _ => ?_) | refine ⟨_, _, mp_make (ek := kyD) (ev := cD), ?_⟩ | fail); conv => whnf) | (refine And.intro (fun _ => ?_) (fun _ => ?_) <;> conv => whnf) | fail)
    all_goals try (exfalso; simp only [decide_eq_true_eq, decide_eq_false_iff_not, Bool.not_eq_true', Bool.not_eq_false', Bool.not_eq_true, Bool.not_eq_false, beq_iff_eq, bne_iff_ne, beq_eq_false_iff_ne, bne_eq_false_iff_eq, ne_eq, Decidable.not_not] at *; first | omega | contradiction | (simp_all; done) | (simp_all; omega))
    all_goals try (refine Or.inl ?_; conv => whnf)
  all_goals refine ⟨[], ?_⟩
  repeat (any_goals (first | exact True.intro | exact rfl | with_reducible_and_instances rfl | exact (by kernel_rfl) | refine And.intro ?_ ?_))
  all_goals conv => whnf
theorem shNew_err (most : Int) (h : most < 1 ∨ 1024 < most) : Sat Tryz.prog 7 [iA most] [] (.tup [.d (.v (.pointer none)), iA 11]) [] := by
  refine sat_of_vc (T := tiOf Tryz.prog) (E := E0) Tryz.func7 rfl rfl hE0 hm0 rfl ?_
  conv => whnf
  iterate 4
    repeat' (first | exact True.intro | ((first | refine And.intro (fun _ => ?_) tf | refine And.intro ft (fun _ => ?_) | refine And.intro (by kernel_rfl) ?_ | refine And.intro (by decide) ?_ | refine And.intro (fun _ => ?_) (fun h => absurd h (by decide)) | refine And.intro (fun h => absurd h (by decide)) (fun _ => ?_) | refine ⟨_, _, mp_make (ek := kyD) (ev := cD), ?_⟩ | fail); conv => whnf) | (refine And.intro (fun _ => ?_) (fun _ => ?_) <;> conv => whnf) | fail)
    all_goals try (exfalso; simp only [decide_eq_true_eq, decide_eq_false_iff_not, Bool.not_eq_true', Bool.not_eq_false', Bool.not_eq_true, Bool.not_eq_false, beq_iff_eq, bne_iff_ne, beq_eq_false_iff_ne, bne_eq_false_iff_eq, ne_eq, Decidable.not_not] at *; first | omega | contradiction | (simp_all; done) | (simp_all; omega))
    all_goals try (refine Or.inl ?_; conv => whnf)
  all_goals refine ⟨[], ?_⟩
  repeat (any_goals (first | exact True.intro | exact rfl | with_reducible_and_instances rfl | exact (by kernel_rfl) | refine And.intro ?_ ?_))
  all_goals conv => whnf
theorem shLen_sat (most : Int) (m : Sh) (c : Nat) : Sat Tryz.prog 16 [.ptr 0 0] (shH most m c) (iA m.length) (shH most m c) := by
  refine sat_of_vc (T := tiOf Tryz.prog) (E := E0) Tryz.func16 rfl rfl hE0 hm0 rfl ?_
  conv => whnf
  iterate 3
    repeat' (first | exact True.intro | ((first | refine And.intro (fun _ => ?_) tf | refine And.intro ft (fun _ => ?_) | refine And.intro (by kernel_rfl) ?_ | refine And.intro (by decide) ?_ | refine And.intro (fun _ => ?_) (fun h => absurd h (by decide)) | refine And.intro (fun h => absurd h (by decide)) (fun _ => ?_) | refine ⟨_, _, mp_len Tryz.underlying71 rfl, ?_⟩ | fail); conv => whnf) | (refine And.intro (fun _ => ?_) (fun _ => ?_) <;> conv => whnf) | fail)
    all_goals try (refine Or.inl ?_; conv => whnf)
  all_goals refine ⟨[], ?_⟩
  repeat (any_goals (first | exact True.intro | exact rfl | with_reducible_and_instances rfl | exact (by kernel_rfl) | refine And.intro ?_ ?_))
  all_goals conv => whnf
theorem shOf_sat (most : Int) (m : Sh) (c : Nat) (k : KeyW) (hm : ∀ p ∈ m, p.2.1.h.length = 65) : Sat Tryz.prog 11 [.ptr 0 0, .d (kyD k)] (shH most m c) (.tup [.d (cD ((findX m k).getD zC)), bA (findX m k).isSome]) (shH most m c) := by
  have hl : ((findX m k).getD zC).h.length = 65 := by
    cases h : findX m k with
    | none => rfl
    | some x =>
      unfold findX at h
      obtain ⟨p, hp, rfl⟩ := Option.map_eq_some_iff.1 h
      exact hm p (List.mem_of_find?_eq_some hp)
  refine sat_of_vc (T := tiOf Tryz.prog) (E := E0) Tryz.func11 rfl rfl hE0 hm0 rfl ?_
  conv => whnf
  iterate 3
    repeat' (first | exact True.intro | ((first | refine ⟨_, drop_id, ?_⟩ | refine ⟨_, _, at_n, ?_⟩ | refine ⟨_, _, at_hi, ?_⟩ | refine ⟨_, _, at_lo, ?_⟩ | refine ⟨_, _, at_mn, ?_⟩ | refine ⟨_, _, at_mx, ?_⟩ | refine ⟨_, _, at_ce, ?_⟩ | refine ⟨_, _, at_po, ?_⟩ | refine ⟨_, whole_z sC, clenz sC, ?_⟩ | refine ⟨_, setzC, ?_⟩ | refine And.intro (clenz sC) ?_ | refine And.intro fitzC ?_ | refine ⟨_, whole_cell sC hl, clen sC hl, ?_⟩ | refine And.intro (clen sC hl) ?_ | refine And.intro (fitC hl) ?_ | refine ⟨_, setC hl, ?_⟩ | refine ⟨_, whole_z sF, clenz sF, ?_⟩ | refine ⟨_, setzF, ?_⟩ | refine And.intro (clenz sF) ?_ | refine And.intro fitzF ?_ | refine ⟨_, whole_cell sF hl, clen sF hl, ?_⟩ | refine And.intro (clen sF hl) ?_ | refine And.intro (fitF hl) ?_ | refine ⟨_, setF hl, ?_⟩ | refine And.intro (fit1 hl (by decide)) ?_ | refine And.intro (fit1 rfl (by decide)) ?_ | refine ⟨_, sum_cell s25, rfl, ?_⟩ | refine ⟨_, set_n _, ?_⟩ | refine ⟨_, set_mn _, ?_⟩ | refine ⟨_, set_mx _, ?_⟩ | refine ⟨_, set_ce _, ?_⟩ | refine ⟨_, set_po _, ?_⟩ | refine ⟨_, set_s _, ?_⟩ | refine ⟨_, set_hi _, ?_⟩ | refine ⟨_, set_lo _, ?_⟩ | refine And.intro (fun _ => ?_) tf | refine And.intro ft (fun _ => ?_) | refine And.intro (by kernel_rfl) ?_ | refine And.intro (by decide) ?_ | refine And.intro (fun _ => ?_) (fun h => absurd h (by decide)) | refine And.intro (fun h => absurd h (by decide)) (fun _ => ?_) | refine ⟨_, _, mp_looks kyT closed_cD zC Tryz.underlying71 zcell k rfl, ?_⟩ | fail); conv => whnf) | (refine And.intro (fun _ => ?_) (fun _ => ?_) <;> conv => whnf) | fail)
    all_goals try (refine Or.inl ?_; conv => whnf)
  all_goals refine ⟨[], ?_⟩
  repeat (any_goals (first | exact True.intro | exact rfl | with_reducible_and_instances rfl | exact (by kernel_rfl) | refine And.intro ?_ ?_))
  all_goals conv => whnf
/-- What holds of a shelf's map. -/
structure ShOK (m : Sh) (c : Nat) : Prop where
  ok : ∀ p ∈ m, CelOK p.2.1
  right : ∀ p ∈ m, RightC p.2.1
theorem ShOK.at_ {m : Sh} {c : Nat} (h : ShOK m c) (k : KeyW) : CelOK ((findX m k).getD zC) ∧ RightC ((findX m k).getD zC) := by
  cases h' : findX m k with
  | none => exact ⟨⟨by decide, by decide, by decide, by decide, by decide, by decide, by decide, by decide⟩, right_iff.1 rightC_zC⟩
  | some x =>
    unfold findX at h'
    obtain ⟨p, hp, rfl⟩ := Option.map_eq_some_iff.1 h'
    exact ⟨h.ok p (List.mem_of_find?_eq_some hp), h.right p (List.mem_of_find?_eq_some hp)⟩
/-- Count: a value in a cell. -/
def shCount (m : Sh) (c : Nat) (k : KeyW) (v : Int) : (Sh × Nat) × Int := match findX m k with
  | none => ((m, c), 19)
  | some x => if (addC x v).2 = 0 then ((putX k (addC x v).1 c m, clkX k m c), 0) else ((m, c), (addC x v).2)
section
variable {L : List AObj} {ty n i : Nat} {mx kx : Operand} {m : Sh} {c : Nat} {k : KeyW}
theorem sh_look (hi : L[i]? = some (shO m c)) : Does Tryz.prog (.lookup 71 mx kx false) ty L n [.mp i, .d (kyD k)] ⟨[i], [], []⟩ (.d (cD ((findX m k).getD zC))) := mp_look kyT closed_cD zC Tryz.underlying71 zcell k hi
theorem sh_none (hf : findX m k = none) (hi : L[i]? = some (shO m c)) : Does Tryz.prog (.lookup 71 mx kx true) ty L n [.mp i, .d (kyD k)] ⟨[i], [], []⟩ (.tup [.d (cD zC), bA false]) := by
  have := mp_looks (mx := mx) (kx := kx) (ty := ty) (n := n) kyT closed_cD zC Tryz.underlying71 zcell k hi
  rw [hf] at this
  exact this
theorem sh_some {x : Cel} (hf : findX m k = some x) (hi : L[i]? = some (shO m c)) : Does Tryz.prog (.lookup 71 mx kx true) ty L n [.mp i, .d (kyD k)] ⟨[i], [], []⟩ (.tup [.d (cD x), bA true]) := by
  have := mp_looks (mx := mx) (kx := kx) (ty := ty) (n := n) kyT closed_cD zC Tryz.underlying71 zcell k hi
  rw [hf] at this
  exact this
theorem sh_put {vx : Operand} (x : Cel) (hi : L[i]? = some (shO m c)) : Does Tryz.prog (.mapUpdate 71 mx kx vx) ty L n [.mp i, .d (kyD k), .d (cD x)] ⟨[i], [(i, shO (putX k x c m) (clkX k m c))], []⟩ .any := mp_put kyT closed_cD Tryz.underlying71 k x hi
theorem sh_del {kt' : TypeId} (hi : L[i]? = some (shO m c)) : Does Tryz.prog (.call { callee := .builtin .delete, args := #[mx, kx], argTypes := #[71, kt'] }) ty L n [.mp i, .d (kyD k)] ⟨[i], [(i, shO (delX k m) c)], []⟩ (.tup []) := mp_del kyT Tryz.underlying71 k hi
theorem sh_len (hi : L[i]? = some (shO m c)) : Does Tryz.prog (.call { callee := .builtin .len, args := #[mx], argTypes := #[71] }) ty L n [.mp i] ⟨[i], [], []⟩ (.d (.v (.int .i64 m.length))) := mp_len Tryz.underlying71 hi
end
theorem ShOK.find {m : Sh} {c : Nat} (h : ShOK m c) {k : KeyW} {x : Cel} (hf : findX m k = some x) : CelOK x ∧ RightC x := by
  have := h.at_ k
  rw [hf] at this
  exact this
set_option maxHeartbeats 4000000 in
theorem shCount_sat (most : Int) (m : Sh) (c : Nat) (k : KeyW) (v : Int) (hm : ShOK m c) (hv : in64 v) : Sat Tryz.prog 19 [.ptr 0 0, .d (kyD k), iA v] (shH most m c) (iA (shCount m c k v).2) (shH most (shCount m c k v).1.1 (shCount m c k v).1.2) := by
  cases hf : findX m k with
  | none =>
    have e : shCount m c k v = ((m, c), 19) := by unfold shCount; rw [hf]
    rw [e]
    refine sat_of_vc (T := tiOf Tryz.prog) (E := E0) Tryz.func19 rfl rfl hE0 hm0 rfl ?_
    conv => whnf
    iterate 3
      repeat' (first | exact True.intro | ((first | refine ⟨_, drop_id, ?_⟩ | refine ⟨_, _, at_n, ?_⟩ | refine ⟨_, _, at_hi, ?_⟩ | refine ⟨_, _, at_lo, ?_⟩ | refine ⟨_, _, at_mn, ?_⟩ | refine ⟨_, _, at_mx, ?_⟩ | refine ⟨_, _, at_ce, ?_⟩ | refine ⟨_, _, at_po, ?_⟩ | refine ⟨_, whole_z sC, clenz sC, ?_⟩ | refine ⟨_, setzC, ?_⟩ | refine And.intro (clenz sC) ?_ | refine And.intro fitzC ?_ | refine ⟨_, whole_z sF, clenz sF, ?_⟩ | refine ⟨_, setzF, ?_⟩ | refine And.intro (clenz sF) ?_ | refine And.intro fitzF ?_ | refine And.intro (fit1 rfl (by decide)) ?_ | refine ⟨_, sum_cell s25, rfl, ?_⟩ | refine ⟨_, set_n _, ?_⟩ | refine ⟨_, set_mn _, ?_⟩ | refine ⟨_, set_mx _, ?_⟩ | refine ⟨_, set_ce _, ?_⟩ | refine ⟨_, set_po _, ?_⟩ | refine ⟨_, set_s _, ?_⟩ | refine ⟨_, set_hi _, ?_⟩ | refine ⟨_, set_lo _, ?_⟩ | refine And.intro (fun _ => ?_) tf | refine And.intro ft (fun _ => ?_) | refine And.intro (by kernel_rfl) ?_ | refine And.intro (by decide) ?_ | refine And.intro (fun _ => ?_) (fun h => absurd h (by decide)) | refine And.intro (fun h => absurd h (by decide)) (fun _ => ?_) | refine ⟨_, _, sh_none hf rfl, ?_⟩ | fail); conv => whnf) | (refine And.intro (fun _ => ?_) (fun _ => ?_) <;> conv => whnf) | fail)
      all_goals try (refine Or.inl ?_; conv => whnf)
    all_goals refine ⟨[], ?_⟩
    repeat (any_goals (first | exact True.intro | exact rfl | with_reducible_and_instances rfl | exact (by kernel_rfl) | refine And.intro ?_ ?_))
    all_goals conv => whnf
  | some x =>
    obtain ⟨h1, h2⟩ := hm.find hf
    have hl := h1.hl
    have a1 := add_sat_c x v h1 hv
    have la := (addC_okA (v := v) h1 hv).hl
    by_cases he : (addC x v).2 = 0
    · have e : shCount m c k v = ((putX k (addC x v).1 c m, clkX k m c), 0) := by unfold shCount; rw [hf]; exact if_pos he
      rw [e]
      rw [he] at a1
      generalize (addC x v).1 = A at *
      refine sat_of_vc (T := tiOf Tryz.prog) (E := E0) Tryz.func19 rfl rfl hE0 hm0 rfl ?_
      conv => whnf
      iterate 5
        repeat' (first | exact True.intro | ((first | refine And.intro (cell_fit la hl) ?_ | refine ⟨_, cell_sets hl la, ?_⟩ | refine ⟨_, drop_id, ?_⟩ | refine ⟨_, _, at_n, ?_⟩ | refine ⟨_, _, at_hi, ?_⟩ | refine ⟨_, _, at_lo, ?_⟩ | refine ⟨_, _, at_mn, ?_⟩ | refine ⟨_, _, at_mx, ?_⟩ | refine ⟨_, _, at_ce, ?_⟩ | refine ⟨_, _, at_po, ?_⟩ | refine ⟨_, whole_z sC, clenz sC, ?_⟩ | refine ⟨_, setzC, ?_⟩ | refine And.intro (clenz sC) ?_ | refine And.intro fitzC ?_ | refine ⟨_, whole_cell sC hl, clen sC hl, ?_⟩ | refine And.intro (clen sC hl) ?_ | refine And.intro (fitC hl) ?_ | refine ⟨_, setC hl, ?_⟩ | refine ⟨_, whole_cell sC la, clen sC la, ?_⟩ | refine And.intro (clen sC la) ?_ | refine And.intro (fitC la) ?_ | refine ⟨_, setC la, ?_⟩ | refine ⟨_, whole_z sF, clenz sF, ?_⟩ | refine ⟨_, setzF, ?_⟩ | refine And.intro (clenz sF) ?_ | refine And.intro fitzF ?_ | refine ⟨_, whole_cell sF hl, clen sF hl, ?_⟩ | refine And.intro (clen sF hl) ?_ | refine And.intro (fitF hl) ?_ | refine ⟨_, setF hl, ?_⟩ | refine ⟨_, whole_cell sF la, clen sF la, ?_⟩ | refine And.intro (clen sF la) ?_ | refine And.intro (fitF la) ?_ | refine ⟨_, setF la, ?_⟩ | refine And.intro (fit1 hl (by decide)) ?_ | refine And.intro (fit1 la (by decide)) ?_ | refine And.intro (fit1 rfl (by decide)) ?_ | refine ⟨_, sum_cell s25, rfl, ?_⟩ | refine ⟨_, set_n _, ?_⟩ | refine ⟨_, set_mn _, ?_⟩ | refine ⟨_, set_mx _, ?_⟩ | refine ⟨_, set_ce _, ?_⟩ | refine ⟨_, set_po _, ?_⟩ | refine ⟨_, set_s _, ?_⟩ | refine ⟨_, set_hi _, ?_⟩ | refine ⟨_, set_lo _, ?_⟩ | refine And.intro (fun _ => ?_) tf | refine And.intro ft (fun _ => ?_) | refine And.intro (by kernel_rfl) ?_ | refine And.intro (by decide) ?_ | refine And.intro (fun _ => ?_) (fun h => absurd h (by decide)) | refine And.intro (fun h => absurd h (by decide)) (fun _ => ?_) | refine ⟨_, _, sh_some hf rfl, ?_⟩ | refine ⟨_, _, a1.pu rfl rfl, ?_⟩ | refine ⟨_, _, sh_put A rfl, ?_⟩ | fail); conv => whnf) | (refine And.intro (fun _ => ?_) (fun _ => ?_) <;> conv => whnf) | fail)
        all_goals try (refine Or.inl ?_; conv => whnf)
      all_goals try (exfalso; simp only [decide_eq_true_eq, decide_eq_false_iff_not, Bool.not_eq_true', Bool.not_eq_false', Bool.not_eq_true, Bool.not_eq_false, beq_iff_eq, bne_iff_ne, beq_eq_false_iff_ne, bne_eq_false_iff_eq, ne_eq, Decidable.not_not] at *; first | omega | contradiction | (simp_all; done) | (simp_all; omega))
      all_goals refine ⟨[], ?_⟩
      repeat (any_goals (first | exact True.intro | exact rfl | with_reducible_and_instances rfl | exact (by kernel_rfl) | refine And.intro ?_ ?_))
      all_goals conv => whnf
    · have e : shCount m c k v = ((m, c), (addC x v).2) := by unfold shCount; rw [hf]; exact if_neg he
      rw [e]
      generalize (addC x v).1 = A at *
      generalize (addC x v).2 = ea at *
      refine sat_of_vc (T := tiOf Tryz.prog) (E := E0) Tryz.func19 rfl rfl hE0 hm0 rfl ?_
      conv => whnf
      iterate 5
        repeat' (first | exact True.intro | ((first | refine And.intro (cell_fit la hl) ?_ | refine ⟨_, cell_sets hl la, ?_⟩ | refine ⟨_, drop_id, ?_⟩ | refine ⟨_, _, at_n, ?_⟩ | refine ⟨_, _, at_hi, ?_⟩ | refine ⟨_, _, at_lo, ?_⟩ | refine ⟨_, _, at_mn, ?_⟩ | refine ⟨_, _, at_mx, ?_⟩ | refine ⟨_, _, at_ce, ?_⟩ | refine ⟨_, _, at_po, ?_⟩ | refine ⟨_, whole_z sC, clenz sC, ?_⟩ | refine ⟨_, setzC, ?_⟩ | refine And.intro (clenz sC) ?_ | refine And.intro fitzC ?_ | refine ⟨_, whole_cell sC hl, clen sC hl, ?_⟩ | refine And.intro (clen sC hl) ?_ | refine And.intro (fitC hl) ?_ | refine ⟨_, setC hl, ?_⟩ | refine ⟨_, whole_cell sC la, clen sC la, ?_⟩ | refine And.intro (clen sC la) ?_ | refine And.intro (fitC la) ?_ | refine ⟨_, setC la, ?_⟩ | refine ⟨_, whole_z sF, clenz sF, ?_⟩ | refine ⟨_, setzF, ?_⟩ | refine And.intro (clenz sF) ?_ | refine And.intro fitzF ?_ | refine ⟨_, whole_cell sF hl, clen sF hl, ?_⟩ | refine And.intro (clen sF hl) ?_ | refine And.intro (fitF hl) ?_ | refine ⟨_, setF hl, ?_⟩ | refine ⟨_, whole_cell sF la, clen sF la, ?_⟩ | refine And.intro (clen sF la) ?_ | refine And.intro (fitF la) ?_ | refine ⟨_, setF la, ?_⟩ | refine And.intro (fit1 hl (by decide)) ?_ | refine And.intro (fit1 la (by decide)) ?_ | refine And.intro (fit1 rfl (by decide)) ?_ | refine ⟨_, sum_cell s25, rfl, ?_⟩ | refine ⟨_, set_n _, ?_⟩ | refine ⟨_, set_mn _, ?_⟩ | refine ⟨_, set_mx _, ?_⟩ | refine ⟨_, set_ce _, ?_⟩ | refine ⟨_, set_po _, ?_⟩ | refine ⟨_, set_s _, ?_⟩ | refine ⟨_, set_hi _, ?_⟩ | refine ⟨_, set_lo _, ?_⟩ | refine And.intro (fun _ => ?_) tf | refine And.intro ft (fun _ => ?_) | refine And.intro (by kernel_rfl) ?_ | refine And.intro (by decide) ?_ | refine And.intro (fun _ => ?_) (fun h => absurd h (by decide)) | refine And.intro (fun h => absurd h (by decide)) (fun _ => ?_) | refine ⟨_, _, sh_some hf rfl, ?_⟩ | refine ⟨_, _, a1.pu rfl rfl, ?_⟩ | fail); conv => whnf) | (refine And.intro (fun _ => ?_) (fun _ => ?_) <;> conv => whnf) | fail)
        all_goals try (refine Or.inl ?_; conv => whnf)
      all_goals try (exfalso; simp only [decide_eq_true_eq, decide_eq_false_iff_not, Bool.not_eq_true', Bool.not_eq_false', Bool.not_eq_true, Bool.not_eq_false, beq_iff_eq, bne_iff_ne, beq_eq_false_iff_ne, bne_eq_false_iff_eq, ne_eq, Decidable.not_not] at *; first | omega | contradiction | (simp_all; done) | (simp_all; omega))
      all_goals refine ⟨[], ?_⟩
      repeat (any_goals (first | exact True.intro | exact rfl | with_reducible_and_instances rfl | exact (by kernel_rfl) | refine And.intro ?_ ?_))
      all_goals conv => whnf
end Go.Proofs.YtbjmdnemeidpjaaGreat
/- The shelf: Set, Room. -/
namespace Go.Proofs.YtbjmdnemeidpjaaGreat
set_option linter.unusedSimpArgs false
set_option linter.unusedVariables false
open Go.RowKit
set_option maxRecDepth 100000
def shSet (most : Int) (m : Sh) (c : Nat) (k : KeyW) (x : Cel) : (Sh × Nat) × Int := if (findX m k).isSome then ((m, c), 18) else if rightC x = false then ((m, c), 10) else
  if most ≤ m.length then ((m, c), 20) else ((putX k x c m, clkX k m c), 0)
set_option maxHeartbeats 4000000 in
theorem shSet_sat (most : Int) (m : Sh) (c : Nat) (k : KeyW) (x : Cel) (hm : ShOK m c) (hx : CelOK x) : Sat Tryz.prog 21 [.ptr 0 0, .d (kyD k), .d (cD x)] (shH most m c) (iA (shSet most m c k x).2) (shH most (shSet most m c k x).1.1 (shSet most m c k x).1.2) := by
  have hl := hx.hl
  have r1 := right_sat_c x hx
  cases hf : findX m k with
  | some y =>
    have hy := (hm.find hf).1.hl
    have e : shSet most m c k x = ((m, c), 18) := by unfold shSet; rw [hf]; rfl
    rw [e]
    refine sat_of_vc (T := tiOf Tryz.prog) (E := E0) Tryz.func21 rfl rfl hE0 hm0 rfl ?_
    conv => whnf
    iterate 4
      repeat' (first | exact True.intro | ((first | refine ⟨_, drop_id, ?_⟩ | refine ⟨_, _, at_n, ?_⟩ | refine ⟨_, _, at_hi, ?_⟩ | refine ⟨_, _, at_lo, ?_⟩ | refine ⟨_, _, at_mn, ?_⟩ | refine ⟨_, _, at_mx, ?_⟩ | refine ⟨_, _, at_ce, ?_⟩ | refine ⟨_, _, at_po, ?_⟩ | refine ⟨_, whole_z sC, clenz sC, ?_⟩ | refine ⟨_, setzC, ?_⟩ | refine And.intro (clenz sC) ?_ | refine And.intro fitzC ?_ | refine ⟨_, whole_cell sC hl, clen sC hl, ?_⟩ | refine And.intro (clen sC hl) ?_ | refine And.intro (fitC hl) ?_ | refine ⟨_, setC hl, ?_⟩ | refine ⟨_, whole_cell sC hy, clen sC hy, ?_⟩ | refine And.intro (clen sC hy) ?_ | refine And.intro (fitC hy) ?_ | refine ⟨_, setC hy, ?_⟩ | refine ⟨_, whole_z sF, clenz sF, ?_⟩ | refine ⟨_, setzF, ?_⟩ | refine And.intro (clenz sF) ?_ | refine And.intro fitzF ?_ | refine ⟨_, whole_cell sF hl, clen sF hl, ?_⟩ | refine And.intro (clen sF hl) ?_ | refine And.intro (fitF hl) ?_ | refine ⟨_, setF hl, ?_⟩ | refine ⟨_, whole_cell sF hy, clen sF hy, ?_⟩ | refine And.intro (clen sF hy) ?_ | refine And.intro (fitF hy) ?_ | refine ⟨_, setF hy, ?_⟩ | refine And.intro (fit1 hl (by decide)) ?_ | refine And.intro (fit1 hy (by decide)) ?_ | refine And.intro (fit1 rfl (by decide)) ?_ | refine ⟨_, sum_cell s25, rfl, ?_⟩ | refine ⟨_, set_n _, ?_⟩ | refine ⟨_, set_mn _, ?_⟩ | refine ⟨_, set_mx _, ?_⟩ | refine ⟨_, set_ce _, ?_⟩ | refine ⟨_, set_po _, ?_⟩ | refine ⟨_, set_s _, ?_⟩ | refine ⟨_, set_hi _, ?_⟩ | refine ⟨_, set_lo _, ?_⟩ | refine And.intro (fun _ => ?_) tf | refine And.intro ft (fun _ => ?_) | refine And.intro (by kernel_rfl) ?_ | refine And.intro (by decide) ?_ | refine And.intro (fun _ => ?_) (fun h => absurd h (by decide)) | refine And.intro (fun h => absurd h (by decide)) (fun _ => ?_) | refine ⟨_, _, sh_some hf rfl, ?_⟩ | fail); conv => whnf) | (refine And.intro (fun _ => ?_) (fun _ => ?_) <;> conv => whnf) | fail)
      all_goals try (refine Or.inl ?_; conv => whnf)
    all_goals refine ⟨[], ?_⟩
    repeat (any_goals (first | exact True.intro | exact rfl | with_reducible_and_instances rfl | exact (by kernel_rfl) | refine And.intro ?_ ?_))
    all_goals conv => whnf
  | none =>
    by_cases hr : rightC x = true
    case neg =>
      have hr : rightC x = false := by simpa using hr
      have e : shSet most m c k x = ((m, c), 10) := by unfold shSet; rw [hf, hr]; rfl
      rw [e]
      rw [hr] at r1
      refine sat_of_vc (T := tiOf Tryz.prog) (E := E0) Tryz.func21 rfl rfl hE0 hm0 rfl ?_
      conv => whnf
      iterate 4
        repeat' (first | exact True.intro | ((first | refine ⟨_, drop_id, ?_⟩ | refine ⟨_, _, at_n, ?_⟩ | refine ⟨_, _, at_hi, ?_⟩ | refine ⟨_, _, at_lo, ?_⟩ | refine ⟨_, _, at_mn, ?_⟩ | refine ⟨_, _, at_mx, ?_⟩ | refine ⟨_, _, at_ce, ?_⟩ | refine ⟨_, _, at_po, ?_⟩ | refine ⟨_, whole_z sC, clenz sC, ?_⟩ | refine ⟨_, setzC, ?_⟩ | refine And.intro (clenz sC) ?_ | refine And.intro fitzC ?_ | refine ⟨_, whole_cell sC hl, clen sC hl, ?_⟩ | refine And.intro (clen sC hl) ?_ | refine And.intro (fitC hl) ?_ | refine ⟨_, setC hl, ?_⟩ | refine ⟨_, whole_z sF, clenz sF, ?_⟩ | refine ⟨_, setzF, ?_⟩ | refine And.intro (clenz sF) ?_ | refine And.intro fitzF ?_ | refine ⟨_, whole_cell sF hl, clen sF hl, ?_⟩ | refine And.intro (clen sF hl) ?_ | refine And.intro (fitF hl) ?_ | refine ⟨_, setF hl, ?_⟩ | refine And.intro (fit1 hl (by decide)) ?_ | refine And.intro (fit1 rfl (by decide)) ?_ | refine ⟨_, sum_cell s25, rfl, ?_⟩ | refine ⟨_, set_n _, ?_⟩ | refine ⟨_, set_mn _, ?_⟩ | refine ⟨_, set_mx _, ?_⟩ | refine ⟨_, set_ce _, ?_⟩ | refine ⟨_, set_po _, ?_⟩ | refine ⟨_, set_s _, ?_⟩ | refine ⟨_, set_hi _, ?_⟩ | refine ⟨_, set_lo _, ?_⟩ | refine And.intro (fun _ => ?_) tf | refine And.intro ft (fun _ => ?_) | refine And.intro (by kernel_rfl) ?_ | refine And.intro (by decide) ?_ | refine And.intro (fun _ => ?_) (fun h => absurd h (by decide)) | refine And.intro (fun h => absurd h (by decide)) (fun _ => ?_) | refine ⟨_, _, sh_none hf rfl, ?_⟩ | refine ⟨_, _, r1.pu rfl rfl, ?_⟩ | fail); conv => whnf) | (refine And.intro (fun _ => ?_) (fun _ => ?_) <;> conv => whnf) | fail)
        all_goals try (refine Or.inl ?_; conv => whnf)
      all_goals refine ⟨[], ?_⟩
      repeat (any_goals (first | exact True.intro | exact rfl | with_reducible_and_instances rfl | exact (by kernel_rfl) | refine And.intro ?_ ?_))
      all_goals conv => whnf
    rw [hr] at r1
    by_cases hn : most ≤ m.length
    · have e : shSet most m c k x = ((m, c), 20) := by unfold shSet; rw [hf, hr]; exact if_pos hn
      rw [e]
      refine sat_of_vc (T := tiOf Tryz.prog) (E := E0) Tryz.func21 rfl rfl hE0 hm0 rfl ?_
      conv => whnf
      iterate 5
        repeat' (first | exact True.intro | ((first | refine ⟨_, drop_id, ?_⟩ | refine ⟨_, _, at_n, ?_⟩ | refine ⟨_, _, at_hi, ?_⟩ | refine ⟨_, _, at_lo, ?_⟩ | refine ⟨_, _, at_mn, ?_⟩ | refine ⟨_, _, at_mx, ?_⟩ | refine ⟨_, _, at_ce, ?_⟩ | refine ⟨_, _, at_po, ?_⟩ | refine ⟨_, whole_z sC, clenz sC, ?_⟩ | refine ⟨_, setzC, ?_⟩ | refine And.intro (clenz sC) ?_ | refine And.intro fitzC ?_ | refine ⟨_, whole_cell sC hl, clen sC hl, ?_⟩ | refine And.intro (clen sC hl) ?_ | refine And.intro (fitC hl) ?_ | refine ⟨_, setC hl, ?_⟩ | refine ⟨_, whole_z sF, clenz sF, ?_⟩ | refine ⟨_, setzF, ?_⟩ | refine And.intro (clenz sF) ?_ | refine And.intro fitzF ?_ | refine ⟨_, whole_cell sF hl, clen sF hl, ?_⟩ | refine And.intro (clen sF hl) ?_ | refine And.intro (fitF hl) ?_ | refine ⟨_, setF hl, ?_⟩ | refine And.intro (fit1 hl (by decide)) ?_ | refine And.intro (fit1 rfl (by decide)) ?_ | refine ⟨_, sum_cell s25, rfl, ?_⟩ | refine ⟨_, set_n _, ?_⟩ | refine ⟨_, set_mn _, ?_⟩ | refine ⟨_, set_mx _, ?_⟩ | refine ⟨_, set_ce _, ?_⟩ | refine ⟨_, set_po _, ?_⟩ | refine ⟨_, set_s _, ?_⟩ | refine ⟨_, set_hi _, ?_⟩ | refine ⟨_, set_lo _, ?_⟩ | refine And.intro (fun _ => ?_) tf | refine And.intro ft (fun _ => ?_) | refine And.intro (by kernel_rfl) ?_ | refine And.intro (by decide) ?_ | refine And.intro (fun _ => ?_) (fun h => absurd h (by decide)) | refine And.intro (fun h => absurd h (by decide)) (fun _ => ?_) | refine ⟨_, _, sh_none hf rfl, ?_⟩ | refine ⟨_, _, r1.pu rfl rfl, ?_⟩ | refine ⟨_, _, sh_len rfl, ?_⟩ | refine ⟨_, _, sh_put x rfl, ?_⟩ | fail); conv => whnf) | (refine And.intro (fun _ => ?_) (fun _ => ?_) <;> conv => whnf) | fail)
        all_goals try (exfalso; simp only [decide_eq_true_eq, decide_eq_false_iff_not, Bool.not_eq_true', Bool.not_eq_false', Bool.not_eq_true, Bool.not_eq_false, beq_iff_eq, bne_iff_ne, beq_eq_false_iff_ne, bne_eq_false_iff_eq, ne_eq, Decidable.not_not] at *; first | omega | contradiction | (simp_all; done) | (simp_all; omega))
        all_goals try (refine Or.inl ?_; conv => whnf)
      all_goals refine ⟨[], ?_⟩
      repeat (any_goals (first | exact True.intro | exact rfl | with_reducible_and_instances rfl | exact (by kernel_rfl) | refine And.intro ?_ ?_))
      all_goals conv => whnf
    · have e : shSet most m c k x = ((putX k x c m, clkX k m c), 0) := by unfold shSet; rw [hf, hr]; exact if_neg hn
      rw [e]
      refine sat_of_vc (T := tiOf Tryz.prog) (E := E0) Tryz.func21 rfl rfl hE0 hm0 rfl ?_
      conv => whnf
      iterate 5
        repeat' (first | exact True.intro | ((first | refine ⟨_, drop_id, ?_⟩ | refine ⟨_, _, at_n, ?_⟩ | refine ⟨_, _, at_hi, ?_⟩ | refine ⟨_, _, at_lo, ?_⟩ | refine ⟨_, _, at_mn, ?_⟩ | refine ⟨_, _, at_mx, ?_⟩ | refine ⟨_, _, at_ce, ?_⟩ | refine ⟨_, _, at_po, ?_⟩ | refine ⟨_, whole_z sC, clenz sC, ?_⟩ | refine ⟨_, setzC, ?_⟩ | refine And.intro (clenz sC) ?_ | refine And.intro fitzC ?_ | refine ⟨_, whole_cell sC hl, clen sC hl, ?_⟩ | refine And.intro (clen sC hl) ?_ | refine And.intro (fitC hl) ?_ | refine ⟨_, setC hl, ?_⟩ | refine ⟨_, whole_z sF, clenz sF, ?_⟩ | refine ⟨_, setzF, ?_⟩ | refine And.intro (clenz sF) ?_ | refine And.intro fitzF ?_ | refine ⟨_, whole_cell sF hl, clen sF hl, ?_⟩ | refine And.intro (clen sF hl) ?_ | refine And.intro (fitF hl) ?_ | refine ⟨_, setF hl, ?_⟩ | refine And.intro (fit1 hl (by decide)) ?_ | refine And.intro (fit1 rfl (by decide)) ?_ | refine ⟨_, sum_cell s25, rfl, ?_⟩ | refine ⟨_, set_n _, ?_⟩ | refine ⟨_, set_mn _, ?_⟩ | refine ⟨_, set_mx _, ?_⟩ | refine ⟨_, set_ce _, ?_⟩ | refine ⟨_, set_po _, ?_⟩ | refine ⟨_, set_s _, ?_⟩ | refine ⟨_, set_hi _, ?_⟩ | refine ⟨_, set_lo _, ?_⟩ | refine And.intro (fun _ => ?_) tf | refine And.intro ft (fun _ => ?_) | refine And.intro (by kernel_rfl) ?_ | refine And.intro (by decide) ?_ | refine And.intro (fun _ => ?_) (fun h => absurd h (by decide)) | refine And.intro (fun h => absurd h (by decide)) (fun _ => ?_) | refine ⟨_, _, sh_none hf rfl, ?_⟩ | refine ⟨_, _, r1.pu rfl rfl, ?_⟩ | refine ⟨_, _, sh_len rfl, ?_⟩ | refine ⟨_, _, sh_put x rfl, ?_⟩ | fail); conv => whnf) | (refine And.intro (fun _ => ?_) (fun _ => ?_) <;> conv => whnf) | fail)
        all_goals try (exfalso; simp only [decide_eq_true_eq, decide_eq_false_iff_not, Bool.not_eq_true', Bool.not_eq_false', Bool.not_eq_true, Bool.not_eq_false, beq_iff_eq, bne_iff_ne, beq_eq_false_iff_ne, bne_eq_false_iff_eq, ne_eq, Decidable.not_not] at *; first | omega | contradiction | (simp_all; done) | (simp_all; omega))
        all_goals try (refine Or.inl ?_; conv => whnf)
      all_goals refine ⟨[], ?_⟩
      repeat (any_goals (first | exact True.intro | exact rfl | with_reducible_and_instances rfl | exact (by kernel_rfl) | refine And.intro ?_ ?_))
      all_goals conv => whnf
theorem bno {a : Bool} (h : a = true) (q : a = false) : False := by rw [h] at q; exact Bool.noConfusion q
/-- How many of the windows from first on have no cell yet. -/
def lackN (m : Sh) (first : Int) (s : ByteArray) (n : Nat) : Nat := (List.range n).countP fun (j : Nat) => (findX m (first + (j : Int), s)).isNone
theorem lackN_succ (m : Sh) (first : Int) (s : ByteArray) (n : Nat) : lackN m first s (n + 1) = lackN m first s n + if (findX m (first + (n : Int), s)).isNone then 1 else 0 := by
  unfold lackN
  rw [List.range_succ, List.countP_append, List.countP_cons, List.countP_nil]
  simp
theorem lackN_le (m : Sh) (first : Int) (s : ByteArray) (n : Nat) : lackN m first s n ≤ n := by
  unfold lackN
  have := List.countP_le_length (p := fun (j : Nat) => (findX m (first + (j : Int), s)).isNone) (l := List.range n)
  simpa using this
def shRoom (most : Int) (m : Sh) (first last : Int) (s : ByteArray) : Bool := if last < first then false else if most ≤ last - first then false else decide (((m.length + lackN m first s ((last - first).toNat + 1) : Nat) : Int) ≤ most)
set_option maxHeartbeats 8000000 in
theorem shRoom_sat (most : Int) (m : Sh) (c : Nat) (first last : Int) (s : ByteArray) (hm : ShOK m c) (h1 : in64 first) (h2 : in64 last) (hmo : 1 ≤ most ∧ most ≤ 1024) (hlen : m.length ≤ 100000) :
    Sat Tryz.prog 20 [.ptr 0 0, iA first, iA last, .d (.v (.string s))] (shH most m c) (bA (shRoom most m first last s)) (shH most m c) := by
  by_cases g1 : last < first
  · have e : shRoom most m first last s = false := by unfold shRoom; rw [if_pos g1]
    rw [e]
    refine sat_of_vc (T := tiOf Tryz.prog) (E := E0) Tryz.func20 rfl rfl hE0 hm0 rfl ?_
    conv => whnf
    iterate 3
      repeat' (first | exact True.intro | ((first | refine And.intro (fun _ => ?_) tf | refine And.intro ft (fun _ => ?_) | refine And.intro (by kernel_rfl) ?_ | refine And.intro (by decide) ?_ | refine And.intro (fun _ => ?_) (fun h => absurd h (by decide)) | refine And.intro (fun h => absurd h (by decide)) (fun _ => ?_) | fail); conv => whnf) | (refine And.intro (fun _ => ?_) (fun _ => ?_) <;> conv => whnf) | fail)
      all_goals try (exfalso; simp only [decide_eq_true_eq, decide_eq_false_iff_not, Bool.not_eq_true', Bool.not_eq_false', Bool.not_eq_true, Bool.not_eq_false, beq_iff_eq, bne_iff_ne, beq_eq_false_iff_ne, bne_eq_false_iff_eq, ne_eq, Decidable.not_not] at *; first | omega | contradiction | (simp_all; done) | (simp_all; omega))
      all_goals try (refine Or.inl ?_; conv => whnf)
    all_goals refine ⟨[], ?_⟩
    repeat (any_goals (first | exact True.intro | exact rfl | with_reducible_and_instances rfl | exact (by kernel_rfl) | refine And.intro ?_ ?_))
    all_goals conv => whnf
  have w1 : IntKind.u64.wrap (IntKind.u64.wrap last - IntKind.u64.wrap first) = last - first := by
    unfold in64 at h1 h2
    rw [IntKind.wrap_u64, IntKind.wrap_u64, IntKind.wrap_u64]; omega
  have w2 : IntKind.u64.wrap most = most := by rw [IntKind.wrap_u64]; omega
  have hd : decide (IntKind.u64.wrap (IntKind.u64.wrap last - IntKind.u64.wrap first) ≥ IntKind.u64.wrap most) = decide (most ≤ last - first) := by rw [w1, w2]
  by_cases g2 : most ≤ last - first
  · have e : shRoom most m first last s = false := by unfold shRoom; rw [if_neg g1, if_pos g2]
    rw [e]
    refine sat_of_vc (T := tiOf Tryz.prog) (E := E0) Tryz.func20 rfl rfl hE0 hm0 rfl ?_
    conv => whnf
    iterate 3
      repeat' (first | exact True.intro | ((first | refine And.intro (fun _ => ?_) tf | refine And.intro ft (fun _ => ?_) | refine And.intro (by kernel_rfl) ?_ | refine And.intro (by decide) ?_ | refine And.intro (fun _ => ?_) (fun h => absurd h (by decide)) | refine And.intro (fun h => absurd h (by decide)) (fun _ => ?_) | refine ⟨_, _, sh_len rfl, ?_⟩ | fail); conv => whnf) | (refine And.intro (fun _ => ?_) (fun _ => ?_) <;> conv => whnf) | fail)
      all_goals try (refine Or.inl ?_; conv => whnf)
    all_goals try exact (bno (hd.trans (decide_eq_true g2)) ‹_›).elim
    all_goals refine ⟨[], ?_⟩
    repeat (any_goals (first | exact True.intro | exact rfl | with_reducible_and_instances rfl | exact (by kernel_rfl) | refine And.intro ?_ ?_))
    all_goals conv => whnf
  obtain ⟨n, hn⟩ : ∃ n : Nat, last - first = n := ⟨(last - first).toNat, by omega⟩
  have e : shRoom most m first last s = decide (((m.length + lackN m first s (n + 1) : Nat) : Int) ≤ most) := by
    unfold shRoom
    rw [if_neg g1, if_neg g2, hn]; rfl
  rw [e]
  refine sat_of_vc (T := tiOf Tryz.prog) (E := E0) Tryz.func20 rfl rfl hE0 hm0 rfl ?_
  conv => whnf
  iterate 3
    repeat' (first | exact True.intro | ((first | refine And.intro (fun _ => ?_) tf | refine And.intro ft (fun _ => ?_) | refine And.intro (by kernel_rfl) ?_ | refine And.intro (by decide) ?_ | refine And.intro (fun _ => ?_) (fun h => absurd h (by decide)) | refine And.intro (fun h => absurd h (by decide)) (fun _ => ?_) | refine ⟨_, _, sh_len rfl, ?_⟩ | fail); conv => whnf) | (refine And.intro (fun _ => ?_) (fun _ => ?_) <;> conv => whnf) | fail)
    all_goals try (refine Or.inl ?_; conv => whnf)
  all_goals try exact (bno ‹decide (first > last) = true› (decide_eq_false (show ¬ first > last by omega))).elim
  all_goals try exact (bno ‹_› (hd.trans (decide_eq_false g2))).elim
  refine ⟨Nat, fun i => i ≤ n + 1, fun i => ([(37, iA i), (36, iA (n + 1 : Nat)), (10, iA (m.length + lackN m first s i : Nat)), (0, .ptr 0 0), (1, iA first), (3, .d (.v (.string s)))], shH most m c), fun i => n + 1 - i, ⟨0, Nat.zero_le _, ?_⟩, ?_⟩
  · all_goals refine ⟨[], ?_⟩
    repeat (any_goals (first | exact True.intro | exact rfl | with_reducible_and_instances rfl | exact (by kernel_rfl) | refine And.intro ?_ ?_))
    all_goals conv => whnf
    show iA (IntKind.i64.wrap (IntKind.i64.wrap (IntKind.u64.wrap (IntKind.u64.wrap last - IntKind.u64.wrap first)) + 1)) = iA (n + 1 : Nat)
    rw [w1, hn, wi (n := (n : Int)) (by omega) (by omega), wi (by omega) (by omega)]; rfl
  intro i hi
  have hi : i ≤ n + 1 := hi
  have hsn := lackN_succ m first s i
  have hle := lackN_le m first s i
  conv => whnf
  by_cases hlt : i < n + 1
  · have wf : IntKind.i64.wrap (first + (i : Int)) = first + i := wi (by unfold in64 at h1; omega) (by unfold in64 at h2; omega)
    rw [← wf] at hsn
    cases hf : findX m (IntKind.i64.wrap (first + (i : Int)), s) with
    | none =>
      rw [hf] at hsn
      have hsn : lackN m first s (i + 1) = lackN m first s i + 1 := hsn
      iterate 5
        repeat' (first | exact True.intro | ((first | refine ⟨_, drop_id, ?_⟩ | refine ⟨_, _, at_n, ?_⟩ | refine ⟨_, _, at_hi, ?_⟩ | refine ⟨_, _, at_lo, ?_⟩ | refine ⟨_, _, at_mn, ?_⟩ | refine ⟨_, _, at_mx, ?_⟩ | refine ⟨_, _, at_ce, ?_⟩ | refine ⟨_, _, at_po, ?_⟩ | refine ⟨_, whole_z sC, clenz sC, ?_⟩ | refine ⟨_, setzC, ?_⟩ | refine And.intro (clenz sC) ?_ | refine And.intro fitzC ?_ | refine ⟨_, whole_z sF, clenz sF, ?_⟩ | refine ⟨_, setzF, ?_⟩ | refine And.intro (clenz sF) ?_ | refine And.intro fitzF ?_ | refine And.intro (fit1 rfl (by decide)) ?_ | refine ⟨_, sum_cell s25, rfl, ?_⟩ | refine ⟨_, set_n _, ?_⟩ | refine ⟨_, set_mn _, ?_⟩ | refine ⟨_, set_mx _, ?_⟩ | refine ⟨_, set_ce _, ?_⟩ | refine ⟨_, set_po _, ?_⟩ | refine ⟨_, set_s _, ?_⟩ | refine ⟨_, set_hi _, ?_⟩ | refine ⟨_, set_lo _, ?_⟩ | refine And.intro (fun _ => ?_) tf | refine And.intro ft (fun _ => ?_) | refine And.intro (by kernel_rfl) ?_ | refine And.intro (by decide) ?_ | refine And.intro (fun _ => ?_) (fun h => absurd h (by decide)) | refine And.intro (fun h => absurd h (by decide)) (fun _ => ?_) | refine ⟨_, _, sh_none hf rfl, ?_⟩ | fail); conv => whnf) | (refine And.intro (fun _ => ?_) (fun _ => ?_) <;> conv => whnf) | fail)
        all_goals try (refine Or.inl ?_; conv => whnf)
      all_goals try exact (bno (decide_eq_true (show (i : Int) < ((n + 1 : Nat) : Int) by omega)) ‹_›).elim
      all_goals try (exfalso; simp only [decide_eq_true_eq, decide_eq_false_iff_not, Bool.not_eq_true', Bool.not_eq_false', Bool.not_eq_true, Bool.not_eq_false, beq_iff_eq, bne_iff_ne, beq_eq_false_iff_ne, bne_eq_false_iff_eq, ne_eq, Decidable.not_not] at *; first | omega | contradiction | (simp_all; done) | (simp_all; omega))
      refine ⟨i + 1, hlt, show n + 1 - (i + 1) < n + 1 - i by omega, ?_⟩
      all_goals refine ⟨[], ?_⟩
      repeat (any_goals (first | exact True.intro | exact rfl | with_reducible_and_instances rfl | exact (by kernel_rfl) | refine And.intro ?_ ?_))
      all_goals conv => whnf
      · exact wk1 (by omega)
      · show iA (IntKind.i64.wrap (((m.length + lackN m first s i : Nat) : Int) + 1)) = iA (m.length + lackN m first s (i + 1) : Nat)
        rw [hsn, wi (by omega) (by omega)]; rfl
    | some y =>
      rw [hf] at hsn
      have hsn : lackN m first s (i + 1) = lackN m first s i := hsn
      have hy := (hm.find hf).1.hl
      iterate 5
        repeat' (first | exact True.intro | ((first | refine ⟨_, drop_id, ?_⟩ | refine ⟨_, _, at_n, ?_⟩ | refine ⟨_, _, at_hi, ?_⟩ | refine ⟨_, _, at_lo, ?_⟩ | refine ⟨_, _, at_mn, ?_⟩ | refine ⟨_, _, at_mx, ?_⟩ | refine ⟨_, _, at_ce, ?_⟩ | refine ⟨_, _, at_po, ?_⟩ | refine ⟨_, whole_z sC, clenz sC, ?_⟩ | refine ⟨_, setzC, ?_⟩ | refine And.intro (clenz sC) ?_ | refine And.intro fitzC ?_ | refine ⟨_, whole_cell sC hy, clen sC hy, ?_⟩ | refine And.intro (clen sC hy) ?_ | refine And.intro (fitC hy) ?_ | refine ⟨_, setC hy, ?_⟩ | refine ⟨_, whole_z sF, clenz sF, ?_⟩ | refine ⟨_, setzF, ?_⟩ | refine And.intro (clenz sF) ?_ | refine And.intro fitzF ?_ | refine ⟨_, whole_cell sF hy, clen sF hy, ?_⟩ | refine And.intro (clen sF hy) ?_ | refine And.intro (fitF hy) ?_ | refine ⟨_, setF hy, ?_⟩ | refine And.intro (fit1 hy (by decide)) ?_ | refine And.intro (fit1 rfl (by decide)) ?_ | refine ⟨_, sum_cell s25, rfl, ?_⟩ | refine ⟨_, set_n _, ?_⟩ | refine ⟨_, set_mn _, ?_⟩ | refine ⟨_, set_mx _, ?_⟩ | refine ⟨_, set_ce _, ?_⟩ | refine ⟨_, set_po _, ?_⟩ | refine ⟨_, set_s _, ?_⟩ | refine ⟨_, set_hi _, ?_⟩ | refine ⟨_, set_lo _, ?_⟩ | refine And.intro (fun _ => ?_) tf | refine And.intro ft (fun _ => ?_) | refine And.intro (by kernel_rfl) ?_ | refine And.intro (by decide) ?_ | refine And.intro (fun _ => ?_) (fun h => absurd h (by decide)) | refine And.intro (fun h => absurd h (by decide)) (fun _ => ?_) | refine ⟨_, _, sh_some hf rfl, ?_⟩ | fail); conv => whnf) | (refine And.intro (fun _ => ?_) (fun _ => ?_) <;> conv => whnf) | fail)
        all_goals try (refine Or.inl ?_; conv => whnf)
      all_goals try exact (bno (decide_eq_true (show (i : Int) < ((n + 1 : Nat) : Int) by omega)) ‹_›).elim
      all_goals try (exfalso; simp only [decide_eq_true_eq, decide_eq_false_iff_not, Bool.not_eq_true', Bool.not_eq_false', Bool.not_eq_true, Bool.not_eq_false, beq_iff_eq, bne_iff_ne, beq_eq_false_iff_ne, bne_eq_false_iff_eq, ne_eq, Decidable.not_not] at *; first | omega | contradiction | (simp_all; done) | (simp_all; omega))
      refine ⟨i + 1, hlt, show n + 1 - (i + 1) < n + 1 - i by omega, ?_⟩
      all_goals refine ⟨[], ?_⟩
      repeat (any_goals (first | exact True.intro | exact rfl | with_reducible_and_instances rfl | exact (by kernel_rfl) | refine And.intro ?_ ?_))
      all_goals conv => whnf
      · exact wk1 (by omega)
      · show iA (m.length + lackN m first s i : Nat) = iA (m.length + lackN m first s (i + 1) : Nat)
        rw [hsn]
  · have hie : i = n + 1 := by omega
    subst hie
    iterate 4
      repeat' (first | exact True.intro | ((first | refine And.intro (fun _ => ?_) tf | refine And.intro ft (fun _ => ?_) | refine And.intro (by kernel_rfl) ?_ | refine And.intro (by decide) ?_ | refine And.intro (fun _ => ?_) (fun h => absurd h (by decide)) | refine And.intro (fun h => absurd h (by decide)) (fun _ => ?_) | fail); conv => whnf) | (refine And.intro (fun _ => ?_) (fun _ => ?_) <;> conv => whnf) | fail)
      all_goals try (exfalso; simp only [decide_eq_true_eq, decide_eq_false_iff_not, Bool.not_eq_true', Bool.not_eq_false', Bool.not_eq_true, Bool.not_eq_false, beq_iff_eq, bne_iff_ne, beq_eq_false_iff_ne, bne_eq_false_iff_eq, ne_eq, Decidable.not_not] at *; first | omega | contradiction | (simp_all; done) | (simp_all; omega))
      all_goals try (refine Or.inl ?_; conv => whnf)
    all_goals refine ⟨[], ?_⟩
    repeat (any_goals (first | exact True.intro | exact rfl | with_reducible_and_instances rfl | exact (by kernel_rfl) | refine And.intro ?_ ?_))
    all_goals conv => whnf
end Go.Proofs.YtbjmdnemeidpjaaGreat
/- The shelf: Note. -/
namespace Go.Proofs.YtbjmdnemeidpjaaGreat
set_option linter.unusedSimpArgs false
set_option linter.unusedVariables false
open Go.RowKit
set_option maxRecDepth 100000
/-- The keys of the windows from first on. -/
def keysN (first : Int) (s : ByteArray) (n : Nat) : List KeyW := (List.range n).map fun (i : Nat) => (first + (i : Int), s)
def cellAt (m : Sh) (k : KeyW) : Cel := (findX m k).getD zC
def outR (x : KeyW × Cel) : List D := kyR x.1 ++ cR x.2
/-- All is laid. -/
def putAllX (l : List (KeyW × Cel)) (m : Sh) (c : Nat) : Sh × Nat := l.foldl (fun a x => (putX x.1 x.2 a.2 a.1, clkX x.1 a.1 a.2)) (m, c)
def notedL (m : Sh) (first : Int) (s : ByteArray) (b : Bool) (n : Nat) : List (KeyW × Cel) := (keysN first s n).map fun k => (k, (noteC (cellAt m k) b).1)
def noteOK (m : Sh) (first : Int) (s : ByteArray) (b : Bool) (n : Nat) : Bool := (keysN first s n).all fun k => decide ((noteC (cellAt m k) b).2 = 0)
def shNote (most : Int) (m : Sh) (c : Nat) (first last : Int) (s : ByteArray) : (Sh × Nat) × Int := if last < first then ((m, c), 10) else if shRoom most m first last s = false then ((m, c), 20) else
  if noteOK m first s (decide (first = last)) ((last - first).toNat + 1) then (putAllX (notedL m first s (decide (first = last)) ((last - first).toNat + 1)) m c, 0) else ((m, c), 12)
theorem keysN_succ (first : Int) (s : ByteArray) (n : Nat) : keysN first s (n + 1) = keysN first s n ++ [(first + (n : Int), s)] := by
  unfold keysN; rw [List.range_succ, List.map_append]; rfl
theorem notedL_succ (m : Sh) (first : Int) (s : ByteArray) (b : Bool) (n : Nat) : notedL m first s b (n + 1) = notedL m first s b n ++ [((first + (n : Int), s), (noteC (cellAt m (first + (n : Int), s)) b).1)] := by
  unfold notedL; rw [keysN_succ, List.map_append]; rfl
theorem noteOK_succ (m : Sh) (first : Int) (s : ByteArray) (b : Bool) (n : Nat) : noteOK m first s b (n + 1) = (noteOK m first s b n && decide ((noteC (cellAt m (first + (n : Int), s)) b).2 = 0)) := by
  unfold noteOK; rw [keysN_succ, List.all_append, List.all_cons, List.all_nil, Bool.and_true]
theorem noteOK_le {m : Sh} {first : Int} {s : ByteArray} {b : Bool} {i n : Nat} (h : noteOK m first s b n = true) (hi : i ≤ n) : noteOK m first s b i = true := by
  induction n with
  | zero => have : i = 0 := by omega
            subst this; exact h
  | succ n ih =>
    by_cases e : i = n + 1
    · subst e; exact h
    · rw [noteOK_succ, Bool.and_eq_true] at h
      exact ih h.1 (by omega)
theorem noteC_err {c : Cel} {b : Bool} (hr : RightC c) (h : (noteC c b).2 ≠ 0) : noteC c b = (zC, 12) := by
  by_cases q : (if b then c.ce else c.po) = big
  · unfold noteC; rw [if_neg (by rw [right_iff.2 hr]; simp), if_pos q]
  · rw [noteC_fine hr q] at h; exact absurd rfl h
theorem notedL_len (m : Sh) (first : Int) (s : ByteArray) (b : Bool) (n : Nat) : (notedL m first s b n).length = n := by simp [notedL, keysN]
theorem putAllX_succ {l : List (KeyW × Cel)} {m : Sh} {c k : Nat} {x : KeyW × Cel} (h : l[k]? = some x) : putAllX (l.take (k + 1)) m c = (putX x.1 x.2 (putAllX (l.take k) m c).2 (putAllX (l.take k) m c).1, clkX x.1 (putAllX (l.take k) m c).1 (putAllX (l.take k) m c).2) := by
  unfold putAllX
  exact fold_snoc' _ l k x _ h
theorem notedL_mem {m : Sh} {c : Nat} {first : Int} {s : ByteArray} {b : Bool} {n : Nat} (hm : ShOK m c) {x : KeyW × Cel} (h : x ∈ notedL m first s b n) : CelOK x.2 := by
  unfold notedL at h
  obtain ⟨k, _, rfl⟩ := List.mem_map.1 h
  exact noteC_okA (hm.at_ k).1
theorem bneB (a b : Int) : (a == b) = decide (a = b) := by rw [Bool.eq_iff_iff, beq_iff_eq, decide_eq_true_eq]
theorem outR_len {x : KeyW × Cel} (h : x.2.h.length = 65) : (outR x).length = 74 := by
  unfold outR; rw [List.length_append, cR_len h]; rfl
theorem out_key {x : KeyW × Cel} {k : Nat} (hk : k = 2) : ((outR x).drop (0 + 0)).take k = kyR x.1 := by subst hk; rfl
theorem out_cell {x : KeyW × Cel} {k : Nat} (hk : k = 72) (h : x.2.h.length = 65) : ((outR x).drop (0 + 2)).take k = cR x.2 := by
  show (cR x.2).take k = _
  exact List.take_of_length_le (by rw [cR_len h]; omega)
theorem zeO : List.map D.v (tiOf Tryz.prog 62).zero = outR ((0, ⟨#[]⟩), zC) := by kernel_rfl
theorem build_out {k : KeyW} {x : Cel} (h : x.h.length = 65) : sets (sets (List.map D.v (tiOf Tryz.prog 62).zero) 0 [iD k.1, .v (.string k.2)]) 2 (cR x) = outR (k, x) := by
  rw [zeO]
  show sets (kyR k ++ cR zC) 2 (cR x) = kyR k ++ cR x
  have hz : (cR zC).length = 72 := cR_len rfl
  rw [sets_eq _ _ _ (by rw [List.length_append, hz, cR_len h]; simp), List.drop_of_length_le (by rw [List.length_append, hz, cR_len h]; simp)]
  simp
theorem s62 : (tiOf Tryz.prog 24).size = 2 := by kernel_rfl
theorem out_take {x : KeyW × Cel} {k : Nat} (hk : k = 74) (h : x.2.h.length = 65) : (outR x).take k = outR x := List.take_of_length_le (by rw [outR_len h]; omega)
theorem out_lens {x : KeyW × Cel} {k : Nat} (hk : k = 74) (h : x.2.h.length = 65) : (outR x).length = k := by rw [outR_len h]; omega
theorem out_fit {x : KeyW × Cel} (h : x.2.h.length = 65) : 0 + (outR x).length ≤ (List.map D.v (tiOf Tryz.prog 62).zero).length := by rw [zeO, outR_len h, outR_len rfl]; omega
theorem out_set {x : KeyW × Cel} (h : x.2.h.length = 65) : sets (List.map D.v (tiOf Tryz.prog 62).zero) 0 (outR x) = outR x := by
  rw [zeO, sets_eq _ _ _ (by rw [outR_len h, outR_len rfl]; omega), List.drop_of_length_le (by rw [outR_len h, outR_len rfl]; omega)]
  simp
theorem s113 : (tiOf Tryz.prog 62).size = 74 := by kernel_rfl
set_option maxHeartbeats 16000000 in
theorem shNote_sat (most : Int) (m : Sh) (c : Nat) (first last : Int) (s : ByteArray) (hm : ShOK m c) (h1 : in64 first) (h2 : in64 last) (hmo : 1 ≤ most ∧ most ≤ 1024) (hlen : m.length ≤ 100000) :
    Sat Tryz.prog 18 [.ptr 0 0, iA first, iA last, .d (.v (.string s))] (shH most m c) (iA (shNote most m c first last s).2) (shH most (shNote most m c first last s).1.1 (shNote most m c first last s).1.2) := by
  have r1 := shRoom_sat most m c first last s hm h1 h2 hmo hlen
  by_cases g1 : last < first
  · have e : shNote most m c first last s = ((m, c), 10) := by unfold shNote; rw [if_pos g1]
    rw [e]
    refine sat_of_vc (T := tiOf Tryz.prog) (E := E0) Tryz.func18 rfl rfl hE0 hm0 rfl ?_
    conv => whnf
    iterate 3
      repeat' (first | exact True.intro | ((first | refine And.intro (fun _ => ?_) tf | refine And.intro ft (fun _ => ?_) | refine And.intro (by kernel_rfl) ?_ | refine And.intro (by decide) ?_ | refine And.intro (fun _ => ?_) (fun h => absurd h (by decide)) | refine And.intro (fun h => absurd h (by decide)) (fun _ => ?_) | fail); conv => whnf) | (refine And.intro (fun _ => ?_) (fun _ => ?_) <;> conv => whnf) | fail)
      all_goals try (exfalso; simp only [decide_eq_true_eq, decide_eq_false_iff_not, Bool.not_eq_true', Bool.not_eq_false', Bool.not_eq_true, Bool.not_eq_false, beq_iff_eq, bne_iff_ne, beq_eq_false_iff_ne, bne_eq_false_iff_eq, ne_eq, Decidable.not_not] at *; first | omega | contradiction | (simp_all; done) | (simp_all; omega))
      all_goals try (refine Or.inl ?_; conv => whnf)
    all_goals refine ⟨[], ?_⟩
    repeat (any_goals (first | exact True.intro | exact rfl | with_reducible_and_instances rfl | exact (by kernel_rfl) | refine And.intro ?_ ?_))
    all_goals conv => whnf
  by_cases g2 : shRoom most m first last s = true
  case neg =>
    have g2 : shRoom most m first last s = false := by simpa using g2
    have e : shNote most m c first last s = ((m, c), 20) := by unfold shNote; rw [if_neg g1, if_pos g2]
    rw [e]
    rw [g2] at r1
    refine sat_of_vc (T := tiOf Tryz.prog) (E := E0) Tryz.func18 rfl rfl hE0 hm0 rfl ?_
    conv => whnf
    iterate 3
      repeat' (first | exact True.intro | ((first | refine And.intro (fun _ => ?_) tf | refine And.intro ft (fun _ => ?_) | refine And.intro (by kernel_rfl) ?_ | refine And.intro (by decide) ?_ | refine And.intro (fun _ => ?_) (fun h => absurd h (by decide)) | refine And.intro (fun h => absurd h (by decide)) (fun _ => ?_) | refine ⟨_, _, r1.at2 0 1 rfl rfl rfl rfl rfl, ?_⟩ | fail); conv => whnf) | (refine And.intro (fun _ => ?_) (fun _ => ?_) <;> conv => whnf) | fail)
      all_goals try (refine Or.inl ?_; conv => whnf)
    all_goals try exact (bno ‹decide (first > last) = true› (decide_eq_false (show ¬ first > last by omega))).elim
    all_goals refine ⟨[], ?_⟩
    repeat (any_goals (first | exact True.intro | exact rfl | with_reducible_and_instances rfl | exact (by kernel_rfl) | refine And.intro ?_ ?_))
    all_goals conv => whnf
  have g3 : last - first < most := by
    unfold shRoom at g2
    rw [if_neg g1] at g2
    by_cases q : most ≤ last - first
    · rw [if_pos q] at g2; exact Bool.noConfusion g2
    · omega
  obtain ⟨n, hn⟩ : ∃ n : Nat, last - first = n := ⟨(last - first).toNat, by omega⟩
  have e : shNote most m c first last s = if noteOK m first s (decide (first = last)) (n + 1) then (putAllX (notedL m first s (decide (first = last)) (n + 1)) m c, 0) else ((m, c), 12) := by
    unfold shNote
    rw [if_neg g1, if_neg (by rw [g2]; simp), hn]; rfl
  rw [e]
  rw [g2] at r1
  rw [← bneB first last]
  clear e
  refine sat_of_vc (T := tiOf Tryz.prog) (E := E0) Tryz.func18 rfl rfl hE0 hm0 rfl ?_
  conv => whnf
  iterate 3
    repeat' (first | exact True.intro | ((first | refine And.intro (fun _ => ?_) tf | refine And.intro ft (fun _ => ?_) | refine And.intro (by kernel_rfl) ?_ | refine And.intro (by decide) ?_ | refine And.intro (fun _ => ?_) (fun h => absurd h (by decide)) | refine And.intro (fun h => absurd h (by decide)) (fun _ => ?_) | refine ⟨_, _, r1.at2 0 1 rfl rfl rfl rfl rfl, ?_⟩ | fail); conv => whnf) | (refine And.intro (fun _ => ?_) (fun _ => ?_) <;> conv => whnf) | fail)
    all_goals try (refine Or.inl ?_; conv => whnf)
  all_goals try exact (bno ‹decide (first > last) = true› (decide_eq_false (show ¬ first > last by omega))).elim
  all_goals try (exfalso; simp only [decide_eq_true_eq, decide_eq_false_iff_not, Bool.not_eq_true', Bool.not_eq_false', Bool.not_eq_true, Bool.not_eq_false, beq_iff_eq, bne_iff_ne, beq_eq_false_iff_ne, bne_eq_false_iff_eq, ne_eq, Decidable.not_not] at *; first | omega | contradiction | (simp_all; done) | (simp_all; omega))
  have wn : IntKind.i64.wrap (IntKind.i64.wrap (last - first) + 1) = ((n + 1 : Nat) : Int) := by
    rw [hn, wi (n := (n : Int)) (by omega) (by omega), wi (by omega) (by omega)]; rfl
  refine ⟨Nat, fun i => i ≤ n + 1 ∧ noteOK m first s (first == last) i = true, fun i => ([(29, iA i), (28, iA (n + 1 : Nat)), (9, .own 2), (0, .ptr 0 0), (1, iA first), (2, iA last), (3, .d (.v (.string s)))], [.cells [iA most, .mp 1], shO m c, .sl 74 ((notedL m first s (first == last) i).map outR)]), fun i => n + 1 - i, ⟨0, ⟨Nat.zero_le _, rfl⟩, ?_⟩, ?_⟩
  · all_goals refine ⟨[], ?_⟩
    repeat (any_goals (first | exact True.intro | exact rfl | with_reducible_and_instances rfl | exact (by kernel_rfl) | refine And.intro ?_ ?_))
    all_goals conv => whnf
    show iA (IntKind.i64.wrap (IntKind.i64.wrap (last - first) + 1)) = iA (n + 1 : Nat)
    rw [wn]
  rintro i ⟨hi, hok⟩
  have hi : i ≤ n + 1 := hi
  have hsn := notedL_succ m first s (first == last) i
  have hos := noteOK_succ m first s (first == last) i
  have hll : ((notedL m first s (first == last) i).map outR).length = i := by rw [List.length_map, notedL_len]
  conv => whnf
  by_cases hlt : i < n + 1
  · have wf : IntKind.i64.wrap (first + (i : Int)) = first + i := wi (by unfold in64 at h1; omega) (by unfold in64 at h2; omega)
    rw [← wf] at hsn hos
    obtain ⟨k1, k2⟩ := hm.at_ (IntKind.i64.wrap (first + (i : Int)), s)
    have n1 := note_sat (cellAt m (IntKind.i64.wrap (first + (i : Int)), s)) (first == last) k1 (right_sat_c _ k1)
    have la := k1.hl
    have ln := (noteC_okA (c := cellAt m (IntKind.i64.wrap (first + (i : Int)), s)) (b := (first == last)) k1).hl
    have hbo := build_out (k := (IntKind.i64.wrap (first + (i : Int)), s)) ln
    have hne := fun h => noteC_err (c := cellAt m (IntKind.i64.wrap (first + (i : Int)), s)) (b := (first == last)) k2 h
    rw [hok, Bool.true_and] at hos
    have hol := outR_len (x := ((IntKind.i64.wrap (first + (i : Int)), s), (noteC (cellAt m (IntKind.i64.wrap (first + (i : Int)), s)) (first == last)).1)) ln
    generalize (noteC (cellAt m (IntKind.i64.wrap (first + (i : Int)), s)) (first == last)) = NE at *
    iterate 6
      repeat' (first | exact True.intro | ((first | refine ⟨_, hbo, ?_⟩ | refine And.intro hol ?_ | refine ⟨_, drop_id, ?_⟩ | refine ⟨_, _, at_n, ?_⟩ | refine ⟨_, _, at_hi, ?_⟩ | refine ⟨_, _, at_lo, ?_⟩ | refine ⟨_, _, at_mn, ?_⟩ | refine ⟨_, _, at_mx, ?_⟩ | refine ⟨_, _, at_ce, ?_⟩ | refine ⟨_, _, at_po, ?_⟩ | refine ⟨_, whole_z sC, clenz sC, ?_⟩ | refine ⟨_, setzC, ?_⟩ | refine And.intro (clenz sC) ?_ | refine And.intro fitzC ?_ | refine ⟨_, whole_cell sC la, clen sC la, ?_⟩ | refine And.intro (clen sC la) ?_ | refine And.intro (fitC la) ?_ | refine ⟨_, setC la, ?_⟩ | refine ⟨_, whole_cell sC ln, clen sC ln, ?_⟩ | refine And.intro (clen sC ln) ?_ | refine And.intro (fitC ln) ?_ | refine ⟨_, setC ln, ?_⟩ | refine ⟨_, whole_z sF, clenz sF, ?_⟩ | refine ⟨_, setzF, ?_⟩ | refine And.intro (clenz sF) ?_ | refine And.intro fitzF ?_ | refine ⟨_, whole_cell sF la, clen sF la, ?_⟩ | refine And.intro (clen sF la) ?_ | refine And.intro (fitF la) ?_ | refine ⟨_, setF la, ?_⟩ | refine ⟨_, whole_cell sF ln, clen sF ln, ?_⟩ | refine And.intro (clen sF ln) ?_ | refine And.intro (fitF ln) ?_ | refine ⟨_, setF ln, ?_⟩ | refine And.intro (fit1 la (by decide)) ?_ | refine And.intro (fit1 ln (by decide)) ?_ | refine And.intro (fit1 rfl (by decide)) ?_ | refine ⟨_, sum_cell s25, rfl, ?_⟩ | refine ⟨_, set_n _, ?_⟩ | refine ⟨_, set_mn _, ?_⟩ | refine ⟨_, set_mx _, ?_⟩ | refine ⟨_, set_ce _, ?_⟩ | refine ⟨_, set_po _, ?_⟩ | refine ⟨_, set_s _, ?_⟩ | refine ⟨_, set_hi _, ?_⟩ | refine ⟨_, set_lo _, ?_⟩ | refine And.intro (fun _ => ?_) tf | refine And.intro ft (fun _ => ?_) | refine And.intro (by kernel_rfl) ?_ | refine And.intro (by decide) ?_ | refine And.intro (fun _ => ?_) (fun h => absurd h (by decide)) | refine And.intro (fun h => absurd h (by decide)) (fun _ => ?_) | refine ⟨_, _, sh_look (k := (IntKind.i64.wrap (first + (i : Int)), s)) rfl, ?_⟩ | refine ⟨_, _, n1.pu rfl rfl, ?_⟩ | refine ⟨_, _, ap 74 600 (by kernel_rfl) rfl rfl (by simp [hll]; omega), ?_⟩ | fail); conv => whnf) | (refine And.intro (fun _ => ?_) (fun _ => ?_) <;> conv => whnf) | fail)
      all_goals try (refine Or.inl ?_; conv => whnf)
    all_goals try exact (bno (decide_eq_true (show (i : Int) < ((n + 1 : Nat) : Int) by omega)) ‹_›).elim
    · have he : NE.2 ≠ 0 := by have := ‹(NE.2 != 0) = true›; simpa using this
      have hf : noteOK m first s (first == last) (n + 1) = false := by
        rw [← Bool.not_eq_true]
        intro q
        have := noteOK_le q (show i + 1 ≤ n + 1 by omega)
        rw [hos] at this
        exact he (of_decide_eq_true this)
      rw [hne he, hf]
      all_goals refine ⟨[], ?_⟩
      repeat (any_goals (first | exact True.intro | exact rfl | with_reducible_and_instances rfl | exact (by kernel_rfl) | refine And.intro ?_ ?_))
      all_goals conv => whnf
    · have he : NE.2 = 0 := by have := ‹(NE.2 != 0) = false›; simpa using this
      refine ⟨i + 1, ⟨hlt, by rw [hos, decide_eq_true he]⟩, show n + 1 - (i + 1) < n + 1 - i by omega, ?_⟩
      all_goals refine ⟨[(2, 6)], ?_⟩
      repeat (any_goals (first | exact True.intro | exact rfl | with_reducible_and_instances rfl | exact (by kernel_rfl) | refine And.intro ?_ ?_))
      all_goals conv => whnf
      · exact wk1 (by omega)
      · show AObj.sl 74 ((notedL m first s (first == last) i).map outR ++ [outR ((IntKind.i64.wrap (first + (i : Int)), s), NE.1)]) = .sl 74 ((notedL m first s (first == last) (i + 1)).map outR)
        rw [hsn, List.map_append]; rfl
  have hie : i = n + 1 := by omega
  subst hie
  rw [hok]
  have hmem : ∀ x ∈ notedL m first s (first == last) (n + 1), CelOK x.2 := fun x hx => notedL_mem hm hx
  have hNl := notedL_len m first s (first == last) (n + 1)
  generalize notedL m first s (first == last) (n + 1) = N at *
  clear hsn hos
  have hgo : (if true = true then (putAllX N m c, (0 : Int)) else ((m, c), 12)) = (putAllX N m c, 0) := rfl
  rw [hgo]
  iterate 3
    repeat' (first | exact True.intro | ((first | refine And.intro (fun _ => ?_) tf | refine And.intro ft (fun _ => ?_) | refine And.intro (by kernel_rfl) ?_ | refine And.intro (by decide) ?_ | refine And.intro (fun _ => ?_) (fun h => absurd h (by decide)) | refine And.intro (fun h => absurd h (by decide)) (fun _ => ?_) | fail); conv => whnf) | (refine And.intro (fun _ => ?_) (fun _ => ?_) <;> conv => whnf) | fail)
    all_goals try (refine Or.inl ?_; conv => whnf)
  all_goals try exact (bno ‹_› (decide_eq_false (show ¬ ((n + 1 : Nat) : Int) < ((n + 1 : Nat) : Int) by omega))).elim
  refine ⟨Nat × Sh × Nat, fun y => y.1 ≤ n + 1 ∧ y.2 = putAllX (N.take y.1) m c, fun y => ([(62, iA y.1), (61, iA (n + 1 : Nat)), (60, .own 2), (0, .ptr 0 0)], [.cells [iA most, .mp 1], shO y.2.1 y.2.2, .sl 74 (N.map outR)]), fun y => n + 1 - y.1, ⟨(0, m, c), ⟨Nat.zero_le _, rfl⟩, ?_⟩, ?_⟩
  · all_goals refine ⟨[], ?_⟩
    repeat (any_goals (first | exact True.intro | exact rfl | with_reducible_and_instances rfl | exact (by kernel_rfl) | refine And.intro ?_ ?_))
    all_goals conv => whnf
    show iA ((N.map outR).length : Nat) = iA (n + 1 : Nat)
    rw [List.length_map, hNl]
  rintro ⟨k, m', c'⟩ ⟨hk, hy⟩
  have hk : k ≤ n + 1 := hk
  have hy : (m', c') = putAllX (N.take k) m c := hy
  conv => whnf
  by_cases hlt : k < n + 1
  · have hkN : k < N.length := by rw [hNl]; exact hlt
    have hx : N[k]? = some N[k] := List.getElem?_eq_getElem hkN
    have hc := hmem _ (List.getElem_mem hkN)
    generalize N[k] = x at hx hc
    have hxl := hc.hl
    have hol := outR_len hxl
    have hps := putAllX_succ (m := m) (c := c) hx
    rw [← hy] at hps
    have hg := map_get (f := outR) hx
    iterate 6
      repeat' (first | exact True.intro | ((first | refine ⟨k, rfl, show k < (N.map outR).length by rw [List.length_map]; omega, ?_⟩ | refine ⟨outR x, hg, ?_⟩ | refine ⟨_, out_take s113 hxl, out_lens s113 hxl, ?_⟩ | refine And.intro (out_lens s113 hxl) ?_ | refine And.intro (out_fit hxl) ?_ | refine ⟨_, out_set hxl, ?_⟩ | refine ⟨_, out_key s62, rfl, ?_⟩ | refine ⟨_, out_cell sC hxl, clen sC hxl, ?_⟩ | refine ⟨_, drop_id, ?_⟩ | refine ⟨_, _, at_n, ?_⟩ | refine ⟨_, _, at_hi, ?_⟩ | refine ⟨_, _, at_lo, ?_⟩ | refine ⟨_, _, at_mn, ?_⟩ | refine ⟨_, _, at_mx, ?_⟩ | refine ⟨_, _, at_ce, ?_⟩ | refine ⟨_, _, at_po, ?_⟩ | refine ⟨_, whole_z sC, clenz sC, ?_⟩ | refine ⟨_, setzC, ?_⟩ | refine And.intro (clenz sC) ?_ | refine And.intro fitzC ?_ | refine ⟨_, whole_cell sC hxl, clen sC hxl, ?_⟩ | refine And.intro (clen sC hxl) ?_ | refine And.intro (fitC hxl) ?_ | refine ⟨_, setC hxl, ?_⟩ | refine ⟨_, whole_z sF, clenz sF, ?_⟩ | refine ⟨_, setzF, ?_⟩ | refine And.intro (clenz sF) ?_ | refine And.intro fitzF ?_ | refine ⟨_, whole_cell sF hxl, clen sF hxl, ?_⟩ | refine And.intro (clen sF hxl) ?_ | refine And.intro (fitF hxl) ?_ | refine ⟨_, setF hxl, ?_⟩ | refine And.intro (fit1 hxl (by decide)) ?_ | refine And.intro (fit1 rfl (by decide)) ?_ | refine ⟨_, sum_cell s25, rfl, ?_⟩ | refine ⟨_, set_n _, ?_⟩ | refine ⟨_, set_mn _, ?_⟩ | refine ⟨_, set_mx _, ?_⟩ | refine ⟨_, set_ce _, ?_⟩ | refine ⟨_, set_po _, ?_⟩ | refine ⟨_, set_s _, ?_⟩ | refine ⟨_, set_hi _, ?_⟩ | refine ⟨_, set_lo _, ?_⟩ | refine And.intro (fun _ => ?_) tf | refine And.intro ft (fun _ => ?_) | refine And.intro (by kernel_rfl) ?_ | refine And.intro (by decide) ?_ | refine And.intro (fun _ => ?_) (fun h => absurd h (by decide)) | refine And.intro (fun h => absurd h (by decide)) (fun _ => ?_) | refine ⟨_, _, sh_put x.2 rfl, ?_⟩ | fail); conv => whnf) | (refine And.intro (fun _ => ?_) (fun _ => ?_) <;> conv => whnf) | fail)
      all_goals try (refine Or.inl ?_; conv => whnf)
    all_goals try exact (bno (decide_eq_true (show (k : Int) < ((n + 1 : Nat) : Int) by omega)) ‹_›).elim
    refine ⟨(k + 1, putX x.1 x.2 c' m', clkX x.1 m' c'), ⟨hlt, hps.symm⟩, show n + 1 - (k + 1) < n + 1 - k by omega, ?_⟩
    all_goals refine ⟨[], ?_⟩
    repeat (any_goals (first | exact True.intro | exact rfl | with_reducible_and_instances rfl | exact (by kernel_rfl) | refine And.intro ?_ ?_))
    all_goals conv => whnf
    exact wk1 (by omega)
  · have hke : k = n + 1 := by omega
    subst hke
    rw [List.take_of_length_le (by omega)] at hy
    rw [← hy]
    iterate 4
      repeat' (first | exact True.intro | ((first | refine And.intro (fun _ => ?_) tf | refine And.intro ft (fun _ => ?_) | refine And.intro (by kernel_rfl) ?_ | refine And.intro (by decide) ?_ | refine And.intro (fun _ => ?_) (fun h => absurd h (by decide)) | refine And.intro (fun h => absurd h (by decide)) (fun _ => ?_) | fail); conv => whnf) | (refine And.intro (fun _ => ?_) (fun _ => ?_) <;> conv => whnf) | fail)
      all_goals try (refine Or.inl ?_; conv => whnf)
    all_goals try exact (bno ‹_› (decide_eq_false (show ¬ ((n + 1 : Nat) : Int) < ((n + 1 : Nat) : Int) by omega))).elim
    all_goals refine ⟨[], ?_⟩
    repeat (any_goals (first | exact True.intro | exact rfl | with_reducible_and_instances rfl | exact (by kernel_rfl) | refine And.intro ?_ ?_))
    all_goals conv => whnf
end Go.Proofs.YtbjmdnemeidpjaaGreat
/- Maps whose entries bear numbers of their own, in plain Lean. No program is named here. -/
namespace Go.Proofs.YtbjmdnemeidpjaaGreat
set_option linter.unusedSimpArgs false
set_option linter.unusedVariables false
set_option linter.unusedSectionVars false
open Go.RowKit
set_option maxRecDepth 100000
section
variable {κ ν : Type} [DecidableEq κ]
structure Fr (m : Es κ ν) (c : Nat) : Prop where
  nd : (m.map (·.2.2)).Nodup
  lt : ∀ p ∈ m, p.2.2 < c
  ks : (m.map (·.1)).Nodup
theorem Fr.nil : Fr ([] : Es κ ν) 0 := ⟨List.nodup_nil, fun p h => (by cases h), List.nodup_nil⟩
theorem Fr.find {m : Es κ ν} {c : Nat} (h : Fr m c) {p : κ × ν × Nat} (hp : p ∈ m) : (m.find? fun q => q.2.2 == p.2.2) = some p := by
  have hn := h.nd
  clear h
  induction m with
  | nil => simp at hp
  | cons q m ih =>
    rw [List.map_cons, List.nodup_cons] at hn
    rw [List.find?_cons]
    rcases List.mem_cons.1 hp with e | e
    · subst e; simp
    · have : (q.2.2 == p.2.2) = false := by
        rw [beq_eq_false_iff_ne]
        intro e2
        exact hn.1 (by rw [e2]; exact List.mem_map.2 ⟨p, e, rfl⟩)
      rw [this]
      exact ih e hn.2
theorem hasX_iff {m : Es κ ν} {k : κ} : hasX m k = true ↔ k ∈ m.map (·.1) := by
  unfold hasX findX
  rw [Option.isSome_map, List.find?_isSome]
  simp only [decide_eq_true_eq, List.mem_map]
theorem putX_new {m : Es κ ν} {k : κ} {v : ν} {c : Nat} (h : k ∉ m.map (·.1)) : putX k v c m = m ++ [(k, v, c)] := by
  induction m with
  | nil => rfl
  | cons p m ih =>
    rw [List.map_cons, List.mem_cons, not_or] at h
    show (if p.1 = k then _ else p :: putX k v c m) = _
    rw [if_neg (fun e => h.1 e.symm), ih h.2]; rfl
theorem putX_keys {m : Es κ ν} {k : κ} {v : ν} {c : Nat} (h : k ∈ m.map (·.1)) : (putX k v c m).map (·.1) = m.map (·.1) ∧ (putX k v c m).map (·.2.2) = m.map (·.2.2) := by
  induction m with
  | nil => cases h
  | cons p m ih =>
    by_cases e : p.1 = k
    · have : putX k v c (p :: m) = (k, v, p.2.2) :: m := if_pos e
      rw [this]; simp [e]
    · have : putX k v c (p :: m) = p :: putX k v c m := if_neg e
      rw [this]
      have := ih (by rcases List.mem_cons.1 h with q | q; exact absurd q.symm e; exact q)
      simp [this.1, this.2]
theorem Fr.put {m : Es κ ν} {c : Nat} (h : Fr m c) (k : κ) (v : ν) : Fr (putX k v c m) (clkX k m c) ∧ ∀ x, x ∈ (putX k v c m).map (·.1) ↔ x = k ∨ x ∈ m.map (·.1) := by
  by_cases hk : k ∈ m.map (·.1)
  · obtain ⟨e1, e2⟩ := putX_keys (v := v) (c := c) hk
    have hc : clkX k m c = c := if_pos (hasX_iff.2 hk)
    rw [hc]
    refine ⟨⟨by rw [e2]; exact h.nd, fun p hp => ?_, by rw [e1]; exact h.ks⟩, fun x => ?_⟩
    · have : p.2.2 ∈ (putX k v c m).map (·.2.2) := List.mem_map.2 ⟨p, hp, rfl⟩
      rw [e2] at this
      obtain ⟨q, hq, e⟩ := List.mem_map.1 this
      rw [← e]; exact h.lt q hq
    · rw [e1]
      exact ⟨.inr, fun q => q.elim (fun e => by rw [e]; exact hk) id⟩
  · have e := putX_new (v := v) (c := c) hk
    have hc : clkX k m c = c + 1 := if_neg (fun q => hk (hasX_iff.1 q))
    rw [hc, e]
    refine ⟨⟨?_, fun p hp => ?_, ?_⟩, fun x => ?_⟩
    · rw [List.map_append, List.nodup_append]
      refine ⟨h.nd, by simp, fun x hx y hy exy => ?_⟩
      simp at hy; subst hy exy
      obtain ⟨p, hp, hpe⟩ := List.mem_map.1 hx
      have := h.lt p hp; omega
    · rcases List.mem_append.1 hp with hp | hp
      · have := h.lt p hp; omega
      · rw [List.mem_singleton.1 hp]; exact Nat.lt_succ_self _
    · rw [List.map_append, List.nodup_append]
      refine ⟨h.ks, by simp, fun x hx y hy exy => ?_⟩
      simp at hy; subst hy exy
      exact hk hx
    · rw [List.map_append, List.mem_append]
      simp [or_comm]
end
end Go.Proofs.YtbjmdnemeidpjaaGreat
/- The shelf: what its map keeps. -/
namespace Go.Proofs.YtbjmdnemeidpjaaGreat
set_option linter.unusedSimpArgs false
set_option linter.unusedVariables false
open Go.RowKit
set_option maxRecDepth 100000
/-- What holds of a shelf's map, always. -/
structure ShI (m : Sh) (c : Nat) : Prop where
  ok : ShOK m c
  fr : Fr m c
theorem putX_mem {m : Sh} {k : KeyW} {x : Cel} {c : Nat} {p : KeyW × Cel × Nat} (h : p ∈ putX k x c m) : p ∈ m ∨ p.2.1 = x := by
  induction m with
  | nil => exact .inr (by rw [List.mem_singleton.1 h])
  | cons q m ih =>
    unfold putX at h
    by_cases e : q.1 = k
    · rw [if_pos e] at h
      rcases List.mem_cons.1 h with h | h
      · exact .inr (by rw [h])
      · exact .inl (List.mem_cons_of_mem _ h)
    · rw [if_neg e] at h
      rcases List.mem_cons.1 h with h | h
      · exact .inl (by rw [h]; exact List.mem_cons_self ..)
      · rcases ih h with h | h
        · exact .inl (List.mem_cons_of_mem _ h)
        · exact .inr h
theorem ShI.put {m : Sh} {c : Nat} (h : ShI m c) (k : KeyW) {x : Cel} (h1 : CelOK x) (h2 : RightC x) : ShI (putX k x c m) (clkX k m c) :=
  ⟨⟨fun p hp => (putX_mem hp).elim (h.ok.ok p) (fun e => by rw [e]; exact h1), fun p hp => (putX_mem hp).elim (h.ok.right p) (fun e => by rw [e]; exact h2)⟩, (h.fr.put k x).1⟩
theorem addC_rightA {c : Cel} {v : Int} (hc : CelOK c) (hr : RightC c) (hv : in64 v) (he : (addC c v).2 = 0) : RightC (addC c v).1 := by
  by_cases hn : c.n = big
  · have e : addC c v = (zC, 12) := by unfold addC; rw [if_neg (by rw [right_iff.2 hr]; simp), if_pos hn]
    rw [e] at he; exact absurd he (by decide)
  · by_cases hs : in128 (c.s + v)
    · exact addC_right hc hr hv hn hs
    · have e : addC c v = (zC, 12) := by unfold addC; rw [if_neg (by rw [right_iff.2 hr]; simp), if_neg hn, if_pos hs]
      rw [e] at he; exact absurd he (by decide)
theorem ShI.count {m : Sh} {c : Nat} (h : ShI m c) (k : KeyW) {v : Int} (hv : in64 v) : ShI (shCount m c k v).1.1 (shCount m c k v).1.2 := by
  unfold shCount
  cases hf : findX m k with
  | none => exact h
  | some x =>
    obtain ⟨h1, h2⟩ := h.ok.find hf
    show ShI (if (addC x v).2 = 0 then _ else _ : (Sh × Nat) × Int).1.1 (if (addC x v).2 = 0 then _ else _ : (Sh × Nat) × Int).1.2
    by_cases he : (addC x v).2 = 0
    · rw [if_pos he]
      exact h.put k (addC_okA h1 hv) (addC_rightA h1 h2 hv he)
    · rw [if_neg he]; exact h
theorem ShI.set {most : Int} {m : Sh} {c : Nat} (h : ShI m c) (k : KeyW) {x : Cel} (hx : CelOK x) : ShI (shSet most m c k x).1.1 (shSet most m c k x).1.2 := by
  unfold shSet
  by_cases h1 : (findX m k).isSome
  · rw [if_pos h1]; exact h
  · rw [if_neg h1]
    by_cases h2 : rightC x = false
    · rw [if_pos h2]; exact h
    · rw [if_neg h2]
      by_cases h3 : most ≤ m.length
      · rw [if_pos h3]; exact h
      · rw [if_neg h3]; exact h.put k hx (right_iff.1 (by simpa using h2))
theorem ShI.all {l : List (KeyW × Cel)} (hl : ∀ x ∈ l, CelOK x.2 ∧ RightC x.2) {m : Sh} {c : Nat} (h : ShI m c) : ShI (putAllX l m c).1 (putAllX l m c).2 := by
  induction l generalizing m c with
  | nil => exact h
  | cons x l ih =>
    have hx := hl x (List.mem_cons_self ..)
    exact ih (fun y hy => hl y (List.mem_cons_of_mem _ hy)) (h.put x.1 hx.1 hx.2)
theorem noteC_rightA {c : Cel} {b : Bool} (hr : RightC c) : RightC (noteC c b).1 := by
  by_cases q : (if b then c.ce else c.po) = big
  · have e : noteC c b = (zC, 12) := by unfold noteC; rw [if_neg (by rw [right_iff.2 hr]; simp), if_pos q]
    rw [e]; exact right_iff.1 rightC_zC
  · exact noteC_right hr q
theorem ShI.note {most : Int} {m : Sh} {c : Nat} (h : ShI m c) (first last : Int) (s : ByteArray) : ShI (shNote most m c first last s).1.1 (shNote most m c first last s).1.2 := by
  unfold shNote
  by_cases h1 : last < first
  · rw [if_pos h1]; exact h
  · rw [if_neg h1]
    by_cases h2 : shRoom most m first last s = false
    · rw [if_pos h2]; exact h
    · rw [if_neg h2]
      by_cases h3 : noteOK m first s (decide (first = last)) ((last - first).toNat + 1) = true
      · rw [if_pos h3]
        refine ShI.all (fun x hx => ?_) h
        refine ⟨notedL_mem h.ok hx, ?_⟩
        unfold notedL at hx
        obtain ⟨k, _, rfl⟩ := List.mem_map.1 hx
        exact noteC_rightA (h.ok.at_ k).2
      · rw [if_neg h3]; exact h
end Go.Proofs.YtbjmdnemeidpjaaGreat
/- The shelf's tallies, in plain Lean: what a shelf holds behind events that were noted and counted. -/
namespace Go.Proofs.YtbjmdnemeidpjaaGreat
set_option linter.unusedSimpArgs false
set_option linter.unusedVariables false
open Go.RowKit
set_option maxRecDepth 100000
section
variable {κ ν : Type} [DecidableEq κ]
theorem findX_put {m : Es κ ν} {k : κ} {v : ν} {c : Nat} (k' : κ) : findX (putX k v c m) k' = if k' = k then some v else findX m k' := by
  induction m with
  | nil =>
    show findX [(k, v, c)] k' = _
    unfold findX
    by_cases e : k' = k
    · rw [if_pos e, List.find?_cons_of_pos (by simpa using e.symm)]; rfl
    · rw [if_neg e, List.find?_cons_of_neg (by simpa using fun q => e q.symm)]
  | cons p m ih =>
    by_cases h : p.1 = k
    · have : putX k v c (p :: m) = (k, v, p.2.2) :: m := if_pos h
      rw [this]
      unfold findX
      by_cases e : k' = k
      · rw [if_pos e, List.find?_cons_of_pos (by simpa using e.symm)]; rfl
      · rw [if_neg e, List.find?_cons_of_neg (by simpa using fun q => e q.symm), List.find?_cons_of_neg (by rw [h]; simpa using fun q => e q.symm)]
    · have : putX k v c (p :: m) = p :: putX k v c m := if_neg h
      rw [this]
      unfold findX at ih ⊢
      by_cases e : p.1 = k'
      · rw [List.find?_cons_of_pos (by simpa using e), List.find?_cons_of_pos (by simpa using e)]
        rw [if_neg (fun q => h (e.trans q))]
      · rw [List.find?_cons_of_neg (by simpa using e), List.find?_cons_of_neg (by simpa using e)]
        exact ih
theorem putX_length {m : Es κ ν} {k : κ} {v : ν} {c : Nat} : (putX k v c m).length = m.length + if (findX m k).isSome then 0 else 1 := by
  by_cases h : k ∈ m.map (·.1)
  · rw [if_pos (show (findX m k).isSome = true from hasX_iff.2 h)]
    have := congrArg List.length (putX_keys (v := v) (c := c) h).1
    simpa using this
  · rw [putX_new h, if_neg (show ¬ (findX m k).isSome = true from fun q => h (hasX_iff.1 q))]
    simp
theorem delX_length {m : Es κ ν} {k : κ} (h : (findX m k).isSome) : (delX k m).length + 1 = m.length := by
  induction m with
  | nil => simp [findX] at h
  | cons p m ih =>
    by_cases e : p.1 = k
    · have : delX k (p :: m) = m := if_pos e
      rw [this]; rfl
    · have : delX k (p :: m) = p :: delX k m := if_neg e
      rw [this, List.length_cons, List.length_cons]
      unfold findX at h ih
      rw [List.find?_cons_of_neg (by simpa using e)] at h
      rw [ih h]
end
theorem putAllX_len {l : List (KeyW × Cel)} : ∀ {m : Sh} {c : Nat}, (putAllX l m c).1.length ≤ m.length + l.length := by
  induction l with
  | nil => intro m c; exact Nat.le_refl _
  | cons x l ih =>
    intro m c
    have : putAllX (x :: l) m c = putAllX l (putX x.1 x.2 c m) (clkX x.1 m c) := rfl
    rw [this]
    have := @ih (putX x.1 x.2 c m) (clkX x.1 m c)
    have h := putX_length (m := m) (k := x.1) (v := x.2) (c := c)
    rw [List.length_cons]
    split at h <;> omega
/-! ### events -/
structure Ev where
  first : Int
  n : Nat
  at_ : Nat
  name : ByteArray
  v : Int
def Ev.hit (x : Ev) (k : KeyW) : Bool := decide (x.name = k.2 ∧ x.first ≤ k.1 ∧ k.1 ≤ x.first + x.n)
def Ev.in_ (x : Ev) (k : KeyW) : Bool := x.hit k && decide (k.1 = x.first + x.at_)
def hitsN (l : List Ev) (k : KeyW) (b : Bool) : Nat := l.countP fun x => x.hit k && (decide (x.n = 0) == b)
def valsN (l : List Ev) (k : KeyW) : List Int := (l.filter fun x => x.in_ k).map (·.v)
def withT (l : List Int) (ce po : Int) : Cel := ⟨l.length, l.sum, mmin l, mmax l, ce, po, histL l⟩
def cellOf (l : List Ev) (k : KeyW) : Cel := withT (valsN l k) (hitsN l k true) (hitsN l k false)
structure Ev.OK (x : Ev) : Prop where
  lo : -1099511627776 ≤ x.first
  hi : x.first ≤ 1099511627776
  n : x.n ≤ 7
  at_ : x.at_ ≤ x.n
  v : in64 x.v
theorem valsN_none {l : List Ev} {k : KeyW} (h : hitsN l k true + hitsN l k false = 0) : valsN l k = [] := by
  unfold valsN
  rw [List.map_eq_nil_iff, List.filter_eq_nil_iff]
  intro x hx q
  unfold Ev.in_ at q
  rw [Bool.and_eq_true] at q
  have h1 : hitsN l k true = 0 := by omega
  have h2 : hitsN l k false = 0 := by omega
  unfold hitsN at h1 h2
  rw [List.countP_eq_zero] at h1 h2
  have a := h1 x hx
  have b := h2 x hx
  rw [q.1] at a b
  cases hd : decide (x.n = 0) <;> simp [hd] at a b
theorem cellOf_none {l : List Ev} {k : KeyW} (h : hitsN l k true + hitsN l k false = 0) : cellOf l k = zC := by
  unfold cellOf
  rw [valsN_none h, show hitsN l k true = 0 by omega, show hitsN l k false = 0 by omega]
  decide +kernel
/-- What a shelf holds behind events. -/
structure TalI (l : List Ev) (m : Sh) (c : Nat) : Prop where
  i : ShI m c
  len : m.length ≤ 8 * l.length
  at_ : ∀ k, findX m k = if hitsN l k true + hitsN l k false = 0 then none else some (cellOf l k)
theorem TalI.cell {l : List Ev} {m : Sh} {c : Nat} (h : TalI l m c) (k : KeyW) : cellAt m k = cellOf l k := by
  unfold cellAt
  rw [h.at_ k]
  split
  · rename_i e; rw [cellOf_none e]; rfl
  · rfl
theorem TalI.nil : TalI [] [] 0 := ⟨⟨⟨fun p h => (by cases h), fun p h => (by cases h)⟩, Fr.nil⟩, Nat.le_refl _, fun k => rfl⟩
theorem TalI.take {l : List Ev} {n : Nat} {x : Ev} (h : l[n]? = some x) : l.take (n + 1) = l.take n ++ [x] := by
  rw [List.take_add_one, h]; rfl
end Go.Proofs.YtbjmdnemeidpjaaGreat
/- Comparisons of strings, and strings put together. No program is named here. -/
namespace Go.Proofs.YtbjmdnemeidpjaaGreat
set_option linter.unusedSimpArgs false
set_option linter.unusedVariables false
open Go.RowKit Go.Sort
section
variable {P : Program} {L : List AObj} {ty n : Nat} {x y : Operand} {t t' : TypeId} {a b : ByteArray}
theorem toList_inj {a b : ByteArray} (h : a.toList = b.toList) : a = b := by
  rw [ByteArray.toList_eq, ByteArray.toList_eq] at h
  obtain ⟨⟨a⟩⟩ := a
  obtain ⟨⟨b⟩⟩ := b
  have h : a = b := h
  rw [h]
theorem toList_beq (a b : ByteArray) : (a.toList == b.toList) = decide (a = b) := by
  rw [Bool.eq_iff_iff, beq_iff_eq, decide_eq_true_eq]
  exact ⟨toList_inj, fun h => by rw [h]⟩
theorem toList_leq (a b : ByteArray) : (decide (a.toList < b.toList) || decide (a = b)) = !decide (b.toList < a.toList) := by
  rw [Bool.eq_iff_iff]
  simp only [Bool.or_eq_true, decide_eq_true_eq, Bool.not_eq_true', decide_eq_false_iff_not]
  constructor
  · rintro (h | rfl)
    · exact fun q => List.lt_irrefl _ (List.lt_trans h q)
    · exact List.lt_irrefl _
  · intro h
    have h := List.not_lt.1 h
    by_cases e : a = b
    · exact .inr e
    · refine .inl ?_
      by_cases q : a.toList < b.toList
      · exact q
      · exact absurd (toList_inj (List.le_antisymm h (List.not_lt.1 q))) e
theorem str_op {op : BinOp} {c : Bool} (h : (Op.stringOp op a b) = pure (.bool c)) (hb : binOp op t (.string a) (.string b) = Op.stringOp op a b) : Does P (.binOp op t x y t') ty L n [.d (.v (.string a)), .d (.v (.string b))] e0 (.d (.v (.bool c))) :=
  does_lit2 rfl fun o w ev ho h1 h2 => exec_eq ho h1 h2 (guard_form _ _ rfl) (by rw [hb, h]; rfl)
theorem eqT : Does P (.binOp .eql t x y t') ty L n [.d (.v (.string a)), .d (.v (.string b))] e0 (.d (.v (.bool (decide (a = b))))) :=
  str_op (by rw [← toList_beq]; rfl) rfl
theorem neT : Does P (.binOp .neq t x y t') ty L n [.d (.v (.string a)), .d (.v (.string b))] e0 (.d (.v (.bool (!decide (a = b))))) :=
  str_op (by rw [← toList_beq]; rfl) rfl
theorem leT : Does P (.binOp .leq t x y t') ty L n [.d (.v (.string a)), .d (.v (.string b))] e0 (.d (.v (.bool (!decide (b.toList < a.toList))))) :=
  str_op (by rw [← toList_leq, ← bytesLess_eq, ← toList_beq]; rfl) rfl
theorem gtT : Does P (.binOp .gtr t x y t') ty L n [.d (.v (.string a)), .d (.v (.string b))] e0 (.d (.v (.bool (decide (b.toList < a.toList))))) :=
  str_op (by
    have h := toList_leq a b
    have e : decide (b.toList < a.toList) = !(decide (a.toList < b.toList) || decide (a = b)) := by rw [h, Bool.not_not]
    rw [e, ← bytesLess_eq, ← toList_beq]; rfl) rfl
end
end Go.Proofs.YtbjmdnemeidpjaaGreat
/- The document's cells: Plus, Fold. -/
namespace Go.Proofs.YtbjmdnemeidpjaaGreat
set_option linter.unusedSimpArgs false
set_option linter.unusedVariables false
open Go.RowKit
set_option maxRecDepth 100000
theorem plusL_sat (a b : Int) (ha : in64 a) (hb : in64 b) : Sat Tryz.prog 77 [iA a, iA b] [] (.tup [iA (toldZ (a + b)).1, iA (toldZ (a + b)).2]) [] := by
  have o1 := of_num a ha
  have o2 := of_num b hb
  have a1 := add_few (k := 4) (by omega) (few_i64 ha) (few_i64 hb)
  have t1 := told_num (a + b) (by have := few_len (add_few_out (few_i64 ha) (few_i64 hb)); omega)
  refine sat_of_vc (T := tiOf Tryz.prog) (E := E0) Tryz.func77 rfl rfl hE0 hm0 rfl ?_
  conv => whnf
  iterate 2
    repeat' (first | exact True.intro | ((first | refine And.intro (fun _ => ?_) tf | refine And.intro ft (fun _ => ?_) | refine And.intro (by kernel_rfl) ?_ | refine And.intro (by decide) ?_ | refine And.intro (fun _ => ?_) (fun h => absurd h (by decide)) | refine And.intro (fun h => absurd h (by decide)) (fun _ => ?_) | refine ⟨_, _, o1.pu rfl rfl, ?_⟩ | refine ⟨_, _, o2.pu rfl rfl, ?_⟩ | refine ⟨_, _, a1.pu rfl rfl, ?_⟩ | refine ⟨_, _, t1.pu rfl rfl, ?_⟩ | fail); conv => whnf) | (refine And.intro (fun _ => ?_) (fun _ => ?_) <;> conv => whnf) | fail)
    all_goals try (refine Or.inl ?_; conv => whnf)
  all_goals refine ⟨[], ?_⟩
  repeat (any_goals (first | exact True.intro | exact rfl | with_reducible_and_instances rfl | exact (by kernel_rfl) | refine And.intro ?_ ?_))
  all_goals conv => whnf
theorem build_refFold {n : Int} {h : List Int} (hh : h.length = 65) : sets (sets (List.map D.v (tiOf Tryz.prog 49).zero) 0 [iD n]) 7 (hR h) = cR ⟨n, 0, 0, 0, 0, 0, h⟩ := by
  rw [zeF]
  exact set_hh (n := n) (s := 0) (mn := 0) (mx := 0) (ce := 0) (po := 0) (h := z65) rfl hh
/-- A cell whose sum's words are written one by one. -/
theorem set_hi {n s mn mx ce po : Int} {h : List Int} (x : Int) : sets (cR ⟨n, s, mn, mx, ce, po, h⟩) (0 + 1) [iD (hiZ x)] = cR ⟨n, wideZ (hiZ x) (loZ s), mn, mx, ce, po, h⟩ := by
  obtain ⟨e1, e2⟩ := wideZ_hi (hi := hiZ x) (lo := loZ s) (by unfold loZ word; omega) (by unfold loZ word; omega)
  show (iD n :: iD (hiZ x) :: uZ (loZ s) :: iD mn :: iD mx :: iD ce :: iD po :: hR h) = cR _
  unfold cR
  rw [e1, e2]
theorem set_lo {n s mn mx ce po : Int} {h : List Int} (x : Int) : sets (cR ⟨n, s, mn, mx, ce, po, h⟩) (0 + 2) [uZ (loZ x)] = cR ⟨n, wideZ (hiZ s) (loZ x), mn, mx, ce, po, h⟩ := by
  obtain ⟨e1, e2⟩ := wideZ_hi (hi := hiZ s) (lo := loZ x) (by unfold loZ word; omega) (by unfold loZ word; omega)
  show (iD n :: iD (hiZ s) :: uZ (loZ x) :: iD mn :: iD mx :: iD ce :: iD po :: hR h) = cR _
  unfold cR
  rw [e1, e2]
theorem wideZ_two (x s : Int) : wideZ (hiZ (wideZ (hiZ x) (loZ s))) (loZ x) = x := by
  rw [(wideZ_hi (hi := hiZ x) (lo := loZ s) (by unfold loZ word; omega) (by unfold loZ word; omega)).1, wide_split]
theorem row_two {n s a b a' b' : Int} {h : List Int} (e1 : a = a') (e2 : b = b') : AObj.row (cR ⟨n, s, a, b, 0, 0, h⟩) = .row (cR ⟨n, s, a', b', 0, 0, h⟩) := by rw [e1, e2]
set_option maxHeartbeats 8000000 in
theorem refFold_sat (l : List Int) (hl : ∀ z ∈ l, in64 z) (hn : l.length ≤ 60000) : Sat Tryz.prog 43 [.d (lD l)] [] (.d (cD (foldC l))) [] := by
  have hm : (l.map lR).length = l.length := List.length_map _
  have t1 := total_num l hl (by omega)
  have w1 := words_num l.sum (few_mono (few_sum5 hl (by omega)) (by omega))
  rw [if_pos (show in64 (hiZ l.sum) from sum_in128 hl (by omega))] at w1
  have o1 := refOf_sat l hl (by omega)
  have hh : (histL l).length = 65 := histL_len l
  have ef : foldC l = ⟨l.length, l.sum, mmin l, mmax l, 0, 0, histL l⟩ := rfl
  rw [ef]
  generalize histL l = h at *
  generalize l.sum = s at *
  refine sat_of_vc (T := tiOf Tryz.prog) (E := E0) Tryz.func43 rfl rfl hE0 hm0 rfl ?_
  conv => whnf
  iterate 2
    repeat' (first | exact True.intro | ((first | refine And.intro (whole_len s68 hh) ?_ | refine ⟨_, build_refFold hh, ?_⟩ | refine ⟨_, drop_id, ?_⟩ | refine ⟨_, _, at_n, ?_⟩ | refine ⟨_, _, at_hi, ?_⟩ | refine ⟨_, _, at_lo, ?_⟩ | refine ⟨_, _, at_mn, ?_⟩ | refine ⟨_, _, at_mx, ?_⟩ | refine ⟨_, _, at_ce, ?_⟩ | refine ⟨_, _, at_po, ?_⟩ | refine ⟨_, whole_z sC, clenz sC, ?_⟩ | refine ⟨_, setzC, ?_⟩ | refine And.intro (clenz sC) ?_ | refine And.intro fitzC ?_ | refine ⟨_, whole_cell sC hh, clen sC hh, ?_⟩ | refine And.intro (clen sC hh) ?_ | refine And.intro (fitC hh) ?_ | refine ⟨_, setC hh, ?_⟩ | refine ⟨_, whole_z sF, clenz sF, ?_⟩ | refine ⟨_, setzF, ?_⟩ | refine And.intro (clenz sF) ?_ | refine And.intro fitzF ?_ | refine ⟨_, whole_cell sF hh, clen sF hh, ?_⟩ | refine And.intro (clen sF hh) ?_ | refine And.intro (fitF hh) ?_ | refine ⟨_, setF hh, ?_⟩ | refine And.intro (fit1 hh (by decide)) ?_ | refine And.intro (fit1 rfl (by decide)) ?_ | refine ⟨_, sum_cell s25, rfl, ?_⟩ | refine ⟨_, set_n _, ?_⟩ | refine ⟨_, set_mn _, ?_⟩ | refine ⟨_, set_mx _, ?_⟩ | refine ⟨_, set_ce _, ?_⟩ | refine ⟨_, set_po _, ?_⟩ | refine ⟨_, set_s _, ?_⟩ | refine ⟨_, set_hi _, ?_⟩ | refine ⟨_, set_lo _, ?_⟩ | refine And.intro (fun _ => ?_) tf | refine And.intro ft (fun _ => ?_) | refine And.intro (by kernel_rfl) ?_ | refine And.intro (by decide) ?_ | refine And.intro (fun _ => ?_) (fun h => absurd h (by decide)) | refine And.intro (fun h => absurd h (by decide)) (fun _ => ?_) | refine ⟨_, _, t1.pu rfl rfl, ?_⟩ | refine ⟨_, _, w1.pu rfl rfl, ?_⟩ | refine ⟨_, _, o1.pu rfl rfl, ?_⟩ | fail); conv => whnf) | (refine And.intro (fun _ => ?_) (fun _ => ?_) <;> conv => whnf) | fail)
    all_goals try (refine Or.inl ?_; conv => whnf)
  refine ⟨Nat × Int × Int, fun y => y.1 ≤ l.length ∧ y.2.1 = mmin (l.take y.1) ∧ y.2.2 = mmax (l.take y.1), fun y => ([(4, iA y.1), (3, .ptr 1 0), (2, .ptr 0 0), (0, .d (lD l))], [.row (cR zC), .row (cR ⟨l.length, s, y.2.1, y.2.2, 0, 0, h⟩)]), fun y => l.length - y.1, ⟨(0, 0, 0), ⟨Nat.zero_le _, rfl, rfl⟩, ?_⟩, ?_⟩
  · all_goals refine ⟨[], ?_⟩
    repeat (any_goals (first | exact True.intro | exact rfl | with_reducible_and_instances rfl | exact (by kernel_rfl) | refine And.intro ?_ ?_))
    all_goals conv => whnf
    show AObj.row (cR ⟨((l.map lR).length : Nat), wideZ (hiZ (wideZ (hiZ s) (loZ 0))) (loZ s), 0, 0, 0, 0, h⟩) = _
    rw [hm, wideZ_two]
  rintro ⟨k, a, b⟩ ⟨hk, ha, hb⟩
  have hk : k ≤ l.length := hk
  have ha : a = mmin (l.take k) := ha
  have hb : b = mmax (l.take k) := hb
  conv => whnf
  by_cases hlt : k < l.length
  · have hx : l[k]? = some l[k] := List.getElem?_eq_getElem hlt
    have q1 : mmin (l.take (k + 1)) = if k = 0 then l[k] else min a l[k] := by
      rw [List.take_succ_eq_append_getElem hlt, mmin_snoc, ← ha]
      by_cases e : k = 0
      · subst e; simp
      · rw [if_neg e, if_neg]; intro q; have := congrArg List.length q; rw [List.length_take, List.length_nil] at this; omega
    have q2 : mmax (l.take (k + 1)) = if k = 0 then l[k] else max b l[k] := by
      rw [List.take_succ_eq_append_getElem hlt, mmax_snoc, ← hb]
      by_cases e : k = 0
      · subst e; simp
      · rw [if_neg e, if_neg]; intro q; have := congrArg List.length q; rw [List.length_take, List.length_nil] at this; omega
    generalize l[k] = x at hx q1 q2
    iterate 5
      repeat' (first | exact True.intro | ((first | refine ⟨_, drop_id, ?_⟩ | refine ⟨_, _, at_n, ?_⟩ | refine ⟨_, _, at_hi, ?_⟩ | refine ⟨_, _, at_lo, ?_⟩ | refine ⟨_, _, at_mn, ?_⟩ | refine ⟨_, _, at_mx, ?_⟩ | refine ⟨_, _, at_ce, ?_⟩ | refine ⟨_, _, at_po, ?_⟩ | refine ⟨_, whole_z sC, clenz sC, ?_⟩ | refine ⟨_, setzC, ?_⟩ | refine And.intro (clenz sC) ?_ | refine And.intro fitzC ?_ | refine ⟨_, whole_cell sC hh, clen sC hh, ?_⟩ | refine And.intro (clen sC hh) ?_ | refine And.intro (fitC hh) ?_ | refine ⟨_, setC hh, ?_⟩ | refine ⟨_, whole_z sF, clenz sF, ?_⟩ | refine ⟨_, setzF, ?_⟩ | refine And.intro (clenz sF) ?_ | refine And.intro fitzF ?_ | refine ⟨_, whole_cell sF hh, clen sF hh, ?_⟩ | refine And.intro (clen sF hh) ?_ | refine And.intro (fitF hh) ?_ | refine ⟨_, setF hh, ?_⟩ | refine And.intro (fit1 hh (by decide)) ?_ | refine And.intro (fit1 rfl (by decide)) ?_ | refine ⟨_, sum_cell s25, rfl, ?_⟩ | refine ⟨_, set_n _, ?_⟩ | refine ⟨_, set_mn _, ?_⟩ | refine ⟨_, set_mx _, ?_⟩ | refine ⟨_, set_ce _, ?_⟩ | refine ⟨_, set_po _, ?_⟩ | refine ⟨_, set_s _, ?_⟩ | refine ⟨_, set_hi _, ?_⟩ | refine ⟨_, set_lo _, ?_⟩ | refine ⟨k, _, rfl, map_lR_get hx, ?_⟩ | refine And.intro (fun _ => ?_) tf | refine And.intro ft (fun _ => ?_) | refine And.intro (by kernel_rfl) ?_ | refine And.intro (by decide) ?_ | refine And.intro (fun _ => ?_) (fun h => absurd h (by decide)) | refine And.intro (fun h => absurd h (by decide)) (fun _ => ?_) | fail); conv => whnf) | (refine And.intro (fun _ => ?_) (fun _ => ?_) <;> conv => whnf) | fail)
      all_goals try (exfalso; simp only [decide_eq_true_eq, decide_eq_false_iff_not, Bool.not_eq_true', Bool.not_eq_false', Bool.not_eq_true, Bool.not_eq_false, beq_iff_eq, bne_iff_ne, beq_eq_false_iff_ne, bne_eq_false_iff_eq, ne_eq, Decidable.not_not] at *; first | omega | contradiction | (simp_all; done) | (simp_all; omega))
      all_goals try (refine Or.inl ?_; conv => whnf)
    all_goals refine ⟨(k + 1, mmin (l.take (k + 1)), mmax (l.take (k + 1))), ⟨hlt, rfl, rfl⟩, show l.length - (k + 1) < l.length - k by omega, ?_⟩
    all_goals rw [q1, q2]
    all_goals refine ⟨[], ?_⟩
    repeat (any_goals (first | exact True.intro | exact rfl | with_reducible_and_instances rfl | exact (by kernel_rfl) | refine And.intro ?_ ?_))
    all_goals conv => whnf
    all_goals first
      | exact wk1 (by omega)
      | exact row_two (by simp only [decide_eq_true_eq, decide_eq_false_iff_not, beq_iff_eq, beq_eq_false_iff_ne, ne_eq] at *; split <;> omega) (by simp only [decide_eq_true_eq, decide_eq_false_iff_not, beq_iff_eq, beq_eq_false_iff_ne, ne_eq] at *; split <;> omega)
  · have hke : k = l.length := by omega
    subst hke
    rw [List.take_of_length_le (by omega)] at ha hb
    iterate 3
      repeat' (first | exact True.intro | ((first | refine ⟨_, drop_id, ?_⟩ | refine ⟨_, _, at_n, ?_⟩ | refine ⟨_, _, at_hi, ?_⟩ | refine ⟨_, _, at_lo, ?_⟩ | refine ⟨_, _, at_mn, ?_⟩ | refine ⟨_, _, at_mx, ?_⟩ | refine ⟨_, _, at_ce, ?_⟩ | refine ⟨_, _, at_po, ?_⟩ | refine ⟨_, whole_z sC, clenz sC, ?_⟩ | refine ⟨_, setzC, ?_⟩ | refine And.intro (clenz sC) ?_ | refine And.intro fitzC ?_ | refine ⟨_, whole_cell sC hh, clen sC hh, ?_⟩ | refine And.intro (clen sC hh) ?_ | refine And.intro (fitC hh) ?_ | refine ⟨_, setC hh, ?_⟩ | refine ⟨_, whole_z sF, clenz sF, ?_⟩ | refine ⟨_, setzF, ?_⟩ | refine And.intro (clenz sF) ?_ | refine And.intro fitzF ?_ | refine ⟨_, whole_cell sF hh, clen sF hh, ?_⟩ | refine And.intro (clen sF hh) ?_ | refine And.intro (fitF hh) ?_ | refine ⟨_, setF hh, ?_⟩ | refine And.intro (fit1 hh (by decide)) ?_ | refine And.intro (fit1 rfl (by decide)) ?_ | refine ⟨_, sum_cell s25, rfl, ?_⟩ | refine ⟨_, set_n _, ?_⟩ | refine ⟨_, set_mn _, ?_⟩ | refine ⟨_, set_mx _, ?_⟩ | refine ⟨_, set_ce _, ?_⟩ | refine ⟨_, set_po _, ?_⟩ | refine ⟨_, set_s _, ?_⟩ | refine ⟨_, set_hi _, ?_⟩ | refine ⟨_, set_lo _, ?_⟩ | refine And.intro (fun _ => ?_) tf | refine And.intro ft (fun _ => ?_) | refine And.intro (by kernel_rfl) ?_ | refine And.intro (by decide) ?_ | refine And.intro (fun _ => ?_) (fun h => absurd h (by decide)) | refine And.intro (fun h => absurd h (by decide)) (fun _ => ?_) | fail); conv => whnf) | (refine And.intro (fun _ => ?_) (fun _ => ?_) <;> conv => whnf) | fail)
      all_goals try (exfalso; simp only [decide_eq_true_eq, decide_eq_false_iff_not, Bool.not_eq_true', Bool.not_eq_false', Bool.not_eq_true, Bool.not_eq_false, beq_iff_eq, bne_iff_ne, beq_eq_false_iff_ne, bne_eq_false_iff_eq, ne_eq, Decidable.not_not] at *; first | omega | contradiction | (simp_all; done) | (simp_all; omega))
      all_goals try (refine Or.inl ?_; conv => whnf)
    rw [← ha, ← hb]
    all_goals refine ⟨[], ?_⟩
    repeat (any_goals (first | exact True.intro | exact rfl | with_reducible_and_instances rfl | exact (by kernel_rfl) | refine And.intro ?_ ?_))
    all_goals conv => whnf
end Go.Proofs.YtbjmdnemeidpjaaGreat
/- The document's two: two cells together. -/
namespace Go.Proofs.YtbjmdnemeidpjaaGreat
set_option linter.unusedSimpArgs false
set_option linter.unusedVariables false
open Go.RowKit
set_option maxRecDepth 100000
def lowZ2 (a b : Cel) : Int := if b.n = 0 then a.mn else if a.n = 0 then b.mn else min a.mn b.mn
def highZ2 (a b : Cel) : Int := if b.n = 0 then a.mx else if a.n = 0 then b.mx else max a.mx b.mx
def fits2 (a b : Cel) : Prop := in64 (a.n + b.n) ∧ in64 (a.ce + b.ce) ∧ in64 (a.po + b.po) ∧ mergeE [a.h, b.h] = 0 ∧ in128 (a.s + b.s)
def join2 (a b : Cel) : Cel := ⟨a.n + b.n, a.s + b.s, lowZ2 a b, highZ2 a b, a.ce + b.ce, a.po + b.po, mergeR [a.h, b.h]⟩
theorem told_in {z : Int} (h : in64 z) : toldZ z = (z, 0) := by unfold toldZ; exact if_pos h
theorem told_out {z : Int} (h : ¬ in64 z) : toldZ z = (0, 12) := by unfold toldZ; exact if_neg h
theorem build_two {n s mn mx ce po : Int} {h : List Int} (hh : h.length = 65) :
    sets (sets (sets (sets (sets (sets (sets (sets (List.map D.v (tiOf Tryz.prog 49).zero) 0 [iD n]) 1 [iD (hiZ s)]) 2 [uZ (loZ s)]) 3 [iD mn]) 4 [iD mx]) 5 [iD ce]) 6 [iD po]) 7 (hR h) = cR ⟨n, s, mn, mx, ce, po, h⟩ := by
  rw [zeF]
  exact set_hh (n := n) (s := s) (mn := mn) (mx := mx) (ce := ce) (po := po) (h := z65) rfl hh
theorem few_in128 {z : Int} (h : in128 z) : few 8 z := by
  unfold in128 in64 hiZ word at h
  unfold few
  have e : (65536 : Nat) ^ 8 = 340282366920938463463374607431768211456 := by decide
  rw [e]; omega
set_option maxHeartbeats 16000000 in
theorem two_sat (a b : Cel) (ha : CelOK a) (hb : CelOK b) (hf : fits2 a b) : Sat Tryz.prog 59 [.d (cD a), .d (cD b)] [] (.tup [.d (cD (join2 a b)), iA 0]) [] := by
  obtain ⟨f1, f2, f3, f4, f5⟩ := hf
  have la := ha.hl
  have lb := hb.hl
  have p1 := plusL_sat a.n b.n ha.n hb.n
  have p2 := plusL_sat a.ce b.ce ha.ce hb.ce
  have p3 := plusL_sat a.po b.po ha.po hb.po
  rw [told_in f1] at p1
  rw [told_in f2] at p2
  rw [told_in f3] at p3
  have m1 := refMerge_sat [a.h, b.h] (by intro l hl; simp at hl; rcases hl with rfl | rfl; exact la; exact lb) (by intro l hl; simp at hl; rcases hl with rfl | rfl; exact ha.hx; exact hb.hx) (by simp)
  rw [f4] at m1
  have w1 := wide_num (hiZ a.s) (loZ a.s) ha.s (by unfold loZ word; omega) (by unfold loZ word; omega)
  have w2 := wide_num (hiZ b.s) (loZ b.s) hb.s (by unfold loZ word; omega) (by unfold loZ word; omega)
  rw [wide_split] at w1 w2
  have a1 := add_few (k := 8) (by omega) (few_in128 ha.s) (few_in128 hb.s)
  have w3 := words_num (a.s + b.s) (add_few_out (few_in128 ha.s) (few_in128 hb.s))
  rw [if_pos (show in64 (hiZ (a.s + b.s)) from f5)] at w3
  have hj : join2 a b = ⟨a.n + b.n, a.s + b.s, lowZ2 a b, highZ2 a b, a.ce + b.ce, a.po + b.po, mergeR [a.h, b.h]⟩ := rfl
  rw [hj]
  have hM := mergeR_len [a.h, b.h]
  generalize mergeR [a.h, b.h] = M at *
  generalize hS : a.s + b.s = S at *
  refine sat_of_vc (T := tiOf Tryz.prog) (E := E0) Tryz.func59 rfl rfl hE0 hm0 rfl ?_
  conv => whnf
  iterate 5
    repeat' (first | exact True.intro | ((first | refine ⟨_, hist_cell s68 la, whole_len s68 la, ?_⟩ | refine ⟨_, hist_cell s68 lb, whole_len s68 lb, ?_⟩ | refine And.intro (whole_len rfl la) ?_ | refine And.intro (whole_len rfl lb) ?_ | refine And.intro (whole_len s68 hM) ?_ | refine And.intro (fit68 hM) ?_ | refine ⟨_, set68 hM, ?_⟩ | refine ⟨_, whole_row s68 hM, whole_len s68 hM, ?_⟩ | refine ⟨_, build_two hM, ?_⟩ | refine ⟨_, drop_id, ?_⟩ | refine ⟨_, _, at_n, ?_⟩ | refine ⟨_, _, at_hi, ?_⟩ | refine ⟨_, _, at_lo, ?_⟩ | refine ⟨_, _, at_mn, ?_⟩ | refine ⟨_, _, at_mx, ?_⟩ | refine ⟨_, _, at_ce, ?_⟩ | refine ⟨_, _, at_po, ?_⟩ | refine ⟨_, whole_z sC, clenz sC, ?_⟩ | refine ⟨_, setzC, ?_⟩ | refine And.intro (clenz sC) ?_ | refine And.intro fitzC ?_ | refine ⟨_, whole_cell sC la, clen sC la, ?_⟩ | refine And.intro (clen sC la) ?_ | refine And.intro (fitC la) ?_ | refine ⟨_, setC la, ?_⟩ | refine ⟨_, whole_cell sC lb, clen sC lb, ?_⟩ | refine And.intro (clen sC lb) ?_ | refine And.intro (fitC lb) ?_ | refine ⟨_, setC lb, ?_⟩ | refine ⟨_, whole_cell sC hM, clen sC hM, ?_⟩ | refine And.intro (clen sC hM) ?_ | refine And.intro (fitC hM) ?_ | refine ⟨_, setC hM, ?_⟩ | refine ⟨_, whole_z sF, clenz sF, ?_⟩ | refine ⟨_, setzF, ?_⟩ | refine And.intro (clenz sF) ?_ | refine And.intro fitzF ?_ | refine ⟨_, whole_cell sF la, clen sF la, ?_⟩ | refine And.intro (clen sF la) ?_ | refine And.intro (fitF la) ?_ | refine ⟨_, setF la, ?_⟩ | refine ⟨_, whole_cell sF lb, clen sF lb, ?_⟩ | refine And.intro (clen sF lb) ?_ | refine And.intro (fitF lb) ?_ | refine ⟨_, setF lb, ?_⟩ | refine ⟨_, whole_cell sF hM, clen sF hM, ?_⟩ | refine And.intro (clen sF hM) ?_ | refine And.intro (fitF hM) ?_ | refine ⟨_, setF hM, ?_⟩ | refine And.intro (fit1 la (by decide)) ?_ | refine And.intro (fit1 lb (by decide)) ?_ | refine And.intro (fit1 hM (by decide)) ?_ | refine And.intro (fit1 rfl (by decide)) ?_ | refine ⟨_, sum_cell s25, rfl, ?_⟩ | refine ⟨_, set_n _, ?_⟩ | refine ⟨_, set_mn _, ?_⟩ | refine ⟨_, set_mx _, ?_⟩ | refine ⟨_, set_ce _, ?_⟩ | refine ⟨_, set_po _, ?_⟩ | refine ⟨_, set_s _, ?_⟩ | refine ⟨_, set_hi _, ?_⟩ | refine ⟨_, set_lo _, ?_⟩ | refine And.intro (fun _ => ?_) tf | refine And.intro ft (fun _ => ?_) | refine And.intro (by kernel_rfl) ?_ | refine And.intro (by decide) ?_ | refine And.intro (fun _ => ?_) (fun h => absurd h (by decide)) | refine And.intro (fun h => absurd h (by decide)) (fun _ => ?_) | refine ⟨_, _, p1.pu rfl rfl, ?_⟩ | refine ⟨_, _, p2.pu rfl rfl, ?_⟩ | refine ⟨_, _, p3.pu rfl rfl, ?_⟩ | refine ⟨_, _, lendO m1 rfl (flat_hE _ _), ?_⟩ | refine ⟨_, _, w1.pu rfl rfl, ?_⟩ | refine ⟨_, _, w2.pu rfl rfl, ?_⟩ | refine ⟨_, _, a1.pu rfl rfl, ?_⟩ | refine ⟨_, _, w3.pu rfl rfl, ?_⟩ | fail); conv => whnf) | (refine And.intro (fun _ => ?_) (fun _ => ?_) <;> conv => whnf) | fail)
    all_goals try (exfalso; simp only [decide_eq_true_eq, decide_eq_false_iff_not, Bool.not_eq_true', Bool.not_eq_false', Bool.not_eq_true, Bool.not_eq_false, beq_iff_eq, bne_iff_ne, beq_eq_false_iff_ne, bne_eq_false_iff_eq, ne_eq, Decidable.not_not] at *; first | omega | contradiction | (simp_all; done) | (simp_all; omega))
    all_goals try (refine Or.inl ?_; conv => whnf)
  · have q : b.n = 0 := eq_of_beq ‹(b.n == 0) = true›
    unfold lowZ2 highZ2
    rw [if_pos q, if_pos q]
    all_goals refine ⟨[], ?_⟩
    repeat (any_goals (first | exact True.intro | exact rfl | with_reducible_and_instances rfl | exact (by kernel_rfl) | refine And.intro ?_ ?_))
    all_goals conv => whnf
  · have q : ¬ b.n = 0 := by have := ‹(b.n == 0) = false›; simpa using this
    have q2 : a.n = 0 := eq_of_beq ‹(a.n == 0) = true›
    unfold lowZ2 highZ2
    rw [if_neg q, if_neg q, if_pos q2, if_pos q2]
    all_goals refine ⟨[], ?_⟩
    repeat (any_goals (first | exact True.intro | exact rfl | with_reducible_and_instances rfl | exact (by kernel_rfl) | refine And.intro ?_ ?_))
    all_goals conv => whnf
  · have q : b.n = 0 := eq_of_beq ‹(b.n == 0) = true›
    unfold lowZ2 highZ2
    rw [if_pos q, if_pos q]
    all_goals refine ⟨[], ?_⟩
    repeat (any_goals (first | exact True.intro | exact rfl | with_reducible_and_instances rfl | exact (by kernel_rfl) | refine And.intro ?_ ?_))
    all_goals conv => whnf
  · have q : ¬ b.n = 0 := by have := ‹(b.n == 0) = false›; simpa using this
    have q2 : ¬ a.n = 0 := by have := ‹(a.n == 0) = false›; simpa using this
    unfold lowZ2 highZ2
    rw [if_neg q, if_neg q, if_neg q2, if_neg q2, min_if, max_if]
    all_goals refine ⟨[], ?_⟩
    repeat (any_goals (first | exact True.intro | exact rfl | with_reducible_and_instances rfl | exact (by kernel_rfl) | refine And.intro ?_ ?_))
    all_goals conv => whnf
theorem two_no {a b c : Int} {E : Nat} {B : Bool} (h : ¬ (a = 0 ∧ b = 0 ∧ c = 0 ∧ E = 0 ∧ B = true)) (h1 : (a != 0) = false) (h2 : (b != 0) = false) (h3 : (c != 0) = false) (h4 : ((E : Int) != 0) = false) (h5 : (!B) = false) : False := by
  simp at h1 h2 h3 h4 h5
  exact h ⟨h1, h2, h3, by omega, h5⟩
set_option maxHeartbeats 16000000 in
theorem two_err (a b : Cel) (ha : CelOK a) (hb : CelOK b) (hf : ¬ fits2 a b) : Sat Tryz.prog 59 [.d (cD a), .d (cD b)] [] (.tup [.d (cD zC), iA 12]) [] := by
  have la := ha.hl
  have lb := hb.hl
  have p1 := plusL_sat a.n b.n ha.n hb.n
  have p2 := plusL_sat a.ce b.ce ha.ce hb.ce
  have p3 := plusL_sat a.po b.po ha.po hb.po
  have m1 := refMerge_sat [a.h, b.h] (by intro l hl; simp at hl; rcases hl with rfl | rfl; exact la; exact lb) (by intro l hl; simp at hl; rcases hl with rfl | rfl; exact ha.hx; exact hb.hx) (by simp)
  have w1 := wide_num (hiZ a.s) (loZ a.s) ha.s (by unfold loZ word; omega) (by unfold loZ word; omega)
  have w2 := wide_num (hiZ b.s) (loZ b.s) hb.s (by unfold loZ word; omega) (by unfold loZ word; omega)
  rw [wide_split] at w1 w2
  have a1 := add_few (k := 8) (by omega) (few_in128 ha.s) (few_in128 hb.s)
  have w3 := words_num (a.s + b.s) (add_few_out (few_in128 ha.s) (few_in128 hb.s))
  have w3 : ∃ (hi lo : Int), Sat Tryz.prog 63 [.d (numD (a.s + b.s))] [] (.tup [iA hi, uN lo, bA (decide (in128 (a.s + b.s)))]) [] := by
    by_cases h : in64 (hiZ (a.s + b.s))
    · rw [if_pos h] at w3
      exact ⟨_, _, by rw [decide_eq_true (p := in128 (a.s + b.s)) h]; exact w3⟩
    · rw [if_neg h] at w3
      exact ⟨0, 0, by rw [decide_eq_false (p := in128 (a.s + b.s)) h]; exact w3⟩
  obtain ⟨hi, lo, w3⟩ := w3
  have tz : ∀ z, (toldZ z).2 = 0 ↔ in64 z := fun z => by
    by_cases h : in64 z
    · rw [told_in h]; simp [h]
    · rw [told_out h]; simp [h]
  have hno : ¬ ((toldZ (a.n + b.n)).2 = 0 ∧ (toldZ (a.ce + b.ce)).2 = 0 ∧ (toldZ (a.po + b.po)).2 = 0 ∧ mergeE [a.h, b.h] = 0 ∧ decide (in128 (a.s + b.s)) = true) := by
    rw [tz, tz, tz, decide_eq_true_eq]
    exact hf
  have hM := mergeR_len [a.h, b.h]
  generalize mergeR [a.h, b.h] = M at *
  generalize mergeE [a.h, b.h] = E at *
  generalize a.s + b.s = S at *
  generalize decide (in128 S) = B at *
  generalize toldZ (a.n + b.n) = T1 at *
  generalize toldZ (a.ce + b.ce) = T2 at *
  generalize toldZ (a.po + b.po) = T3 at *
  have hno := hide hno
  clear tz hf
  refine sat_of_vc (T := tiOf Tryz.prog) (E := E0) Tryz.func59 rfl rfl hE0 hm0 rfl ?_
  conv => whnf
  iterate 3
    repeat' (first | exact True.intro | ((first | refine ⟨_, hist_cell s68 la, whole_len s68 la, ?_⟩ | refine ⟨_, hist_cell s68 lb, whole_len s68 lb, ?_⟩ | refine And.intro (whole_len rfl la) ?_ | refine And.intro (whole_len rfl lb) ?_ | refine And.intro (whole_len s68 hM) ?_ | refine And.intro (fit68 hM) ?_ | refine ⟨_, set68 hM, ?_⟩ | refine ⟨_, drop_id, ?_⟩ | refine ⟨_, _, at_n, ?_⟩ | refine ⟨_, _, at_hi, ?_⟩ | refine ⟨_, _, at_lo, ?_⟩ | refine ⟨_, _, at_mn, ?_⟩ | refine ⟨_, _, at_mx, ?_⟩ | refine ⟨_, _, at_ce, ?_⟩ | refine ⟨_, _, at_po, ?_⟩ | refine ⟨_, whole_z sC, clenz sC, ?_⟩ | refine ⟨_, setzC, ?_⟩ | refine And.intro (clenz sC) ?_ | refine And.intro fitzC ?_ | refine ⟨_, whole_cell sC la, clen sC la, ?_⟩ | refine And.intro (clen sC la) ?_ | refine And.intro (fitC la) ?_ | refine ⟨_, setC la, ?_⟩ | refine ⟨_, whole_cell sC lb, clen sC lb, ?_⟩ | refine And.intro (clen sC lb) ?_ | refine And.intro (fitC lb) ?_ | refine ⟨_, setC lb, ?_⟩ | refine ⟨_, whole_z sF, clenz sF, ?_⟩ | refine ⟨_, setzF, ?_⟩ | refine And.intro (clenz sF) ?_ | refine And.intro fitzF ?_ | refine ⟨_, whole_cell sF la, clen sF la, ?_⟩ | refine And.intro (clen sF la) ?_ | refine And.intro (fitF la) ?_ | refine ⟨_, setF la, ?_⟩ | refine ⟨_, whole_cell sF lb, clen sF lb, ?_⟩ | refine And.intro (clen sF lb) ?_ | refine And.intro (fitF lb) ?_ | refine ⟨_, setF lb, ?_⟩ | refine And.intro (fit1 la (by decide)) ?_ | refine And.intro (fit1 lb (by decide)) ?_ | refine And.intro (fit1 rfl (by decide)) ?_ | refine ⟨_, sum_cell s25, rfl, ?_⟩ | refine ⟨_, set_n _, ?_⟩ | refine ⟨_, set_mn _, ?_⟩ | refine ⟨_, set_mx _, ?_⟩ | refine ⟨_, set_ce _, ?_⟩ | refine ⟨_, set_po _, ?_⟩ | refine ⟨_, set_s _, ?_⟩ | refine ⟨_, set_hi _, ?_⟩ | refine ⟨_, set_lo _, ?_⟩ | refine And.intro (fun _ => ?_) tf | refine And.intro ft (fun _ => ?_) | refine And.intro (by kernel_rfl) ?_ | refine And.intro (by decide) ?_ | refine And.intro (fun _ => ?_) (fun h => absurd h (by decide)) | refine And.intro (fun h => absurd h (by decide)) (fun _ => ?_) | refine ⟨_, _, p1.pu rfl rfl, ?_⟩ | refine ⟨_, _, p2.pu rfl rfl, ?_⟩ | refine ⟨_, _, p3.pu rfl rfl, ?_⟩ | refine ⟨_, _, lendO m1 rfl (flat_hE _ _), ?_⟩ | refine ⟨_, _, w1.pu rfl rfl, ?_⟩ | refine ⟨_, _, w2.pu rfl rfl, ?_⟩ | refine ⟨_, _, a1.pu rfl rfl, ?_⟩ | refine ⟨_, _, w3.pu rfl rfl, ?_⟩ | fail); conv => whnf) | (refine And.intro (fun _ => ?_) (fun _ => ?_) <;> conv => whnf) | fail)
    all_goals try (refine Or.inl ?_; conv => whnf)
  all_goals try exact (two_no hno.out ‹(T1.2 != 0) = false› ‹(T2.2 != 0) = false› ‹(T3.2 != 0) = false› ‹((E : Int) != 0) = false› ‹(!B) = false›).elim
  all_goals refine ⟨[], ?_⟩
  repeat (any_goals (first | exact True.intro | exact rfl | with_reducible_and_instances rfl | exact (by kernel_rfl) | refine And.intro ?_ ?_))
  all_goals conv => whnf
end Go.Proofs.YtbjmdnemeidpjaaGreat
