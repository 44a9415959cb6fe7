/- Parts LaY, LaS, LaT, LaZ, Laid, FrameLaid of the proof, put together. -/
import Derived.Test.YtpnbpcdmiiakcaaDoorM8
import Derived.Test.YtpnbpcdmiiakcaaDoorChecked
import Derived.Test.YtpnbpcdmiiakcaaDoorRows
import Derived.Lay
import Derived.SevenTiedAt
import Derived.LaidOnce
import Derived.OpenShut
import Derived.LaidMore
/- label: the document's Parse, walked. -/
namespace Go.Proofs.YtpnbpcdmiiakcaaDoor
set_option linter.unusedSimpArgs false
open Go.RowKit
set_option maxRecDepth 100000
set_option linter.unusedVariables false
theorem rTextNil (nm : Bt) : Sat Tryd.prog 15 [.d (.agg [tD nm, nilV])] [] (.d (tD (textS (nm, [])))) [] :=
  (rText_sat (nm, [])).pre fun w F ρ vs h => by
    cases h with | cons h1 h2 =>
    cases h1 with | d h1 => exact .cons (.d h1.nilAgg) h2
theorem piece_L {P : Program} {L : List AObj} {ty n : Nat} {x y z : Operand} {t : TypeId} {a : Bt} {i j : Nat} (ht : P.underlying t = some .string) (hi : i ≤ j) (hj : j ≤ a.length) : Does P (.slice t x (some y) (some z) none) ty L n [.d (tD a), .d (.v (.int .i64 (i : Int))), .d (.v (.int .i64 (j : Int)))] e0 (.d (tD ((a.take j).drop i))) :=
  does_val fun o w F ρ ev ho _ hx => by
    obtain ⟨v, u1, u2, e, hv, h1, h2⟩ := hx.three_out
    have := hv.v_out
    have := h1.v_out
    have := h2.v_out
    subst v u1 u2
    simp [Op.operands] at e
    refine ⟨_, ?_, .d (.v _)⟩
    have hs := run_sliceAt_string (P := P) w t (.string ⟨a.toArray⟩) (some (.int .i64 (i : Int))) (some (.int .i64 (j : Int))) none ht
    have hr := run_slice_string_if (P := P) w t ⟨a.toArray⟩ .i64 .i64 (i : Int) (j : Int) ht
    rw [if_pos (by rw [tsz]; omega), if_pos (by omega)] at hr
    simp only [execOp, ho, e.1, e.2.1, e.2.2, Option.map_some, Option.map_none, Sem.run_bind, hs, hr, Int.toNat_natCast, text_, Result.andThen_ok, Sem.run_pure]
set_option maxHeartbeats 16000000 in
theorem rParse_none (t : Bt) (ht : t.length ≤ 1000000) (hok : ¬ (textS (refS t) = t ∧ t ≠ [])) : Sat Tryd.prog 21 [.d (tD t)] [] (.tup [.d (serD ([], [])), bA false]) [] := by
  refine Sat.post (r := .tup [.d (.agg [tD [], nilV]), bA false]) ?_ fun w F ρ v h => nilTup h
  have hsz := tsz t
  have hbl := brk_le t
  rcases brk_cut t with ⟨hb, hc⟩ | ⟨hb, hbx, hc⟩
  · have hS : refS t = (t, []) := by unfold refS; rw [hc]; rfl
    rw [hS] at hok
    refine sat_of_vc (T := tiOf Tryd.prog) (E := E0) Tryd.func21 rfl rfl hE0 hm0 rfl ?_
    conv => whnf
    iterate 2
      repeat' (first | exact True.intro | ((first | refine And.intro (fun _ => ?_) tf | refine And.intro ft (fun _ => ?_) | refine And.intro (by kernel_rfl) ?_ | refine And.intro (by decide) ?_ | refine And.intro (fun _ => ?_) (fun h => absurd h (by decide)) | refine And.intro (fun h => absurd h (by decide)) (fun _ => ?_) | fail); conv => whnf) | (refine And.intro (fun _ => ?_) (fun _ => ?_) <;> conv => whnf) | fail)
      all_goals try (refine Or.inl ?_; conv => whnf)
    refine ⟨Nat, fun i => i ≤ brk t, fun i => ([(4, iA i), (2, .ptr 0 0), (0, .d (tD t))], [.cells [.d (tD []), .d (.v (.slice none 0 0))]]), fun i => brk t - i, ⟨0, Nat.zero_le _, ?_⟩, ?_⟩
    · all_goals refine ⟨[], ?_⟩
      repeat (any_goals (first | exact True.intro | exact rfl | with_reducible_and_instances rfl | exact (by kernel_rfl) | refine And.intro ?_ ?_))
      all_goals conv => whnf
    intro i hi
    have hi : i ≤ brk t := hi
    conv => whnf
    by_cases hlt : i < brk t
    · have hx : t[i]? = some t[i] := List.getElem?_eq_getElem (by omega)
      generalize t[i] = x at hx
      obtain ⟨qx, ex⟩ := ix_get hx
      have hne := brk_ne hlt hx
      have d1 : decide ((i : Int) < ((⟨t.toArray⟩ : ByteArray).size : Nat)) = true := decide_eq_true (by rw [tsz]; omega)
      have d2 : ((x.toNat : Int) != 123) = true := by
        rw [bne_iff_ne]
        exact fun h => hne (UInt8.toNat.inj (by show x.toNat = 123; omega))
      iterate 3
        repeat' (first | exact True.intro | ((first | (refine ⟨i, qx, rfl, ?_⟩; rw [ex]) | refine And.intro (fun _ => ?_) tf | refine And.intro ft (fun _ => ?_) | refine And.intro (by kernel_rfl) ?_ | refine And.intro (by decide) ?_ | refine And.intro (fun _ => ?_) (fun h => absurd h (by decide)) | refine And.intro (fun h => absurd h (by decide)) (fun _ => ?_) | fail); conv => whnf) | (refine And.intro (fun _ => ?_) (fun _ => ?_) <;> conv => whnf) | fail)
        all_goals try (refine Or.inl ?_; conv => whnf)
      all_goals try exact (bnl d1 ‹_›).elim
      all_goals try exact (bnl d2 ‹_›).elim
      refine ⟨i + 1, hlt, show brk t - (i + 1) < brk t - i by omega, ?_⟩
      all_goals refine ⟨[], ?_⟩
      repeat (any_goals (first | exact True.intro | exact rfl | with_reducible_and_instances rfl | exact (by kernel_rfl) | refine And.intro ?_ ?_))
      all_goals conv => whnf
      exact wk1 (by omega)
    have hib : i = brk t := by omega
    have hit : t.take i = t := List.take_of_length_le (by omega)
    have d1 : decide ((i : Int) < ((⟨t.toArray⟩ : ByteArray).size : Nat)) = false := decide_eq_false (by rw [tsz]; omega)
    have tx := rTextNil (t.take i)
    have hok2 : ¬ (textS (t.take i, []) = t ∧ t ≠ []) := by rw [hit]; exact hok
    iterate 4
      repeat' (first | exact True.intro | ((first | refine And.intro (fun _ => ?_) tf | refine And.intro ft (fun _ => ?_) | refine And.intro (by kernel_rfl) ?_ | refine And.intro (by decide) ?_ | refine And.intro (fun _ => ?_) (fun h => absurd h (by decide)) | refine And.intro (fun h => absurd h (by decide)) (fun _ => ?_) | refine ⟨_, _, up_L Tryd.underlying9 (by omega), ?_⟩ | refine ⟨_, _, tx.pu rfl rfl, ?_⟩ | refine ⟨_, _, neL', ?_⟩ | refine ⟨_, _, eqL' (b := []), ?_⟩ | fail); conv => whnf) | (refine And.intro (fun _ => ?_) (fun _ => ?_) <;> conv => whnf) | fail)
      all_goals try (refine Or.inl ?_; conv => whnf)
    all_goals try exact (bnl ‹_› d1).elim
    all_goals try exact (hok2 ⟨by simpa using ‹(!decide (textS (t.take i, []) = t)) = false›, by simpa using ‹decide (t = []) = false›⟩).elim
    all_goals refine ⟨[], ?_⟩
    repeat (any_goals (first | exact True.intro | exact rfl | with_reducible_and_instances rfl | exact (by kernel_rfl) | refine And.intro ?_ ?_))
    all_goals conv => whnf
  have hS : refS t = (t.take (brk t), rgo (t.drop (brk t + 1)) [] [] []) := by unfold refS; rw [hc]; rfl
  rw [hS] at hok
  refine sat_of_vc (T := tiOf Tryd.prog) (E := E0) Tryd.func21 rfl rfl hE0 hm0 rfl ?_
  conv => whnf
  iterate 2
    repeat' (first | exact True.intro | ((first | refine And.intro (fun _ => ?_) tf | refine And.intro ft (fun _ => ?_) | refine And.intro (by kernel_rfl) ?_ | refine And.intro (by decide) ?_ | refine And.intro (fun _ => ?_) (fun h => absurd h (by decide)) | refine And.intro (fun h => absurd h (by decide)) (fun _ => ?_) | fail); conv => whnf) | (refine And.intro (fun _ => ?_) (fun _ => ?_) <;> conv => whnf) | fail)
    all_goals try (refine Or.inl ?_; conv => whnf)
  refine ⟨Nat, fun i => i ≤ brk t, fun i => ([(4, iA i), (2, .ptr 0 0), (0, .d (tD t))], [.cells [.d (tD []), .d (.v (.slice none 0 0))]]), fun i => brk t - i, ⟨0, Nat.zero_le _, ?_⟩, ?_⟩
  · all_goals refine ⟨[], ?_⟩
    repeat (any_goals (first | exact True.intro | exact rfl | with_reducible_and_instances rfl | exact (by kernel_rfl) | refine And.intro ?_ ?_))
    all_goals conv => whnf
  intro i hi
  have hi : i ≤ brk t := hi
  conv => whnf
  by_cases hlt : i < brk t
  · have hx : t[i]? = some t[i] := List.getElem?_eq_getElem (by omega)
    generalize t[i] = x at hx
    obtain ⟨qx, ex⟩ := ix_get hx
    have hne := brk_ne hlt hx
    have d1 : decide ((i : Int) < ((⟨t.toArray⟩ : ByteArray).size : Nat)) = true := decide_eq_true (by rw [tsz]; omega)
    have d2 : ((x.toNat : Int) != 123) = true := by
      rw [bne_iff_ne]
      exact fun h => hne (UInt8.toNat.inj (by show x.toNat = 123; omega))
    iterate 3
      repeat' (first | exact True.intro | ((first | (refine ⟨i, qx, rfl, ?_⟩; rw [ex]) | refine And.intro (fun _ => ?_) tf | refine And.intro ft (fun _ => ?_) | refine And.intro (by kernel_rfl) ?_ | refine And.intro (by decide) ?_ | refine And.intro (fun _ => ?_) (fun h => absurd h (by decide)) | refine And.intro (fun h => absurd h (by decide)) (fun _ => ?_) | fail); conv => whnf) | (refine And.intro (fun _ => ?_) (fun _ => ?_) <;> conv => whnf) | fail)
      all_goals try (refine Or.inl ?_; conv => whnf)
    all_goals try exact (bnl d1 ‹_›).elim
    all_goals try exact (bnl d2 ‹_›).elim
    refine ⟨i + 1, hlt, show brk t - (i + 1) < brk t - i by omega, ?_⟩
    all_goals refine ⟨[], ?_⟩
    repeat (any_goals (first | exact True.intro | exact rfl | with_reducible_and_instances rfl | exact (by kernel_rfl) | refine And.intro ?_ ?_))
    all_goals conv => whnf
    exact wk1 (by omega)
  have hib : i = brk t := by omega
  have d1 : decide ((i : Int) < ((⟨t.toArray⟩ : ByteArray).size : Nat)) = true := decide_eq_true (by rw [tsz]; omega)
  rw [← hib] at hok hbx
  obtain ⟨qb, eb⟩ := ix_get hbx
  have db : ((((123 : UInt8).toNat : Nat) : Int) != 123) = false := by decide
  iterate 2
    repeat' (first | exact True.intro | ((first | (refine ⟨i, qb, rfl, ?_⟩; rw [eb]) | refine And.intro (fun _ => ?_) tf | refine And.intro ft (fun _ => ?_) | refine And.intro (by kernel_rfl) ?_ | refine And.intro (by decide) ?_ | refine And.intro (fun _ => ?_) (fun h => absurd h (by decide)) | refine And.intro (fun h => absurd h (by decide)) (fun _ => ?_) | refine ⟨_, _, up_L Tryd.underlying9 (by omega), ?_⟩ | fail); conv => whnf) | (refine And.intro (fun _ => ?_) (fun _ => ?_) <;> conv => whnf) | fail)
    all_goals try (refine Or.inl ?_; conv => whnf)
  all_goals try exact (bnl d1 ‹_›).elim
  all_goals try exact (bnl ‹_› db).elim
  iterate 2
    repeat' (first | exact True.intro | ((first | refine And.intro (fun _ => ?_) tf | refine And.intro ft (fun _ => ?_) | refine And.intro (by kernel_rfl) ?_ | refine And.intro (by decide) ?_ | refine And.intro (fun _ => ?_) (fun h => absurd h (by decide)) | refine And.intro (fun h => absurd h (by decide)) (fun _ => ?_) | fail); conv => whnf) | (refine And.intro (fun _ => ?_) (fun _ => ?_) <;> conv => whnf) | fail)
    all_goals try (refine Or.inl ?_; conv => whnf)
  all_goals try exact (bnl d1 ‹_›).elim
  refine ⟨Nat × Bt × Bt × List Lab, fun y => i + 1 ≤ y.1 ∧ y.1 ≤ t.length ∧ rgo (t.drop y.1) y.2.1 y.2.2.1 y.2.2.2 = rgo (t.drop (i + 1)) [] [] [] ∧ y.2.1.length ≤ y.1 ∧ y.2.2.2.length ≤ 9, fun y => ([(8, iA y.1), (7, .ptr 2 0), (6, .d (tD y.2.1)), (5, .ptr 1 0), (2, .ptr 0 0), (0, .d (tD t))], [.cells [.d (tD []), .d (.v (.slice none 0 0))], .cells [.d (tD (t.take i)), .own 3], .cells [.d (tD y.2.2.1), .d (tD [])], .sl 2 (y.2.2.2.map labR)]), fun y => t.length - y.1, ⟨(i + 1, [], [], []), ⟨Nat.le_refl _, by omega, rfl, Nat.zero_le _, Nat.zero_le _⟩, ?_⟩, ?_⟩
  · all_goals refine ⟨[], ?_⟩
    repeat (any_goals (first | exact True.intro | exact rfl | with_reducible_and_instances rfl | exact (by kernel_rfl) | refine And.intro ?_ ?_))
    all_goals conv => whnf
    exact wk1 (by omega)
  rintro ⟨k, w, ln, ls⟩ ⟨h1, h2, hI, h4, h5⟩
  simp only at h1 h2 hI h4 h5
  have hls : (ls.map labR).length = ls.length := List.length_map _
  conv => whnf
  by_cases hlk : k < t.length
  case neg =>
    have d2 : decide ((k : Int) < ((⟨t.toArray⟩ : ByteArray).size : Nat)) = false := decide_eq_false (by rw [tsz]; omega)
    have hfin : rgo (t.drop (i + 1)) [] [] [] = ls := by rw [← hI, List.drop_of_length_le (by omega)]; rfl
    rw [hfin] at hok
    have tx := rText_sat (t.take i, ls)
    iterate 5
      repeat' (first | exact True.intro | ((first | refine And.intro (fun _ => ?_) tf | refine And.intro ft (fun _ => ?_) | refine And.intro (by kernel_rfl) ?_ | refine And.intro (by decide) ?_ | refine And.intro (fun _ => ?_) (fun h => absurd h (by decide)) | refine And.intro (fun h => absurd h (by decide)) (fun _ => ?_) | refine ⟨_, _, tx.lendAgg rfl rfl, ?_⟩ | refine ⟨_, _, neL', ?_⟩ | refine ⟨_, _, eqL' (b := []), ?_⟩ | fail); conv => whnf) | (refine And.intro (fun _ => ?_) (fun _ => ?_) <;> conv => whnf) | fail)
      all_goals try (refine Or.inl ?_; conv => whnf)
    all_goals try exact (bnl ‹_› d2).elim
    all_goals try exact (hok ⟨by simpa using ‹(!decide (textS (t.take i, ls) = t)) = false›, by simpa using ‹decide (t = []) = false›⟩).elim
    all_goals refine ⟨[], ?_⟩
    repeat (any_goals (first | exact True.intro | exact rfl | with_reducible_and_instances rfl | exact (by kernel_rfl) | refine And.intro ?_ ?_))
    all_goals conv => whnf
  have d2 : decide ((k : Int) < ((⟨t.toArray⟩ : ByteArray).size : Nat)) = true := decide_eq_true (by rw [tsz]; omega)
  have hx : t[k]? = some t[k] := List.getElem?_eq_getElem (by omega)
  generalize t[k] = x at hx
  obtain ⟨qx, ex⟩ := ix_get hx
  rw [drop_cons hx] at hI
  by_cases h9 : ls.length ≤ 8
  case neg =>
    have d3 : decide (((ls.map labR).length : Int) ≤ 8) = false := decide_eq_false (by rw [hls]; omega)
    have hfin : rgo (t.drop (i + 1)) [] [] [] = ls := by rw [← hI, rgo, if_pos (by omega)]
    rw [hfin] at hok
    have tx := rText_sat (t.take i, ls)
    iterate 5
      repeat' (first | exact True.intro | ((first | refine And.intro (fun _ => ?_) tf | refine And.intro ft (fun _ => ?_) | refine And.intro (by kernel_rfl) ?_ | refine And.intro (by decide) ?_ | refine And.intro (fun _ => ?_) (fun h => absurd h (by decide)) | refine And.intro (fun h => absurd h (by decide)) (fun _ => ?_) | refine ⟨_, _, tx.lendAgg rfl rfl, ?_⟩ | refine ⟨_, _, neL', ?_⟩ | refine ⟨_, _, eqL' (b := []), ?_⟩ | fail); conv => whnf) | (refine And.intro (fun _ => ?_) (fun _ => ?_) <;> conv => whnf) | fail)
      all_goals try (refine Or.inl ?_; conv => whnf)
    all_goals try exact (bnl d2 ‹_›).elim
    all_goals try exact (bnl ‹_› d3).elim
    all_goals try exact (hok ⟨by simpa using ‹(!decide (textS (t.take i, ls) = t)) = false›, by simpa using ‹decide (t = []) = false›⟩).elim
    all_goals refine ⟨[], ?_⟩
    repeat (any_goals (first | exact True.intro | exact rfl | with_reducible_and_instances rfl | exact (by kernel_rfl) | refine And.intro ?_ ?_))
    all_goals conv => whnf
  have d3 : decide (((ls.map labR).length : Int) ≤ 8) = true := decide_eq_true (by rw [hls]; omega)
  rw [rgo, if_neg (by omega)] at hI
  have pc : ∀ {L : List AObj} {ty n : Nat} {x' y z : Operand}, Does Tryd.prog (.slice 9 x' (some y) (some z) none) ty L n [.d (tD t), .d (.v (.int .i64 (k : Int))), .d (.v (.int .i64 (IntKind.i64.wrap ((k : Int) + 1))))] e0 (.d (tD [x])) := by
    intro L ty n x' y z
    have := piece_L (P := Tryd.prog) (L := L) (ty := ty) (n := n) (x := x') (y := y) (z := z) (a := t) (i := k) (j := k + 1) Tryd.underlying9 (by omega) (by omega)
    rw [show (t.take (k + 1)).drop k = [x] from by rw [List.take_add_one, hx]; exact List.drop_left' (by rw [List.length_take]; omega)] at this
    rwa [show IntKind.i64.wrap ((k : Int) + 1) = ((k + 1 : Nat) : Int) from by rw [wi (by omega) (by omega)]; rfl]
  by_cases c61 : x = 61
  · rw [if_pos c61] at hI
    have e1 : ((x.toNat : Int) == 61) = true := by rw [c61]; rfl
    iterate 6
      repeat' (first | exact True.intro | ((first | (refine ⟨k, qx, rfl, ?_⟩; rw [ex]) | refine And.intro (fun _ => ?_) tf | refine And.intro ft (fun _ => ?_) | refine And.intro (by kernel_rfl) ?_ | refine And.intro (by decide) ?_ | refine And.intro (fun _ => ?_) (fun h => absurd h (by decide)) | refine And.intro (fun h => absurd h (by decide)) (fun _ => ?_) | fail); conv => whnf) | (refine And.intro (fun _ => ?_) (fun _ => ?_) <;> conv => whnf) | fail)
      all_goals try (refine Or.inl ?_; conv => whnf)
    all_goals try exact (bnl d2 ‹_›).elim
    all_goals try exact (bnl d3 ‹_›).elim
    all_goals try exact (bnl e1 ‹_›).elim
    refine ⟨(k + 1, [], w, ls), ⟨by omega, by omega, hI, Nat.zero_le _, h5⟩, show t.length - (k + 1) < t.length - k by omega, ?_⟩
    all_goals refine ⟨[], ?_⟩
    repeat (any_goals (first | exact True.intro | exact rfl | with_reducible_and_instances rfl | exact (by kernel_rfl) | refine And.intro ?_ ?_))
    all_goals conv => whnf
    exact wk1 (by omega)
  have e1 : ((x.toNat : Int) == 61) = false := by
    rw [beq_eq_false_iff_ne]
    exact fun h => c61 (UInt8.toNat.inj (by show x.toNat = 61; omega))
  rw [if_neg c61] at hI
  have apx : ∀ {L : List AObj} {ty n s : Nat} {sx xx : Operand} (y : Lab), s = 2 → L[3]? = some (.sl 2 (ls.map labR)) → L[4]? = some (.sl s [labR y]) → Does Tryd.prog (.call { callee := .builtin .append, args := #[sx, xx], argTypes := #[30, 30] }) ty L n [.own 3, .own 4] ⟨[3, 4], [(3, .dead)], [.sl 2 (ls.map labR ++ [labR y])]⟩ (.own n) := fun y hs h h' => by
    subst hs
    exact ap 2 32 (by kernel_rfl) h h' (by rw [hls]; simp only [List.length_cons, List.length_nil]; omega)
  by_cases c44 : x = 44
  · rw [if_pos (.inl c44)] at hI
    have e2 : ((x.toNat : Int) == 44) = true := by rw [c44]; rfl
    iterate 7
      repeat' (first | exact True.intro | ((first | (refine ⟨k, qx, rfl, ?_⟩; rw [ex]) | refine And.intro (fun _ => ?_) tf | refine And.intro ft (fun _ => ?_) | refine And.intro (by kernel_rfl) ?_ | refine And.intro (by decide) ?_ | refine And.intro (fun _ => ?_) (fun h => absurd h (by decide)) | refine And.intro (fun h => absurd h (by decide)) (fun _ => ?_) | refine ⟨_, _, apx (ln, w) (by kernel_rfl) rfl rfl, ?_⟩ | fail); conv => whnf) | (refine And.intro (fun _ => ?_) (fun _ => ?_) <;> conv => whnf) | fail)
      all_goals try (refine Or.inl ?_; conv => whnf)
    all_goals try exact (bnl d2 ‹_›).elim
    all_goals try exact (bnl d3 ‹_›).elim
    all_goals try exact (bnl ‹_› e1).elim
    all_goals try exact (bnl e2 ‹_›).elim
    refine ⟨(k + 1, [], [], ls ++ [(ln, w)]), ⟨by omega, by omega, hI, Nat.zero_le _, by rw [List.length_append]; simp; omega⟩, show t.length - (k + 1) < t.length - k by omega, ?_⟩
    all_goals refine ⟨[(3, 5)], ?_⟩
    repeat (any_goals (first | exact True.intro | exact rfl | with_reducible_and_instances rfl | exact (by kernel_rfl) | refine And.intro ?_ ?_))
    all_goals conv => whnf
    · exact wk1 (by omega)
    · rw [List.map_append]; rfl
  have e2 : ((x.toNat : Int) == 44) = false := by
    rw [beq_eq_false_iff_ne]
    exact fun h => c44 (UInt8.toNat.inj (by show x.toNat = 44; omega))
  by_cases c125 : x = 125
  · rw [if_pos (.inr c125)] at hI
    have e3 : ((x.toNat : Int) == 125) = true := by rw [c125]; rfl
    iterate 8
      repeat' (first | exact True.intro | ((first | (refine ⟨k, qx, rfl, ?_⟩; rw [ex]) | refine And.intro (fun _ => ?_) tf | refine And.intro ft (fun _ => ?_) | refine And.intro (by kernel_rfl) ?_ | refine And.intro (by decide) ?_ | refine And.intro (fun _ => ?_) (fun h => absurd h (by decide)) | refine And.intro (fun h => absurd h (by decide)) (fun _ => ?_) | refine ⟨_, _, apx (ln, w) (by kernel_rfl) rfl rfl, ?_⟩ | fail); conv => whnf) | (refine And.intro (fun _ => ?_) (fun _ => ?_) <;> conv => whnf) | fail)
      all_goals try (refine Or.inl ?_; conv => whnf)
    all_goals try exact (bnl d2 ‹_›).elim
    all_goals try exact (bnl d3 ‹_›).elim
    all_goals try exact (bnl ‹_› e1).elim
    all_goals try exact (bnl ‹_› e2).elim
    all_goals try exact (bnl e3 ‹_›).elim
    refine ⟨(k + 1, [], [], ls ++ [(ln, w)]), ⟨by omega, by omega, hI, Nat.zero_le _, by rw [List.length_append]; simp; omega⟩, show t.length - (k + 1) < t.length - k by omega, ?_⟩
    all_goals refine ⟨[(3, 5)], ?_⟩
    repeat (any_goals (first | exact True.intro | exact rfl | with_reducible_and_instances rfl | exact (by kernel_rfl) | refine And.intro ?_ ?_))
    all_goals conv => whnf
    · exact wk1 (by omega)
    · rw [List.map_append]; rfl
  have e3 : ((x.toNat : Int) == 125) = false := by
    rw [beq_eq_false_iff_ne]
    exact fun h => c125 (UInt8.toNat.inj (by show x.toNat = 125; omega))
  rw [if_neg (fun h => h.elim c44 c125)] at hI
  iterate 8
    repeat' (first | exact True.intro | ((first | (refine ⟨k, qx, rfl, ?_⟩; rw [ex]) | refine And.intro (fun _ => ?_) tf | refine And.intro ft (fun _ => ?_) | refine And.intro (by kernel_rfl) ?_ | refine And.intro (by decide) ?_ | refine And.intro (fun _ => ?_) (fun h => absurd h (by decide)) | refine And.intro (fun h => absurd h (by decide)) (fun _ => ?_) | refine ⟨_, _, pc, ?_⟩ | refine ⟨_, _, addL' (by simp only [List.length_cons, List.length_nil]; omega), ?_⟩ | fail); conv => whnf) | (refine And.intro (fun _ => ?_) (fun _ => ?_) <;> conv => whnf) | fail)
    all_goals try (refine Or.inl ?_; conv => whnf)
  all_goals try exact (bnl d2 ‹_›).elim
  all_goals try exact (bnl d3 ‹_›).elim
  all_goals try exact (bnl ‹_› e1).elim
  all_goals try exact (bnl ‹_› e2).elim
  all_goals try exact (bnl ‹_› e3).elim
  refine ⟨(k + 1, w ++ [x], ln, ls), ⟨by omega, by omega, hI, by rw [List.length_append]; simp; omega, h5⟩, show t.length - (k + 1) < t.length - k by omega, ?_⟩
  all_goals refine ⟨[], ?_⟩
  repeat (any_goals (first | exact True.intro | exact rfl | with_reducible_and_instances rfl | exact (by kernel_rfl) | refine And.intro ?_ ?_))
  all_goals conv => whnf
  exact wk1 (by omega)
set_option maxHeartbeats 16000000 in
theorem rParse_some (t : Bt) (ht : t.length ≤ 1000000) (hok : textS (refS t) = t ∧ t ≠ []) : Sat Tryd.prog 21 [.d (tD t)] [] (.tup [.d (serD (refS t)), bA true]) [] := by
  have hsz := tsz t
  have hbl := brk_le t
  rcases brk_cut t with ⟨hb, hc⟩ | ⟨hb, hbx, hc⟩
  · have hS : refS t = (t, []) := by unfold refS; rw [hc]; rfl
    rw [hS] at hok ⊢
    refine Sat.post (r := .tup [.d (.agg [tD t, nilV]), bA true]) ?_ fun w F ρ v h => nilTup h
    refine sat_of_vc (T := tiOf Tryd.prog) (E := E0) Tryd.func21 rfl rfl hE0 hm0 rfl ?_
    conv => whnf
    iterate 2
      repeat' (first | exact True.intro | ((first | refine And.intro (fun _ => ?_) tf | refine And.intro ft (fun _ => ?_) | refine And.intro (by kernel_rfl) ?_ | refine And.intro (by decide) ?_ | refine And.intro (fun _ => ?_) (fun h => absurd h (by decide)) | refine And.intro (fun h => absurd h (by decide)) (fun _ => ?_) | fail); conv => whnf) | (refine And.intro (fun _ => ?_) (fun _ => ?_) <;> conv => whnf) | fail)
      all_goals try (refine Or.inl ?_; conv => whnf)
    refine ⟨Nat, fun i => i ≤ brk t, fun i => ([(4, iA i), (2, .ptr 0 0), (0, .d (tD t))], [.cells [.d (tD []), .d (.v (.slice none 0 0))]]), fun i => brk t - i, ⟨0, Nat.zero_le _, ?_⟩, ?_⟩
    · all_goals refine ⟨[], ?_⟩
      repeat (any_goals (first | exact True.intro | exact rfl | with_reducible_and_instances rfl | exact (by kernel_rfl) | refine And.intro ?_ ?_))
      all_goals conv => whnf
    intro i hi
    have hi : i ≤ brk t := hi
    conv => whnf
    by_cases hlt : i < brk t
    · have hx : t[i]? = some t[i] := List.getElem?_eq_getElem (by omega)
      generalize t[i] = x at hx
      obtain ⟨qx, ex⟩ := ix_get hx
      have hne := brk_ne hlt hx
      have d1 : decide ((i : Int) < ((⟨t.toArray⟩ : ByteArray).size : Nat)) = true := decide_eq_true (by rw [tsz]; omega)
      have d2 : ((x.toNat : Int) != 123) = true := by
        rw [bne_iff_ne]
        exact fun h => hne (UInt8.toNat.inj (by show x.toNat = 123; omega))
      iterate 3
        repeat' (first | exact True.intro | ((first | (refine ⟨i, qx, rfl, ?_⟩; rw [ex]) | refine And.intro (fun _ => ?_) tf | refine And.intro ft (fun _ => ?_) | refine And.intro (by kernel_rfl) ?_ | refine And.intro (by decide) ?_ | refine And.intro (fun _ => ?_) (fun h => absurd h (by decide)) | refine And.intro (fun h => absurd h (by decide)) (fun _ => ?_) | fail); conv => whnf) | (refine And.intro (fun _ => ?_) (fun _ => ?_) <;> conv => whnf) | fail)
        all_goals try (refine Or.inl ?_; conv => whnf)
      all_goals try exact (bnl d1 ‹_›).elim
      all_goals try exact (bnl d2 ‹_›).elim
      refine ⟨i + 1, hlt, show brk t - (i + 1) < brk t - i by omega, ?_⟩
      all_goals refine ⟨[], ?_⟩
      repeat (any_goals (first | exact True.intro | exact rfl | with_reducible_and_instances rfl | exact (by kernel_rfl) | refine And.intro ?_ ?_))
      all_goals conv => whnf
      exact wk1 (by omega)
    have hib : i = brk t := by omega
    have hit : t.take i = t := List.take_of_length_le (by omega)
    have d1 : decide ((i : Int) < ((⟨t.toArray⟩ : ByteArray).size : Nat)) = false := decide_eq_false (by rw [tsz]; omega)
    have tx := rTextNil (t.take i)
    have hok2 : (textS (t.take i, []) = t ∧ t ≠ []) := by rw [hit]; exact hok
    iterate 4
      repeat' (first | exact True.intro | ((first | refine And.intro (fun _ => ?_) tf | refine And.intro ft (fun _ => ?_) | refine And.intro (by kernel_rfl) ?_ | refine And.intro (by decide) ?_ | refine And.intro (fun _ => ?_) (fun h => absurd h (by decide)) | refine And.intro (fun h => absurd h (by decide)) (fun _ => ?_) | refine ⟨_, _, up_L Tryd.underlying9 (by omega), ?_⟩ | refine ⟨_, _, tx.pu rfl rfl, ?_⟩ | refine ⟨_, _, neL', ?_⟩ | refine ⟨_, _, eqL' (b := []), ?_⟩ | fail); conv => whnf) | (refine And.intro (fun _ => ?_) (fun _ => ?_) <;> conv => whnf) | fail)
      all_goals try (refine Or.inl ?_; conv => whnf)
    all_goals try exact (bnl ‹_› d1).elim
    all_goals try exact (bnl ‹(!decide (textS (t.take i, []) = t)) = true› (by rw [decide_eq_true hok2.1]; rfl)).elim
    all_goals try exact (bnl ‹decide (t = []) = true› (decide_eq_false hok2.2)).elim
    all_goals refine ⟨[], ?_⟩
    repeat (any_goals (first | exact True.intro | exact rfl | with_reducible_and_instances rfl | exact (by kernel_rfl) | refine And.intro ?_ ?_))
    all_goals conv => whnf
    rw [hit]
  have hS : refS t = (t.take (brk t), rgo (t.drop (brk t + 1)) [] [] []) := by unfold refS; rw [hc]; rfl
  rw [hS] at hok ⊢
  refine sat_of_vc (T := tiOf Tryd.prog) (E := E0) Tryd.func21 rfl rfl hE0 hm0 rfl ?_
  conv => whnf
  iterate 2
    repeat' (first | exact True.intro | ((first | refine And.intro (fun _ => ?_) tf | refine And.intro ft (fun _ => ?_) | refine And.intro (by kernel_rfl) ?_ | refine And.intro (by decide) ?_ | refine And.intro (fun _ => ?_) (fun h => absurd h (by decide)) | refine And.intro (fun h => absurd h (by decide)) (fun _ => ?_) | fail); conv => whnf) | (refine And.intro (fun _ => ?_) (fun _ => ?_) <;> conv => whnf) | fail)
    all_goals try (refine Or.inl ?_; conv => whnf)
  refine ⟨Nat, fun i => i ≤ brk t, fun i => ([(4, iA i), (2, .ptr 0 0), (0, .d (tD t))], [.cells [.d (tD []), .d (.v (.slice none 0 0))]]), fun i => brk t - i, ⟨0, Nat.zero_le _, ?_⟩, ?_⟩
  · all_goals refine ⟨[], ?_⟩
    repeat (any_goals (first | exact True.intro | exact rfl | with_reducible_and_instances rfl | exact (by kernel_rfl) | refine And.intro ?_ ?_))
    all_goals conv => whnf
  intro i hi
  have hi : i ≤ brk t := hi
  conv => whnf
  by_cases hlt : i < brk t
  · have hx : t[i]? = some t[i] := List.getElem?_eq_getElem (by omega)
    generalize t[i] = x at hx
    obtain ⟨qx, ex⟩ := ix_get hx
    have hne := brk_ne hlt hx
    have d1 : decide ((i : Int) < ((⟨t.toArray⟩ : ByteArray).size : Nat)) = true := decide_eq_true (by rw [tsz]; omega)
    have d2 : ((x.toNat : Int) != 123) = true := by
      rw [bne_iff_ne]
      exact fun h => hne (UInt8.toNat.inj (by show x.toNat = 123; omega))
    iterate 3
      repeat' (first | exact True.intro | ((first | (refine ⟨i, qx, rfl, ?_⟩; rw [ex]) | refine And.intro (fun _ => ?_) tf | refine And.intro ft (fun _ => ?_) | refine And.intro (by kernel_rfl) ?_ | refine And.intro (by decide) ?_ | refine And.intro (fun _ => ?_) (fun h => absurd h (by decide)) | refine And.intro (fun h => absurd h (by decide)) (fun _ => ?_) | fail); conv => whnf) | (refine And.intro (fun _ => ?_) (fun _ => ?_) <;> conv => whnf) | fail)
      all_goals try (refine Or.inl ?_; conv => whnf)
    all_goals try exact (bnl d1 ‹_›).elim
    all_goals try exact (bnl d2 ‹_›).elim
    refine ⟨i + 1, hlt, show brk t - (i + 1) < brk t - i by omega, ?_⟩
    all_goals refine ⟨[], ?_⟩
    repeat (any_goals (first | exact True.intro | exact rfl | with_reducible_and_instances rfl | exact (by kernel_rfl) | refine And.intro ?_ ?_))
    all_goals conv => whnf
    exact wk1 (by omega)
  have hib : i = brk t := by omega
  have d1 : decide ((i : Int) < ((⟨t.toArray⟩ : ByteArray).size : Nat)) = true := decide_eq_true (by rw [tsz]; omega)
  rw [← hib] at hok hbx ⊢
  obtain ⟨qb, eb⟩ := ix_get hbx
  have db : ((((123 : UInt8).toNat : Nat) : Int) != 123) = false := by decide
  iterate 2
    repeat' (first | exact True.intro | ((first | (refine ⟨i, qb, rfl, ?_⟩; rw [eb]) | refine And.intro (fun _ => ?_) tf | refine And.intro ft (fun _ => ?_) | refine And.intro (by kernel_rfl) ?_ | refine And.intro (by decide) ?_ | refine And.intro (fun _ => ?_) (fun h => absurd h (by decide)) | refine And.intro (fun h => absurd h (by decide)) (fun _ => ?_) | refine ⟨_, _, up_L Tryd.underlying9 (by omega), ?_⟩ | fail); conv => whnf) | (refine And.intro (fun _ => ?_) (fun _ => ?_) <;> conv => whnf) | fail)
    all_goals try (refine Or.inl ?_; conv => whnf)
  all_goals try exact (bnl d1 ‹_›).elim
  all_goals try exact (bnl ‹_› db).elim
  iterate 2
    repeat' (first | exact True.intro | ((first | refine And.intro (fun _ => ?_) tf | refine And.intro ft (fun _ => ?_) | refine And.intro (by kernel_rfl) ?_ | refine And.intro (by decide) ?_ | refine And.intro (fun _ => ?_) (fun h => absurd h (by decide)) | refine And.intro (fun h => absurd h (by decide)) (fun _ => ?_) | fail); conv => whnf) | (refine And.intro (fun _ => ?_) (fun _ => ?_) <;> conv => whnf) | fail)
    all_goals try (refine Or.inl ?_; conv => whnf)
  all_goals try exact (bnl d1 ‹_›).elim
  refine ⟨Nat × Bt × Bt × List Lab, fun y => i + 1 ≤ y.1 ∧ y.1 ≤ t.length ∧ rgo (t.drop y.1) y.2.1 y.2.2.1 y.2.2.2 = rgo (t.drop (i + 1)) [] [] [] ∧ y.2.1.length ≤ y.1 ∧ y.2.2.2.length ≤ 9, fun y => ([(8, iA y.1), (7, .ptr 2 0), (6, .d (tD y.2.1)), (5, .ptr 1 0), (2, .ptr 0 0), (0, .d (tD t))], [.cells [.d (tD []), .d (.v (.slice none 0 0))], .cells [.d (tD (t.take i)), .own 3], .cells [.d (tD y.2.2.1), .d (tD [])], .sl 2 (y.2.2.2.map labR)]), fun y => t.length - y.1, ⟨(i + 1, [], [], []), ⟨Nat.le_refl _, by omega, rfl, Nat.zero_le _, Nat.zero_le _⟩, ?_⟩, ?_⟩
  · all_goals refine ⟨[], ?_⟩
    repeat (any_goals (first | exact True.intro | exact rfl | with_reducible_and_instances rfl | exact (by kernel_rfl) | refine And.intro ?_ ?_))
    all_goals conv => whnf
    exact wk1 (by omega)
  rintro ⟨k, w, ln, ls⟩ ⟨h1, h2, hI, h4, h5⟩
  simp only at h1 h2 hI h4 h5
  have hls : (ls.map labR).length = ls.length := List.length_map _
  conv => whnf
  by_cases hlk : k < t.length
  case neg =>
    have d2 : decide ((k : Int) < ((⟨t.toArray⟩ : ByteArray).size : Nat)) = false := decide_eq_false (by rw [tsz]; omega)
    have hfin : rgo (t.drop (i + 1)) [] [] [] = ls := by rw [← hI, List.drop_of_length_le (by omega)]; rfl
    rw [hfin] at hok ⊢
    have tx := rText_sat (t.take i, ls)
    iterate 5
      repeat' (first | exact True.intro | ((first | refine And.intro (fun _ => ?_) tf | refine And.intro ft (fun _ => ?_) | refine And.intro (by kernel_rfl) ?_ | refine And.intro (by decide) ?_ | refine And.intro (fun _ => ?_) (fun h => absurd h (by decide)) | refine And.intro (fun h => absurd h (by decide)) (fun _ => ?_) | refine ⟨_, _, tx.lendAgg rfl rfl, ?_⟩ | refine ⟨_, _, neL', ?_⟩ | refine ⟨_, _, eqL' (b := []), ?_⟩ | fail); conv => whnf) | (refine And.intro (fun _ => ?_) (fun _ => ?_) <;> conv => whnf) | fail)
      all_goals try (refine Or.inl ?_; conv => whnf)
    all_goals try exact (bnl ‹_› d2).elim
    all_goals try exact (bnl ‹(!decide (textS (t.take i, ls) = t)) = true› (by rw [decide_eq_true hok.1]; rfl)).elim
    all_goals try exact (bnl ‹decide (t = []) = true› (decide_eq_false hok.2)).elim
    all_goals refine ⟨[], ?_⟩
    repeat (any_goals (first | exact True.intro | exact rfl | with_reducible_and_instances rfl | exact (by kernel_rfl) | refine And.intro ?_ ?_))
    all_goals conv => whnf
  have d2 : decide ((k : Int) < ((⟨t.toArray⟩ : ByteArray).size : Nat)) = true := decide_eq_true (by rw [tsz]; omega)
  have hx : t[k]? = some t[k] := List.getElem?_eq_getElem (by omega)
  generalize t[k] = x at hx
  obtain ⟨qx, ex⟩ := ix_get hx
  rw [drop_cons hx] at hI
  by_cases h9 : ls.length ≤ 8
  case neg =>
    have d3 : decide (((ls.map labR).length : Int) ≤ 8) = false := decide_eq_false (by rw [hls]; omega)
    have hfin : rgo (t.drop (i + 1)) [] [] [] = ls := by rw [← hI, rgo, if_pos (by omega)]
    rw [hfin] at hok ⊢
    have tx := rText_sat (t.take i, ls)
    iterate 5
      repeat' (first | exact True.intro | ((first | refine And.intro (fun _ => ?_) tf | refine And.intro ft (fun _ => ?_) | refine And.intro (by kernel_rfl) ?_ | refine And.intro (by decide) ?_ | refine And.intro (fun _ => ?_) (fun h => absurd h (by decide)) | refine And.intro (fun h => absurd h (by decide)) (fun _ => ?_) | refine ⟨_, _, tx.lendAgg rfl rfl, ?_⟩ | refine ⟨_, _, neL', ?_⟩ | refine ⟨_, _, eqL' (b := []), ?_⟩ | fail); conv => whnf) | (refine And.intro (fun _ => ?_) (fun _ => ?_) <;> conv => whnf) | fail)
      all_goals try (refine Or.inl ?_; conv => whnf)
    all_goals try exact (bnl d2 ‹_›).elim
    all_goals try exact (bnl ‹_› d3).elim
    all_goals try exact (bnl ‹(!decide (textS (t.take i, ls) = t)) = true› (by rw [decide_eq_true hok.1]; rfl)).elim
    all_goals try exact (bnl ‹decide (t = []) = true› (decide_eq_false hok.2)).elim
    all_goals refine ⟨[], ?_⟩
    repeat (any_goals (first | exact True.intro | exact rfl | with_reducible_and_instances rfl | exact (by kernel_rfl) | refine And.intro ?_ ?_))
    all_goals conv => whnf
  have d3 : decide (((ls.map labR).length : Int) ≤ 8) = true := decide_eq_true (by rw [hls]; omega)
  rw [rgo, if_neg (by omega)] at hI
  have pc : ∀ {L : List AObj} {ty n : Nat} {x' y z : Operand}, Does Tryd.prog (.slice 9 x' (some y) (some z) none) ty L n [.d (tD t), .d (.v (.int .i64 (k : Int))), .d (.v (.int .i64 (IntKind.i64.wrap ((k : Int) + 1))))] e0 (.d (tD [x])) := by
    intro L ty n x' y z
    have := piece_L (P := Tryd.prog) (L := L) (ty := ty) (n := n) (x := x') (y := y) (z := z) (a := t) (i := k) (j := k + 1) Tryd.underlying9 (by omega) (by omega)
    rw [show (t.take (k + 1)).drop k = [x] from by rw [List.take_add_one, hx]; exact List.drop_left' (by rw [List.length_take]; omega)] at this
    rwa [show IntKind.i64.wrap ((k : Int) + 1) = ((k + 1 : Nat) : Int) from by rw [wi (by omega) (by omega)]; rfl]
  by_cases c61 : x = 61
  · rw [if_pos c61] at hI
    have e1 : ((x.toNat : Int) == 61) = true := by rw [c61]; rfl
    iterate 6
      repeat' (first | exact True.intro | ((first | (refine ⟨k, qx, rfl, ?_⟩; rw [ex]) | refine And.intro (fun _ => ?_) tf | refine And.intro ft (fun _ => ?_) | refine And.intro (by kernel_rfl) ?_ | refine And.intro (by decide) ?_ | refine And.intro (fun _ => ?_) (fun h => absurd h (by decide)) | refine And.intro (fun h => absurd h (by decide)) (fun _ => ?_) | fail); conv => whnf) | (refine And.intro (fun _ => ?_) (fun _ => ?_) <;> conv => whnf) | fail)
      all_goals try (refine Or.inl ?_; conv => whnf)
    all_goals try exact (bnl d2 ‹_›).elim
    all_goals try exact (bnl d3 ‹_›).elim
    all_goals try exact (bnl e1 ‹_›).elim
    refine ⟨(k + 1, [], w, ls), ⟨by omega, by omega, hI, Nat.zero_le _, h5⟩, show t.length - (k + 1) < t.length - k by omega, ?_⟩
    all_goals refine ⟨[], ?_⟩
    repeat (any_goals (first | exact True.intro | exact rfl | with_reducible_and_instances rfl | exact (by kernel_rfl) | refine And.intro ?_ ?_))
    all_goals conv => whnf
    exact wk1 (by omega)
  have e1 : ((x.toNat : Int) == 61) = false := by
    rw [beq_eq_false_iff_ne]
    exact fun h => c61 (UInt8.toNat.inj (by show x.toNat = 61; omega))
  rw [if_neg c61] at hI
  have apx : ∀ {L : List AObj} {ty n s : Nat} {sx xx : Operand} (y : Lab), s = 2 → L[3]? = some (.sl 2 (ls.map labR)) → L[4]? = some (.sl s [labR y]) → Does Tryd.prog (.call { callee := .builtin .append, args := #[sx, xx], argTypes := #[30, 30] }) ty L n [.own 3, .own 4] ⟨[3, 4], [(3, .dead)], [.sl 2 (ls.map labR ++ [labR y])]⟩ (.own n) := fun y hs h h' => by
    subst hs
    exact ap 2 32 (by kernel_rfl) h h' (by rw [hls]; simp only [List.length_cons, List.length_nil]; omega)
  by_cases c44 : x = 44
  · rw [if_pos (.inl c44)] at hI
    have e2 : ((x.toNat : Int) == 44) = true := by rw [c44]; rfl
    iterate 7
      repeat' (first | exact True.intro | ((first | (refine ⟨k, qx, rfl, ?_⟩; rw [ex]) | refine And.intro (fun _ => ?_) tf | refine And.intro ft (fun _ => ?_) | refine And.intro (by kernel_rfl) ?_ | refine And.intro (by decide) ?_ | refine And.intro (fun _ => ?_) (fun h => absurd h (by decide)) | refine And.intro (fun h => absurd h (by decide)) (fun _ => ?_) | refine ⟨_, _, apx (ln, w) (by kernel_rfl) rfl rfl, ?_⟩ | fail); conv => whnf) | (refine And.intro (fun _ => ?_) (fun _ => ?_) <;> conv => whnf) | fail)
      all_goals try (refine Or.inl ?_; conv => whnf)
    all_goals try exact (bnl d2 ‹_›).elim
    all_goals try exact (bnl d3 ‹_›).elim
    all_goals try exact (bnl ‹_› e1).elim
    all_goals try exact (bnl e2 ‹_›).elim
    refine ⟨(k + 1, [], [], ls ++ [(ln, w)]), ⟨by omega, by omega, hI, Nat.zero_le _, by rw [List.length_append]; simp; omega⟩, show t.length - (k + 1) < t.length - k by omega, ?_⟩
    all_goals refine ⟨[(3, 5)], ?_⟩
    repeat (any_goals (first | exact True.intro | exact rfl | with_reducible_and_instances rfl | exact (by kernel_rfl) | refine And.intro ?_ ?_))
    all_goals conv => whnf
    · exact wk1 (by omega)
    · rw [List.map_append]; rfl
  have e2 : ((x.toNat : Int) == 44) = false := by
    rw [beq_eq_false_iff_ne]
    exact fun h => c44 (UInt8.toNat.inj (by show x.toNat = 44; omega))
  by_cases c125 : x = 125
  · rw [if_pos (.inr c125)] at hI
    have e3 : ((x.toNat : Int) == 125) = true := by rw [c125]; rfl
    iterate 8
      repeat' (first | exact True.intro | ((first | (refine ⟨k, qx, rfl, ?_⟩; rw [ex]) | refine And.intro (fun _ => ?_) tf | refine And.intro ft (fun _ => ?_) | refine And.intro (by kernel_rfl) ?_ | refine And.intro (by decide) ?_ | refine And.intro (fun _ => ?_) (fun h => absurd h (by decide)) | refine And.intro (fun h => absurd h (by decide)) (fun _ => ?_) | refine ⟨_, _, apx (ln, w) (by kernel_rfl) rfl rfl, ?_⟩ | fail); conv => whnf) | (refine And.intro (fun _ => ?_) (fun _ => ?_) <;> conv => whnf) | fail)
      all_goals try (refine Or.inl ?_; conv => whnf)
    all_goals try exact (bnl d2 ‹_›).elim
    all_goals try exact (bnl d3 ‹_›).elim
    all_goals try exact (bnl ‹_› e1).elim
    all_goals try exact (bnl ‹_› e2).elim
    all_goals try exact (bnl e3 ‹_›).elim
    refine ⟨(k + 1, [], [], ls ++ [(ln, w)]), ⟨by omega, by omega, hI, Nat.zero_le _, by rw [List.length_append]; simp; omega⟩, show t.length - (k + 1) < t.length - k by omega, ?_⟩
    all_goals refine ⟨[(3, 5)], ?_⟩
    repeat (any_goals (first | exact True.intro | exact rfl | with_reducible_and_instances rfl | exact (by kernel_rfl) | refine And.intro ?_ ?_))
    all_goals conv => whnf
    · exact wk1 (by omega)
    · rw [List.map_append]; rfl
  have e3 : ((x.toNat : Int) == 125) = false := by
    rw [beq_eq_false_iff_ne]
    exact fun h => c125 (UInt8.toNat.inj (by show x.toNat = 125; omega))
  rw [if_neg (fun h => h.elim c44 c125)] at hI
  iterate 8
    repeat' (first | exact True.intro | ((first | (refine ⟨k, qx, rfl, ?_⟩; rw [ex]) | refine And.intro (fun _ => ?_) tf | refine And.intro ft (fun _ => ?_) | refine And.intro (by kernel_rfl) ?_ | refine And.intro (by decide) ?_ | refine And.intro (fun _ => ?_) (fun h => absurd h (by decide)) | refine And.intro (fun h => absurd h (by decide)) (fun _ => ?_) | refine ⟨_, _, pc, ?_⟩ | refine ⟨_, _, addL' (by simp only [List.length_cons, List.length_nil]; omega), ?_⟩ | fail); conv => whnf) | (refine And.intro (fun _ => ?_) (fun _ => ?_) <;> conv => whnf) | fail)
    all_goals try (refine Or.inl ?_; conv => whnf)
  all_goals try exact (bnl d2 ‹_›).elim
  all_goals try exact (bnl d3 ‹_›).elim
  all_goals try exact (bnl ‹_› e1).elim
  all_goals try exact (bnl ‹_› e2).elim
  all_goals try exact (bnl ‹_› e3).elim
  refine ⟨(k + 1, w ++ [x], ln, ls), ⟨by omega, by omega, hI, by rw [List.length_append]; simp; omega, h5⟩, show t.length - (k + 1) < t.length - k by omega, ?_⟩
  all_goals refine ⟨[], ?_⟩
  repeat (any_goals (first | exact True.intro | exact rfl | with_reducible_and_instances rfl | exact (by kernel_rfl) | refine And.intro ?_ ?_))
  all_goals conv => whnf
  exact wk1 (by omega)
end Go.Proofs.YtpnbpcdmiiakcaaDoor
/- LabelOrder, its law. -/
namespace Go.Proofs.YtpnbpcdmiiakcaaDoor
set_option linter.unusedSimpArgs false
open Go.RowKit
set_option maxRecDepth 100000
set_option linter.unusedVariables false
end Go.Proofs.YtpnbpcdmiiakcaaDoor
/- LabelOrder from its arguments. -/
namespace Go.Proofs.YtpnbpcdmiiakcaaDoor
set_option linter.unusedSimpArgs false
set_option linter.unusedVariables false
open Go.RowKit
set_option maxRecDepth 100000
end Go.Proofs.YtpnbpcdmiiakcaaDoor
/- LabelTexts: for all texts. -/
namespace Go.Proofs.YtpnbpcdmiiakcaaDoor
set_option linter.unusedSimpArgs false
open Go.RowKit
set_option maxRecDepth 100000
set_option linter.unusedVariables false
theorem parse_len {t : Bt} {s : Ser} (h : parseS t = some s) : s.2.length ≤ 8 := right8 (parse_right h)
set_option maxHeartbeats 4000000 in
theorem texts8_sat (t : Bt) : Sat Tryd.prog 4 [.d (tD t)] [] (bA true) [] := by
  have hsz := tsz t
  by_cases ht : t.length ≤ 1500
  case neg =>
    have d0 : decide (((⟨t.toArray⟩ : ByteArray).size : Int) > 1500) = true := decide_eq_true (by rw [hsz]; omega)
    refine sat_of_vc (T := tiOf Tryd.prog) (E := E0) Tryd.func4 rfl rfl hE0 hm0 rfl ?_
    conv => whnf
    iterate 4
      repeat' (first | exact True.intro | ((first | refine And.intro (fun _ => ?_) tf | refine And.intro ft (fun _ => ?_) | refine And.intro (by kernel_rfl) ?_ | refine And.intro (by decide) ?_ | refine And.intro (fun _ => ?_) (fun h => absurd h (by decide)) | refine And.intro (fun h => absurd h (by decide)) (fun _ => ?_) | refine ⟨_, _, alive8.pu rfl rfl, ?_⟩ | fail); conv => whnf) | (refine And.intro (fun _ => ?_) (fun _ => ?_) <;> conv => whnf) | fail)
      all_goals try (refine Or.inl ?_; conv => whnf)
    all_goals try exact (bnl d0 ‹_›).elim
    all_goals try (exfalso; simp only [decide_eq_true_eq, decide_eq_false_iff_not, Bool.not_eq_true', Bool.not_eq_false', Bool.not_eq_true, Bool.not_eq_false, beq_iff_eq, bne_iff_ne, beq_eq_false_iff_ne, bne_eq_false_iff_eq, ne_eq, Decidable.not_not] at *; first | omega | contradiction | (simp_all; done) | (simp_all; omega))
    all_goals refine ⟨[], ?_⟩
    repeat (any_goals (first | exact True.intro | exact rfl | with_reducible_and_instances rfl | exact (by kernel_rfl) | refine And.intro ?_ ?_))
    all_goals conv => whnf
  have d0 : decide (((⟨t.toArray⟩ : ByteArray).size : Int) > 1500) = false := decide_eq_false (by rw [hsz]; omega)
  cases hp : parseS t with
  | none =>
    have p1 := parse_none t (by omega) hp
    have p2 := rParse_none t (by omega) (fun h => by rw [ref_parse, if_pos h] at hp; cases hp)
    have o1 := ofS_sat ([], []) (Nat.zero_le _)
    have sm := rSame_sat ([], []) ([], []) (Nat.zero_le _) (Nat.zero_le _)
    rw [decide_eq_true rfl] at sm
    refine sat_of_vc (T := tiOf Tryd.prog) (E := E0) Tryd.func4 rfl rfl hE0 hm0 rfl ?_
    conv => whnf
    iterate 6
      repeat' (first | exact True.intro | ((first | refine And.intro (fun _ => ?_) tf | refine And.intro ft (fun _ => ?_) | refine And.intro (by kernel_rfl) ?_ | refine And.intro (by decide) ?_ | refine And.intro (fun _ => ?_) (fun h => absurd h (by decide)) | refine And.intro (fun h => absurd h (by decide)) (fun _ => ?_) | refine ⟨_, _, alive8.pu rfl rfl, ?_⟩ | refine ⟨_, _, p1.pu rfl rfl, ?_⟩ | refine ⟨_, _, p2.pu rfl rfl, ?_⟩ | refine ⟨_, _, o1.pu rfl rfl, ?_⟩ | refine ⟨_, _, sm.pu rfl rfl, ?_⟩ | refine ⟨_, _, neB (by kernel_rfl), ?_⟩ | fail); conv => whnf) | (refine And.intro (fun _ => ?_) (fun _ => ?_) <;> conv => whnf) | fail)
      all_goals try (refine Or.inl ?_; conv => whnf)
    all_goals try exact (bnl ‹_› d0).elim
    all_goals try (exfalso; simp only [decide_eq_true_eq, decide_eq_false_iff_not, Bool.not_eq_true', Bool.not_eq_false', Bool.not_eq_true, Bool.not_eq_false, beq_iff_eq, bne_iff_ne, beq_eq_false_iff_ne, bne_eq_false_iff_eq, ne_eq, Decidable.not_not] at *; first | omega | contradiction | (simp_all; done) | (simp_all; omega))
    all_goals refine ⟨[], ?_⟩
    repeat (any_goals (first | exact True.intro | exact rfl | with_reducible_and_instances rfl | exact (by kernel_rfl) | refine And.intro ?_ ?_))
    all_goals conv => whnf
  | some s =>
    have hl := parse_len hp
    have p1 := parse_some t s (by omega) hp
    have hr : textS (refS t) = t ∧ t ≠ [] := by
      rw [ref_parse] at hp
      split at hp
      · assumption
      · cases hp
    have hs : refS t = s := by
      rw [ref_parse, if_pos hr] at hp
      injection hp
    have p2 := rParse_some t (by omega) hr
    rw [hs] at p2
    have o1 := ofS_sat s (by omega)
    have sm := rSame_sat s s (by omega) (by omega)
    rw [decide_eq_true rfl] at sm
    have r1 := sRight_sat s
    rw [parse_right hp] at r1
    have t1 := text_satS s
    rw [parse_sound hp] at t1
    refine sat_of_vc (T := tiOf Tryd.prog) (E := E0) Tryd.func4 rfl rfl hE0 hm0 rfl ?_
    conv => whnf
    iterate 6
      repeat' (first | exact True.intro | ((first | refine And.intro (fun _ => ?_) tf | refine And.intro ft (fun _ => ?_) | refine And.intro (by kernel_rfl) ?_ | refine And.intro (by decide) ?_ | refine And.intro (fun _ => ?_) (fun h => absurd h (by decide)) | refine And.intro (fun h => absurd h (by decide)) (fun _ => ?_) | refine ⟨_, _, alive8.pu rfl rfl, ?_⟩ | refine ⟨_, _, p1.pu rfl rfl, ?_⟩ | refine ⟨_, _, p2.pu rfl rfl, ?_⟩ | refine ⟨_, _, o1.pu rfl rfl, ?_⟩ | refine ⟨_, _, sm.pu rfl rfl, ?_⟩ | refine ⟨_, _, neB (by kernel_rfl), ?_⟩ | refine ⟨_, _, r1.pu rfl rfl, ?_⟩ | refine ⟨_, _, t1.pu rfl rfl, ?_⟩ | refine ⟨_, _, eqL', ?_⟩ | fail); conv => whnf) | (refine And.intro (fun _ => ?_) (fun _ => ?_) <;> conv => whnf) | fail)
      all_goals try (refine Or.inl ?_; conv => whnf)
    all_goals try exact (bnl ‹_› d0).elim
    all_goals try (exfalso; simp only [decide_eq_true_eq, decide_eq_false_iff_not, Bool.not_eq_true', Bool.not_eq_false', Bool.not_eq_true, Bool.not_eq_false, beq_iff_eq, bne_iff_ne, beq_eq_false_iff_ne, bne_eq_false_iff_eq, ne_eq, Decidable.not_not] at *; first | omega | contradiction | (simp_all; done) | (simp_all; omega))
    all_goals refine ⟨[], ?_⟩
    repeat (any_goals (first | exact True.intro | exact rfl | with_reducible_and_instances rfl | exact (by kernel_rfl) | refine And.intro ?_ ?_))
    all_goals conv => whnf
    rw [decide_eq_true rfl]
end Go.Proofs.YtpnbpcdmiiakcaaDoor
/- Two closed facts on the program that every law's statement asks. -/
namespace Go.Proofs.YtpnbpcdmiiakcaaDoor
set_option linter.unusedSimpArgs false
set_option linter.unusedVariables false
open Go.RowKit
theorem own : ownKnob Tryd.prog.godebug = none := by kernel_rfl
theorem laidOut : laidOutB Tryd.prog = true := by kernel_rfl
end Go.Proofs.YtpnbpcdmiiakcaaDoor
/- From the walk of a law to its statement, where the row lists package-level variables with what they hold (a tied card). No program is named here. -/
namespace Go.Proofs.YtpnbpcdmiiakcaaDoor
set_option linter.unusedSimpArgs false
set_option linter.unusedVariables false
open Go.ChangeShapes Go.WideShapes Go.ChangeAt Go.RowKit
theorem lift_law_laid {H : Type} {enc : TypeId × Value → H} {C : Checked} {os : Os} {F : FuncId} {fn : Func} {s : ChangeSpec} {bT : TypeId} {ld : List (String × DataW Unit)} (laid : laidOutB C.prog = true) (own : ownKnob C.prog.godebug = none) (started : os.Started) (noInit : C.prog.inits.idxOf? F = none)
    (hfn : C.prog.funcs[F]? = some fn) (hts : (fn.params.toList.all fun t => C.prog.readableRec t && decide (t < C.prog.types.size)) = true) (hbT : C.prog.underlying bT = some .bool) (hres : fn.resultTypes = #[bT])
    (hvars : s.vars = []) (hs : ∀ ds : List (DataW H), ds.length = fn.params.toList.length → s.fn H ds = { results := [.lit (.bool true)], args := ds })
    (witness : ∃ (w : World) (tape : Tape) (i : Input), w.os = os ∧ (w.forCall tape i).Shaped C.prog ∧ i.vars = [] ∧ Input.okWide C.prog (w.forCall tape i) .any w.heap.size F i ∧
      ((s.pre enc C.prog fn [] false (w.forCall tape i).memory i.args ∧ laidMetH C.prog ld (w.forCall tape i).memory) ∧ sizedMet enc C.prog fn (OpenSpec.ofChange s) false (w.forCall tape i).memory i.args) ∧ Assume.holds {} C.prog (lone (Frame.enter C.prog F i.args .normal) [] (w.forCall tape i)))
    (walk : LawWalk H enc C.prog F fn) :
    ReturnsInHanded {} C os F .any (fun w args => (s.pre enc C.prog fn [] false w args ∧ laidMetH C.prog ld w) ∧ sizedMet enc C.prog fn (OpenSpec.ofChange s) false w args) (s.post enc C.prog fn false true false false) := by
  refine returnsInHanded_of_change_and (X := fun w _ => laidMetH C.prog ld w) (fun _ _ _ hh h => h.of_heap hh) own started noInit hfn witness ?_
  intro W base args ds gs before hval hW _ hsz _ _
  have hW' := hW
  obtain ⟨p, q, hA, hV, rfl, hfz, hnd⟩ := hW
  rw [hvars] at hV
  obtain ⟨rfl, rfl⟩ := trodVars_none hV
  have hvt : s.plain.varTypes C.prog = [] := by simp [ChangeSpec.plain, DataSpec.varTypes, hvars]
  rw [hvt, List.append_nil, List.append_nil] at hsz
  refine (walk W base args ds p hval hA hsz).mono fun e W' ⟨he, bel⟩ => ?_
  subst he
  have hd := trodAll_length hA
  have hsp := hs ds hd
  refine ⟨_, rfl, ds, [], p ++ [], [], p, [], hW', ?_, ?_, ?_, bel.frame _, fun h => by cases h⟩
  · rw [List.append_nil, hsp, hres]
    exact trodAll_mk1 (shut_bool hbT _)
  · rw [List.append_nil, hsp]
    exact trodAll_below laid bel hts hA
  · rw [List.append_nil, hsp, hvars]
    rfl
end Go.Proofs.YtpnbpcdmiiakcaaDoor
