/- Parts Rn, Ro, Ke, Kf, Kp, Kg, Kh, Kq of the proof, put together. -/
import Derived.Test.YtgidaifoiljgoaaM8
/- The document's gaps: Right, Meet, Mid. -/
namespace Go.Proofs.Ytgidaifoiljgoaa
set_option linter.unusedSimpArgs false
set_option linter.unusedVariables false
open Go.RowKit
set_option maxRecDepth 100000
theorem refRight_sat (g : Int × Int) : Sat Try.prog 55 [gA g] [] (bA (okG g)) [] := by
  refine sat_of_vc (T := tiOf Try.prog) (E := E0) Try.func55 rfl rfl hE0 hm0 rfl ?_
  conv => whnf
  repeat (any_goals (first
    | exact True.intro
    | (refine Or.inl ?_; conv => whnf)
    | (refine And.intro (fun _ => ?_) tf; conv => whnf)
    | (refine And.intro ft (fun _ => ?_); conv => whnf)
    | (refine And.intro (by kernel_rfl) ?_; conv => whnf)
    | (refine And.intro (by decide) ?_; conv => whnf)
    | (refine And.intro (fun _ => ?_) (fun h => absurd h (by decide)); conv => whnf)
    | (refine And.intro (fun h => absurd h (by decide)) (fun _ => ?_); conv => whnf)
    | (refine And.intro (fun _ => ?_) (fun _ => ?_) <;> conv => whnf)))
  all_goals refine ⟨[], ?_⟩
  repeat (any_goals (first | exact True.intro | exact rfl | with_reducible_and_instances rfl | exact (by kernel_rfl) | refine And.intro ?_ ?_))
  all_goals conv => whnf
theorem refRights_sat (gs : List (Int × Int)) (hn : gs.length ≤ 1000000000) : Sat Try.prog 75 [.d (.sl 2 (gs.map gR))] [] (bA (gs.all okG)) [] := by
  have hm : (gs.map gR).length = gs.length := List.length_map _
  refine sat_of_vc (T := tiOf Try.prog) (E := E0) Try.func75 rfl rfl hE0 hm0 rfl ?_
  conv => whnf
  repeat (any_goals (first
    | exact True.intro
    | (refine And.intro (fun _ => ?_) tf; conv => whnf)
    | (refine And.intro ft (fun _ => ?_); conv => whnf)
    | (refine And.intro (by kernel_rfl) ?_; conv => whnf)
    | (refine And.intro (by decide) ?_; conv => whnf)
    | (refine And.intro (fun _ => ?_) (fun h => absurd h (by decide)); conv => whnf)
    | (refine And.intro (fun h => absurd h (by decide)) (fun _ => ?_); conv => whnf)
    | (refine And.intro (fun _ => ?_) (fun _ => ?_) <;> conv => whnf)))
  all_goals try (refine Or.inl ?_; conv => whnf)
  repeat (any_goals (first
    | exact True.intro
    | (refine And.intro (fun _ => ?_) tf; conv => whnf)
    | (refine And.intro ft (fun _ => ?_); conv => whnf)
    | (refine And.intro (by kernel_rfl) ?_; conv => whnf)
    | (refine And.intro (by decide) ?_; conv => whnf)
    | (refine And.intro (fun _ => ?_) (fun h => absurd h (by decide)); conv => whnf)
    | (refine And.intro (fun h => absurd h (by decide)) (fun _ => ?_); conv => whnf)
    | (refine And.intro (fun _ => ?_) (fun _ => ?_) <;> conv => whnf)))
  refine ⟨Nat, fun k => k ≤ gs.length ∧ (gs.take k).all okG = true, fun k => ([(3, iA k), (0, .d (.sl 2 (gs.map gR)))], []), fun k => gs.length - k, ⟨0, ⟨Nat.zero_le _, rfl⟩, ?_⟩, ?_⟩
  · all_goals refine ⟨[], ?_⟩
    repeat (any_goals (first | exact True.intro | exact rfl | with_reducible_and_instances rfl | exact (by kernel_rfl) | refine And.intro ?_ ?_))
    all_goals conv => whnf
  rintro k ⟨hk, ha⟩
  conv => whnf
  by_cases hlt : k < gs.length
  · have hx : gs[k]? = some gs[k] := List.getElem?_eq_getElem hlt
    generalize gs[k] = g at hx
    repeat (any_goals (first
      | exact True.intro
      | (refine Or.inl ?_; conv => whnf)
      | (refine And.intro (fun _ => ?_) tf; conv => whnf)
      | (refine And.intro ft (fun _ => ?_); conv => whnf)
      | (refine And.intro (by kernel_rfl) ?_; conv => whnf)
      | (refine And.intro (by decide) ?_; conv => whnf)
      | (refine And.intro (fun _ => ?_) (fun h => absurd h (by decide)); conv => whnf)
      | (refine And.intro (fun h => absurd h (by decide)) (fun _ => ?_); conv => whnf)
      | (refine ⟨k, _, rfl, map_get hx, ?_⟩; conv => whnf)
      | (refine And.intro (fun _ => ?_) (fun _ => ?_) <;> conv => whnf)
      | (refine ⟨_, _, (refRight_sat g).pu rfl rfl, ?_⟩; conv => whnf)))
    all_goals try (exfalso; simp only [decide_eq_true_eq, decide_eq_false_iff_not, Bool.not_eq_true', Bool.not_eq_false', Bool.not_eq_true, Bool.not_eq_false, beq_iff_eq, bne_iff_ne, beq_eq_false_iff_ne, bne_eq_false_iff_eq, ne_eq, Decidable.not_not] at *; first | omega | contradiction | (simp_all; done) | (simp_all; omega))
    · have hg : okG g = false := (by (try simp only [decide_eq_true_eq, decide_eq_false_iff_not, Bool.not_eq_true', Bool.not_eq_false', Bool.not_eq_true, Bool.not_eq_false, beq_iff_eq, bne_iff_ne, beq_eq_false_iff_ne, bne_eq_false_iff_eq, ne_eq, Decidable.not_not, Int.natCast_eq_zero] at *); first | omega | assumption | (simp_all; done) | (simp_all; omega))
      have hr : gs.all okG = false := List.all_eq_false.2 ⟨g, List.mem_of_getElem? hx, by rw [hg]; simp⟩
      rw [hr]
      all_goals refine ⟨[], ?_⟩
      repeat (any_goals (first | exact True.intro | exact rfl | with_reducible_and_instances rfl | exact (by kernel_rfl) | refine And.intro ?_ ?_))
      all_goals conv => whnf
    · have hg : okG g = true := (by (try simp only [decide_eq_true_eq, decide_eq_false_iff_not, Bool.not_eq_true', Bool.not_eq_false', Bool.not_eq_true, Bool.not_eq_false, beq_iff_eq, bne_iff_ne, beq_eq_false_iff_ne, bne_eq_false_iff_eq, ne_eq, Decidable.not_not, Int.natCast_eq_zero] at *); first | omega | assumption | (simp_all; done) | (simp_all; omega))
      refine ⟨k + 1, ⟨hlt, by rw [all_take_succ hx, ha, hg]; rfl⟩, show gs.length - (k + 1) < gs.length - k by omega, ?_⟩
      all_goals refine ⟨[], ?_⟩
      repeat (any_goals (first | exact True.intro | exact rfl | with_reducible_and_instances rfl | exact (by kernel_rfl) | refine And.intro ?_ ?_))
      all_goals conv => whnf
      exact wk1 (by omega)
  · have hke : k = gs.length := by omega
    subst hke
    rw [List.take_length] at ha
    rw [ha]
    repeat (any_goals (first
      | exact True.intro
      | (refine Or.inl ?_; conv => whnf)
      | (refine And.intro (fun _ => ?_) tf; conv => whnf)
      | (refine And.intro ft (fun _ => ?_); conv => whnf)
      | (refine And.intro (by kernel_rfl) ?_; conv => whnf)
      | (refine And.intro (by decide) ?_; conv => whnf)
      | (refine And.intro (fun _ => ?_) (fun h => absurd h (by decide)); conv => whnf)
      | (refine And.intro (fun h => absurd h (by decide)) (fun _ => ?_); conv => whnf)
      | (refine And.intro (fun _ => ?_) (fun _ => ?_) <;> conv => whnf)))
    all_goals try (exfalso; simp only [decide_eq_true_eq, decide_eq_false_iff_not, Bool.not_eq_true', Bool.not_eq_false', Bool.not_eq_true, Bool.not_eq_false, beq_iff_eq, bne_iff_ne, beq_eq_false_iff_ne, bne_eq_false_iff_eq, ne_eq, Decidable.not_not] at *; first | omega | contradiction | (simp_all; done) | (simp_all; omega))
    all_goals refine ⟨[], ?_⟩
    repeat (any_goals (first | exact True.intro | exact rfl | with_reducible_and_instances rfl | exact (by kernel_rfl) | refine And.intro ?_ ?_))
    all_goals conv => whnf
theorem meetL_step (s : Int × Int) {gs : List (Int × Int)} {k : Nat} {g : Int × Int} (hx : gs[k]? = some g) : meetL s (gs.take (k + 1)) = (max (meetL s (gs.take k)).1 g.1, min (meetL s (gs.take k)).2 g.2) := foldl_take_succ hx
theorem refMeet_sat (gs : List (Int × Int)) (hn : gs.length ≤ 1000000000) : Sat Try.prog 53 [.d (.sl 2 (gs.map gR))] [] (.tup [gA (meetR gs).1, iA (meetR gs).2]) [] := by
  have hm : (gs.map gR).length = gs.length := List.length_map _
  have ri := refRights_sat gs hn
  by_cases hall : gs.all okG = true
  case neg =>
    have hall : gs.all okG = false := by simpa using hall
    have hr : meetR gs = ((0, 0), 10) := by unfold meetR foldR; rw [if_pos hall]
    rw [hr]
    rw [hall] at ri
    refine sat_of_vc (T := tiOf Try.prog) (E := E0) Try.func53 rfl rfl hE0 hm0 rfl ?_
    conv => whnf
    repeat (any_goals (first
      | exact True.intro
      | (refine Or.inl ?_; conv => whnf)
      | (refine And.intro (fun _ => ?_) tf; conv => whnf)
      | (refine And.intro ft (fun _ => ?_); conv => whnf)
      | (refine And.intro (by kernel_rfl) ?_; conv => whnf)
      | (refine And.intro (by decide) ?_; conv => whnf)
      | (refine And.intro (fun _ => ?_) (fun h => absurd h (by decide)); conv => whnf)
      | (refine And.intro (fun h => absurd h (by decide)) (fun _ => ?_); conv => whnf)
      | (refine And.intro (fun _ => ?_) (fun _ => ?_) <;> conv => whnf)
      | (refine ⟨_, _, ri.pu rfl rfl, ?_⟩; conv => whnf)))
    all_goals try (exfalso; simp only [decide_eq_true_eq, decide_eq_false_iff_not, Bool.not_eq_true', Bool.not_eq_false', Bool.not_eq_true, Bool.not_eq_false, beq_iff_eq, bne_iff_ne, beq_eq_false_iff_ne, bne_eq_false_iff_eq, ne_eq, Decidable.not_not] at *; first | omega | contradiction | (simp_all; done) | (simp_all; omega))
    all_goals refine ⟨[], ?_⟩
    repeat (any_goals (first | exact True.intro | exact rfl | with_reducible_and_instances rfl | exact (by kernel_rfl) | refine And.intro ?_ ?_))
    all_goals conv => whnf
  have hr : meetR gs = if okG (meetL allG gs) = true then (meetL allG gs, 0) else ((0, 0), 13) := by unfold meetR foldR; rw [if_neg (by simp [hall])]
  rw [hr]
  rw [hall] at ri
  refine sat_of_vc (T := tiOf Try.prog) (E := E0) Try.func53 rfl rfl hE0 hm0 rfl ?_
  conv => whnf
  repeat (any_goals (first
    | exact True.intro
    | (refine Or.inl ?_; conv => whnf)
    | (refine And.intro (fun _ => ?_) tf; conv => whnf)
    | (refine And.intro ft (fun _ => ?_); conv => whnf)
    | (refine And.intro (by kernel_rfl) ?_; conv => whnf)
    | (refine And.intro (by decide) ?_; conv => whnf)
    | (refine And.intro (fun _ => ?_) (fun h => absurd h (by decide)); conv => whnf)
    | (refine And.intro (fun h => absurd h (by decide)) (fun _ => ?_); conv => whnf)
    | (refine And.intro (fun _ => ?_) (fun _ => ?_) <;> conv => whnf)
    | (refine ⟨_, _, ri.pu rfl rfl, ?_⟩; conv => whnf)))
  all_goals try (exfalso; simp only [decide_eq_true_eq, decide_eq_false_iff_not, Bool.not_eq_true', Bool.not_eq_false', Bool.not_eq_true, Bool.not_eq_false, beq_iff_eq, bne_iff_ne, beq_eq_false_iff_ne, bne_eq_false_iff_eq, ne_eq, Decidable.not_not] at *; first | omega | contradiction | (simp_all; done) | (simp_all; omega))
  refine ⟨Nat, fun k => k ≤ gs.length, fun k => ([(5, iA k), (4, .ptr 1 0), (2, .ptr 0 0), (0, .d (.sl 2 (gs.map gR)))], [.cells [iA 0, iA 0], .cells [iA (meetL allG (gs.take k)).1, iA (meetL allG (gs.take k)).2]]), fun k => gs.length - k, ⟨0, Nat.zero_le _, ?_⟩, ?_⟩
  · all_goals refine ⟨[], ?_⟩
    repeat (any_goals (first | exact True.intro | exact rfl | with_reducible_and_instances rfl | exact (by kernel_rfl) | refine And.intro ?_ ?_))
    all_goals conv => whnf
  intro k hk
  conv => whnf
  by_cases hlt : k < gs.length
  · have hx : gs[k]? = some gs[k] := List.getElem?_eq_getElem hlt
    generalize gs[k] = g at hx
    repeat (any_goals (first
      | exact True.intro
      | (refine Or.inl ?_; conv => whnf)
      | (refine And.intro (fun _ => ?_) tf; conv => whnf)
      | (refine And.intro ft (fun _ => ?_); conv => whnf)
      | (refine And.intro (by kernel_rfl) ?_; conv => whnf)
      | (refine And.intro (by decide) ?_; conv => whnf)
      | (refine And.intro (fun _ => ?_) (fun h => absurd h (by decide)); conv => whnf)
      | (refine And.intro (fun h => absurd h (by decide)) (fun _ => ?_); conv => whnf)
      | (refine ⟨k, _, rfl, map_get hx, ?_⟩; conv => whnf)
      | (refine And.intro (fun _ => ?_) (fun _ => ?_) <;> conv => whnf)))
    all_goals try (exfalso; simp only [decide_eq_true_eq, decide_eq_false_iff_not, Bool.not_eq_true', Bool.not_eq_false', Bool.not_eq_true, Bool.not_eq_false, beq_iff_eq, bne_iff_ne, beq_eq_false_iff_ne, bne_eq_false_iff_eq, ne_eq, Decidable.not_not] at *; first | omega | contradiction | (simp_all; done) | (simp_all; omega))
    refine ⟨k + 1, hlt, show gs.length - (k + 1) < gs.length - k by omega, ?_⟩
    all_goals refine ⟨[], ?_⟩
    repeat (any_goals (first | exact True.intro | exact rfl | with_reducible_and_instances rfl | exact (by kernel_rfl) | refine And.intro ?_ ?_))
    all_goals conv => whnf
    · exact wk1 (by omega)
    · refine congrArg iA ?_
      rw [meetL_step _ hx]
      show _ = max _ _
      split <;> omega
    · refine congrArg iA ?_
      rw [meetL_step _ hx]
      show _ = min _ _
      split <;> omega
  · have hke : k = gs.length := by omega
    subst hke
    have hq := refRight_sat (meetL allG (gs.take gs.length))
    have ht : meetL allG (gs.take gs.length) = meetL allG gs := by rw [List.take_length]
    repeat (any_goals (first
      | exact True.intro
      | (refine Or.inl ?_; conv => whnf)
      | (refine And.intro (fun _ => ?_) tf; conv => whnf)
      | (refine And.intro ft (fun _ => ?_); conv => whnf)
      | (refine And.intro (by kernel_rfl) ?_; conv => whnf)
      | (refine And.intro (by decide) ?_; conv => whnf)
      | (refine And.intro (fun _ => ?_) (fun h => absurd h (by decide)); conv => whnf)
      | (refine And.intro (fun h => absurd h (by decide)) (fun _ => ?_); conv => whnf)
      | (refine And.intro (fun _ => ?_) (fun _ => ?_) <;> conv => whnf)
      | (refine ⟨_, _, hq.pu rfl rfl, ?_⟩; conv => whnf)))
    all_goals try (exfalso; simp only [decide_eq_true_eq, decide_eq_false_iff_not, Bool.not_eq_true', Bool.not_eq_false', Bool.not_eq_true, Bool.not_eq_false, beq_iff_eq, bne_iff_ne, beq_eq_false_iff_ne, bne_eq_false_iff_eq, ne_eq, Decidable.not_not] at *; first | omega | contradiction | (simp_all; done) | (simp_all; omega))
    · have h : okG (meetL allG (gs.take gs.length)) = false := (by (try simp only [decide_eq_true_eq, decide_eq_false_iff_not, Bool.not_eq_true', Bool.not_eq_false', Bool.not_eq_true, Bool.not_eq_false, beq_iff_eq, bne_iff_ne, beq_eq_false_iff_ne, bne_eq_false_iff_eq, ne_eq, Decidable.not_not, Int.natCast_eq_zero] at *); first | omega | assumption | (simp_all; done) | (simp_all; omega))
      rw [← ht, if_neg (by rw [h]; simp)]
      all_goals refine ⟨[], ?_⟩
      repeat (any_goals (first | exact True.intro | exact rfl | with_reducible_and_instances rfl | exact (by kernel_rfl) | refine And.intro ?_ ?_))
      all_goals conv => whnf
    · have h : okG (meetL allG (gs.take gs.length)) = true := (by (try simp only [decide_eq_true_eq, decide_eq_false_iff_not, Bool.not_eq_true', Bool.not_eq_false', Bool.not_eq_true, Bool.not_eq_false, beq_iff_eq, bne_iff_ne, beq_eq_false_iff_ne, bne_eq_false_iff_eq, ne_eq, Decidable.not_not, Int.natCast_eq_zero] at *); first | omega | assumption | (simp_all; done) | (simp_all; omega))
      rw [← ht, if_pos h]
      all_goals refine ⟨[], ?_⟩
      repeat (any_goals (first | exact True.intro | exact rfl | with_reducible_and_instances rfl | exact (by kernel_rfl) | refine And.intro ?_ ?_))
      all_goals conv => whnf
/-! ### the middle -/
theorem nat_avg (k : Nat) : ∀ (a b : Nat), a < 2 ^ k → b < 2 ^ k → a + b = 2 * (a &&& b) + (a ^^^ b) := by
  induction k with
  | zero => intro a b ha hb; simp at ha hb; subst ha hb; rfl
  | succ k ih =>
    intro a b ha hb
    have h := ih (a / 2) (b / 2) (by rw [Nat.pow_succ] at ha; omega) (by rw [Nat.pow_succ] at hb; omega)
    have e1 : (a &&& b) / 2 = a / 2 &&& b / 2 := Nat.and_div_two
    have e2 : (a ^^^ b) / 2 = a / 2 ^^^ b / 2 := Nat.xor_div_two
    have f1 : (a &&& b) % 2 = a % 2 &&& b % 2 := Nat.and_mod_two_pow (n := 1)
    have f2 : (a ^^^ b) % 2 = a % 2 ^^^ b % 2 := Nat.xor_mod_two_pow (n := 1)
    have f3 : a % 2 + b % 2 = 2 * (a % 2 &&& b % 2) + (a % 2 ^^^ b % 2) := by
      rcases Nat.mod_two_eq_zero_or_one a with h | h <;> rcases Nat.mod_two_eq_zero_or_one b with h' | h' <;> rw [h, h'] <;> rfl
    rw [← f1, ← f2] at f3
    rw [← e1, ← e2] at h
    omega
theorem avg_bv (x y : BitVec 64) : 2 * (x &&& y).toInt + (x ^^^ y).toInt = x.toInt + y.toInt := by
  have hn := nat_avg 64 x.toNat y.toNat (BitVec.isLt _) (BitVec.isLt _)
  rw [← BitVec.toNat_and, ← BitVec.toNat_xor] at hn
  rw [BitVec.toInt_eq_msb_cond x, BitVec.toInt_eq_msb_cond y, BitVec.toInt_eq_msb_cond (x &&& y), BitVec.toInt_eq_msb_cond (x ^^^ y), BitVec.msb_and, BitVec.msb_xor]
  generalize (x &&& y).toNat = C at *
  generalize (x ^^^ y).toNat = D at *
  generalize x.toNat = A at *
  generalize y.toNat = B at *
  cases x.msb <;> cases y.msb <;> simp <;> omega
theorem mid_floor (g : Int × Int) (h1 : -9223372036854775808 ≤ g.1 ∧ g.1 ≤ 9223372036854775807) (h2 : -9223372036854775808 ≤ g.2 ∧ g.2 ≤ 9223372036854775807) : midZ g = if okG g = true then (g.1 + g.2) / 2 else 0 := by
  unfold midZ
  split
  case isFalse => rfl
  show IntKind.i64.wrap (IntKind.i64.wrap ((BitVec.ofInt 64 g.1 &&& BitVec.ofInt 64 g.2).toNat : Int) + (IntKind.i64.wrap ((BitVec.ofInt 64 g.1 ^^^ BitVec.ofInt 64 g.2).toNat : Int)).fdiv (2 ^ min (1 : Int).toNat IntKind.i64.bits)) = _
  rw [toInt_i64, toInt_i64, show min (1 : Int).toNat IntKind.i64.bits = 1 from rfl, show (2 : Int) ^ 1 = 2 from rfl, Int.fdiv_eq_ediv_of_nonneg _ (by omega)]
  have ha : (BitVec.ofInt 64 g.1).toInt = g.1 := by rw [BitVec.toInt_ofInt]; exact Int.bmod_eq_of_le (by omega) (by omega)
  have hb : (BitVec.ofInt 64 g.2).toInt = g.2 := by rw [BitVec.toInt_ofInt]; exact Int.bmod_eq_of_le (by omega) (by omega)
  have key := avg_bv (BitVec.ofInt 64 g.1) (BitVec.ofInt 64 g.2)
  rw [ha, hb] at key
  show IntKind.i64.wrap ((BitVec.ofInt 64 g.1 &&& BitVec.ofInt 64 g.2).toInt + (BitVec.ofInt 64 g.1 ^^^ BitVec.ofInt 64 g.2).toInt / 2) = _
  rw [wi (by omega) (by omega)]
  omega
theorem refMid_sat (g : Int × Int) (h1 : -9223372036854775808 ≤ g.1 ∧ g.1 ≤ 9223372036854775807) (h2 : -9223372036854775808 ≤ g.2 ∧ g.2 ≤ 9223372036854775807) : Sat Try.prog 23 [gA g] [] (iA (if okG g = true then (g.1 + g.2) / 2 else 0)) [] := by
  have ri := refRight_sat g
  by_cases h : okG g = true
  case neg =>
    rw [if_neg h]
    refine sat_of_vc (T := tiOf Try.prog) (E := E0) Try.func23 rfl rfl hE0 hm0 rfl ?_
    conv => whnf
    repeat (any_goals (first
      | exact True.intro
      | (refine Or.inl ?_; conv => whnf)
      | (refine And.intro (fun _ => ?_) tf; conv => whnf)
      | (refine And.intro ft (fun _ => ?_); conv => whnf)
      | (refine And.intro (by kernel_rfl) ?_; conv => whnf)
      | (refine And.intro (by decide) ?_; conv => whnf)
      | (refine And.intro (fun _ => ?_) (fun h => absurd h (by decide)); conv => whnf)
      | (refine And.intro (fun h => absurd h (by decide)) (fun _ => ?_); conv => whnf)
      | (refine And.intro (fun _ => ?_) (fun _ => ?_) <;> conv => whnf)
      | (refine ⟨_, _, ri.pu rfl rfl, ?_⟩; conv => whnf)))
    all_goals try (exfalso; simp only [decide_eq_true_eq, decide_eq_false_iff_not, Bool.not_eq_true', Bool.not_eq_false', Bool.not_eq_true, Bool.not_eq_false, beq_iff_eq, bne_iff_ne, beq_eq_false_iff_ne, bne_eq_false_iff_eq, ne_eq, Decidable.not_not] at *; first | omega | contradiction | (simp_all; done) | (simp_all; omega))
    all_goals refine ⟨[], ?_⟩
    repeat (any_goals (first | exact True.intro | exact rfl | with_reducible_and_instances rfl | exact (by kernel_rfl) | refine And.intro ?_ ?_))
    all_goals conv => whnf
  rw [if_pos h]
  have o2 := of_num 2 (by omega)
  have oa := of_num g.1 h1
  have ob := of_num g.2 h2
  have ad := add_few (k := 4) (by omega) (few_i64 h1) (few_i64 h2)
  have fs := add_few_out (few_i64 h1) (few_i64 h2)
  have di := div_num (k := 5) (g.1 + g.2) 2 false (by omega) fs (by unfold few; decide) (by omega)
  have lo := long_num (divZ (g.1 + g.2) 2 false) (by have := few_len (few_div (up := false) fs (show (0 : Int) < 2 by omega)); omega)
  rw [longZ_in (show -9223372036854775808 ≤ divZ (g.1 + g.2) 2 false ∧ divZ (g.1 + g.2) 2 false ≤ 9223372036854775807 by show _ ≤ (g.1 + g.2) / 2 ∧ (g.1 + g.2) / 2 ≤ _; omega)] at lo
  refine sat_of_vc (T := tiOf Try.prog) (E := E0) Try.func23 rfl rfl hE0 hm0 rfl ?_
  conv => whnf
  repeat (any_goals (first
    | exact True.intro
    | (refine Or.inl ?_; conv => whnf)
    | (refine And.intro (fun _ => ?_) tf; conv => whnf)
    | (refine And.intro ft (fun _ => ?_); conv => whnf)
    | (refine And.intro (by kernel_rfl) ?_; conv => whnf)
    | (refine And.intro (by decide) ?_; conv => whnf)
    | (refine And.intro (fun _ => ?_) (fun h => absurd h (by decide)); conv => whnf)
    | (refine And.intro (fun h => absurd h (by decide)) (fun _ => ?_); conv => whnf)
    | (refine And.intro (fun _ => ?_) (fun _ => ?_) <;> conv => whnf)
    | (refine ⟨_, _, ri.pu rfl rfl, ?_⟩; conv => whnf)
    | (refine ⟨_, _, o2.pu rfl rfl, ?_⟩; conv => whnf)
    | (refine ⟨_, _, oa.pu rfl rfl, ?_⟩; conv => whnf)
    | (refine ⟨_, _, ob.pu rfl rfl, ?_⟩; conv => whnf)
    | (refine ⟨_, _, ad.pu rfl rfl, ?_⟩; conv => whnf)
    | (refine ⟨_, _, di.pu rfl rfl, ?_⟩; conv => whnf)
    | (refine ⟨_, _, lo.pu rfl rfl, ?_⟩; conv => whnf)))
  all_goals try (exfalso; simp only [decide_eq_true_eq, decide_eq_false_iff_not, Bool.not_eq_true', Bool.not_eq_false', Bool.not_eq_true, Bool.not_eq_false, beq_iff_eq, bne_iff_ne, beq_eq_false_iff_ne, bne_eq_false_iff_eq, ne_eq, Decidable.not_not] at *; first | omega | contradiction | (simp_all; done) | (simp_all; omega))
  all_goals refine ⟨[], ?_⟩
  repeat (any_goals (first | exact True.intro | exact rfl | with_reducible_and_instances rfl | exact (by kernel_rfl) | refine And.intro ?_ ?_))
  all_goals conv => whnf
end Go.Proofs.Ytgidaifoiljgoaa
/- The document's sweep: Votes, Best, Agree. -/
namespace Go.Proofs.Ytgidaifoiljgoaa
set_option linter.unusedSimpArgs false
set_option linter.unusedVariables false
open Go.RowKit
set_option maxRecDepth 100000
def hasG (x : Int) (g : Int × Int) : Bool := decide (g.1 ≤ x ∧ x ≤ g.2)
def votesN (x : Int) (gs : List (Int × Int)) : Nat := gs.countP (hasG x)
theorem votes_sat (x : Int) (gs : List (Int × Int)) (hn : gs.length ≤ 1000000000) : Sat Try.prog 94 [iA x, .d (.sl 2 (gs.map gR))] [] (iA (votesN x gs)) [] := by
  have hm : (gs.map gR).length = gs.length := List.length_map _
  refine sat_of_vc (T := tiOf Try.prog) (E := E0) Try.func94 rfl rfl hE0 hm0 rfl ?_
  conv => whnf
  repeat (any_goals (first
    | exact True.intro
    | (refine Or.inl ?_; conv => whnf)
    | (refine And.intro (fun _ => ?_) tf; conv => whnf)
    | (refine And.intro ft (fun _ => ?_); conv => whnf)
    | (refine And.intro (by kernel_rfl) ?_; conv => whnf)
    | (refine And.intro (by decide) ?_; conv => whnf)
    | (refine And.intro (fun _ => ?_) (fun h => absurd h (by decide)); conv => whnf)
    | (refine And.intro (fun h => absurd h (by decide)) (fun _ => ?_); conv => whnf)
    | (refine And.intro (fun _ => ?_) (fun _ => ?_) <;> conv => whnf)))
  refine ⟨Nat, fun k => k ≤ gs.length, fun k => ([(6, iA k), (5, iA (votesN x (gs.take k))), (0, iA x), (1, .d (.sl 2 (gs.map gR)))], []), fun k => gs.length - k, ⟨0, Nat.zero_le _, ?_⟩, ?_⟩
  · all_goals refine ⟨[], ?_⟩
    repeat (any_goals (first | exact True.intro | exact rfl | with_reducible_and_instances rfl | exact (by kernel_rfl) | refine And.intro ?_ ?_))
    all_goals conv => whnf
  intro k hk
  conv => whnf
  have hv : votesN x (gs.take k) ≤ gs.length := Nat.le_trans List.countP_le_length (by rw [List.length_take]; omega)
  by_cases hlt : k < gs.length
  · have hx : gs[k]? = some gs[k] := List.getElem?_eq_getElem hlt
    generalize gs[k] = g at hx
    have hst : votesN x (gs.take (k + 1)) = votesN x (gs.take k) + if hasG x g = true then 1 else 0 := count_take_succ hx
    have nx : ∀ b : Bool, hasG x g = b → votesN x (gs.take (k + 1)) = votesN x (gs.take k) + if b = true then 1 else 0 := fun b h => by rw [hst, h]
    repeat (any_goals (first
      | exact True.intro
      | (refine Or.inl ?_; conv => whnf)
      | (refine And.intro (fun _ => ?_) tf; conv => whnf)
      | (refine And.intro ft (fun _ => ?_); conv => whnf)
      | (refine And.intro (by kernel_rfl) ?_; conv => whnf)
      | (refine And.intro (by decide) ?_; conv => whnf)
      | (refine And.intro (fun _ => ?_) (fun h => absurd h (by decide)); conv => whnf)
      | (refine And.intro (fun h => absurd h (by decide)) (fun _ => ?_); conv => whnf)
      | (refine ⟨k, _, rfl, map_get hx, ?_⟩; conv => whnf)
      | (refine And.intro (fun _ => ?_) (fun _ => ?_) <;> conv => whnf)
      | (refine ⟨_, _, (refRight_sat g).pu rfl rfl, ?_⟩; conv => whnf)))
    all_goals try (exfalso; simp only [decide_eq_true_eq, decide_eq_false_iff_not, Bool.not_eq_true', Bool.not_eq_false', Bool.not_eq_true, Bool.not_eq_false, beq_iff_eq, bne_iff_ne, beq_eq_false_iff_ne, bne_eq_false_iff_eq, ne_eq, Decidable.not_not] at *; first | omega | contradiction | (simp_all; done) | (simp_all; omega))
    · have h : hasG x g = true := decide_eq_true ⟨(by (try simp only [decide_eq_true_eq, decide_eq_false_iff_not, Bool.not_eq_true', Bool.not_eq_false', Bool.not_eq_true, Bool.not_eq_false, beq_iff_eq, bne_iff_ne, beq_eq_false_iff_ne, bne_eq_false_iff_eq, ne_eq, Decidable.not_not, Int.natCast_eq_zero] at *); first | omega | assumption | (simp_all; done) | (simp_all; omega)), (by (try simp only [decide_eq_true_eq, decide_eq_false_iff_not, Bool.not_eq_true', Bool.not_eq_false', Bool.not_eq_true, Bool.not_eq_false, beq_iff_eq, bne_iff_ne, beq_eq_false_iff_ne, bne_eq_false_iff_eq, ne_eq, Decidable.not_not, Int.natCast_eq_zero] at *); first | omega | assumption | (simp_all; done) | (simp_all; omega))⟩
      refine ⟨k + 1, hlt, show gs.length - (k + 1) < gs.length - k by omega, ?_⟩
      all_goals refine ⟨[], ?_⟩
      repeat (any_goals (first | exact True.intro | exact rfl | with_reducible_and_instances rfl | exact (by kernel_rfl) | refine And.intro ?_ ?_))
      all_goals conv => whnf
      · exact wk1 (by omega)
      · rw [nx _ h]
        exact wk1 (by omega)
    · have h : hasG x g = false := decide_eq_false fun q => by have := q.2; first | omega | (simp_all; done) | (simp_all; omega)
      refine ⟨k + 1, hlt, show gs.length - (k + 1) < gs.length - k by omega, ?_⟩
      all_goals refine ⟨[], ?_⟩
      repeat (any_goals (first | exact True.intro | exact rfl | with_reducible_and_instances rfl | exact (by kernel_rfl) | refine And.intro ?_ ?_))
      all_goals conv => whnf
      · exact wk1 (by omega)
      · rw [nx _ h]; rfl
    · have h : hasG x g = false := decide_eq_false fun q => by have := q.1; first | omega | (simp_all; done) | (simp_all; omega)
      refine ⟨k + 1, hlt, show gs.length - (k + 1) < gs.length - k by omega, ?_⟩
      all_goals refine ⟨[], ?_⟩
      repeat (any_goals (first | exact True.intro | exact rfl | with_reducible_and_instances rfl | exact (by kernel_rfl) | refine And.intro ?_ ?_))
      all_goals conv => whnf
      · exact wk1 (by omega)
      · rw [nx _ h]; rfl
    · have h : hasG x g = false := decide_eq_false fun q => by have : okG g = true := decide_eq_true (by omega); simp_all
      refine ⟨k + 1, hlt, show gs.length - (k + 1) < gs.length - k by omega, ?_⟩
      all_goals refine ⟨[], ?_⟩
      repeat (any_goals (first | exact True.intro | exact rfl | with_reducible_and_instances rfl | exact (by kernel_rfl) | refine And.intro ?_ ?_))
      all_goals conv => whnf
      · exact wk1 (by omega)
      · rw [nx _ h]; rfl
  · have hke : k = gs.length := by omega
    subst hke
    repeat (any_goals (first
      | exact True.intro
      | (refine Or.inl ?_; conv => whnf)
      | (refine And.intro (fun _ => ?_) tf; conv => whnf)
      | (refine And.intro ft (fun _ => ?_); conv => whnf)
      | (refine And.intro (by kernel_rfl) ?_; conv => whnf)
      | (refine And.intro (by decide) ?_; conv => whnf)
      | (refine And.intro (fun _ => ?_) (fun h => absurd h (by decide)); conv => whnf)
      | (refine And.intro (fun h => absurd h (by decide)) (fun _ => ?_); conv => whnf)
      | (refine And.intro (fun _ => ?_) (fun _ => ?_) <;> conv => whnf)))
    all_goals try (exfalso; simp only [decide_eq_true_eq, decide_eq_false_iff_not, Bool.not_eq_true', Bool.not_eq_false', Bool.not_eq_true, Bool.not_eq_false, beq_iff_eq, bne_iff_ne, beq_eq_false_iff_ne, bne_eq_false_iff_eq, ne_eq, Decidable.not_not] at *; first | omega | contradiction | (simp_all; done) | (simp_all; omega))
    all_goals refine ⟨[], ?_⟩
    repeat (any_goals (first | exact True.intro | exact rfl | with_reducible_and_instances rfl | exact (by kernel_rfl) | refine And.intro ?_ ?_))
    all_goals conv => whnf
    rw [List.take_length]
def bstep (gs : List (Int × Int)) (s : Nat × Int) (g : Int × Int) : Nat × Int :=
  if s.1 < votesN g.1 gs ∨ (votesN g.1 gs = s.1 ∧ 0 < votesN g.1 gs ∧ g.1 < s.2) then (votesN g.1 gs, g.1) else s
def bestS (gs : List (Int × Int)) : Nat × Int := gs.foldl (bstep gs) (0, 0)
def hstep (x : Int) (h : Int) (g : Int × Int) : Int := if hasG x g = true then min h g.2 else h
def bestH (x : Int) (gs : List (Int × Int)) : Int := gs.foldl (hstep x) 9223372036854775807
def bestR (gs : List (Int × Int)) : (Int × Int) × Nat := if (bestS gs).1 = 0 then ((0, 0), 0) else (((bestS gs).2, bestH (bestS gs).2 gs), (bestS gs).1)
theorem votes_le (x : Int) (gs : List (Int × Int)) : votesN x gs ≤ gs.length := List.countP_le_length
theorem best_sat (gs : List (Int × Int)) (hn : gs.length ≤ 1000000000) : Sat Try.prog 70 [.d (.sl 2 (gs.map gR))] [] (.tup [gA (bestR gs).1, iA (bestR gs).2]) [] := by
  have hm : (gs.map gR).length = gs.length := List.length_map _
  refine sat_of_vc (T := tiOf Try.prog) (E := E0) Try.func70 rfl rfl hE0 hm0 rfl ?_
  conv => whnf
  repeat (any_goals (first
    | exact True.intro
    | (refine Or.inl ?_; conv => whnf)
    | (refine And.intro (fun _ => ?_) tf; conv => whnf)
    | (refine And.intro ft (fun _ => ?_); conv => whnf)
    | (refine And.intro (by kernel_rfl) ?_; conv => whnf)
    | (refine And.intro (by decide) ?_; conv => whnf)
    | (refine And.intro (fun _ => ?_) (fun h => absurd h (by decide)); conv => whnf)
    | (refine And.intro (fun h => absurd h (by decide)) (fun _ => ?_); conv => whnf)
    | (refine And.intro (fun _ => ?_) (fun _ => ?_) <;> conv => whnf)))
  refine ⟨Nat, fun k => k ≤ gs.length, fun k => ([(6, iA k), (4, iA ((gs.take k).foldl (bstep gs) (0, 0)).1), (5, .ptr 1 0), (2, .ptr 0 0), (0, .d (.sl 2 (gs.map gR)))], [.cells [iA 0, iA 0], .cells [iA ((gs.take k).foldl (bstep gs) (0, 0)).2, iA ((gs.take k).foldl (bstep gs) (0, 0)).2]]), fun k => gs.length - k, ⟨0, Nat.zero_le _, ?_⟩, ?_⟩
  · all_goals refine ⟨[], ?_⟩
    repeat (any_goals (first | exact True.intro | exact rfl | with_reducible_and_instances rfl | exact (by kernel_rfl) | refine And.intro ?_ ?_))
    all_goals conv => whnf
  intro k hk
  conv => whnf
  by_cases hlt : k < gs.length
  · have hx : gs[k]? = some gs[k] := List.getElem?_eq_getElem hlt
    generalize gs[k] = g at hx
    have vs := votes_sat g.1 gs hn
    have hst : (gs.take (k + 1)).foldl (bstep gs) (0, 0) = bstep gs ((gs.take k).foldl (bstep gs) (0, 0)) g := foldl_take_succ hx
    have hs1 : (((gs.take k).foldl (bstep gs) (0, 0)).1 < votesN g.1 gs ∨ (votesN g.1 gs = ((gs.take k).foldl (bstep gs) (0, 0)).1 ∧ 0 < votesN g.1 gs ∧ g.1 < ((gs.take k).foldl (bstep gs) (0, 0)).2)) → bstep gs ((gs.take k).foldl (bstep gs) (0, 0)) g = (votesN g.1 gs, g.1) := fun h => if_pos h
    have hs0 : ¬ (((gs.take k).foldl (bstep gs) (0, 0)).1 < votesN g.1 gs ∨ (votesN g.1 gs = ((gs.take k).foldl (bstep gs) (0, 0)).1 ∧ 0 < votesN g.1 gs ∧ g.1 < ((gs.take k).foldl (bstep gs) (0, 0)).2)) → bstep gs ((gs.take k).foldl (bstep gs) (0, 0)) g = (gs.take k).foldl (bstep gs) (0, 0) := fun h => if_neg h
    repeat (any_goals (first
      | exact True.intro
      | (refine Or.inl ?_; conv => whnf)
      | (refine And.intro (fun _ => ?_) tf; conv => whnf)
      | (refine And.intro ft (fun _ => ?_); conv => whnf)
      | (refine And.intro (by kernel_rfl) ?_; conv => whnf)
      | (refine And.intro (by decide) ?_; conv => whnf)
      | (refine And.intro (fun _ => ?_) (fun h => absurd h (by decide)); conv => whnf)
      | (refine And.intro (fun h => absurd h (by decide)) (fun _ => ?_); conv => whnf)
      | (refine ⟨k, _, rfl, map_get hx, ?_⟩; conv => whnf)
      | (refine And.intro (fun _ => ?_) (fun _ => ?_) <;> conv => whnf)
      | (refine ⟨_, _, vs.pu rfl rfl, ?_⟩; conv => whnf)))
    all_goals try (exfalso; simp only [decide_eq_true_eq, decide_eq_false_iff_not, Bool.not_eq_true', Bool.not_eq_false', Bool.not_eq_true, Bool.not_eq_false, beq_iff_eq, bne_iff_ne, beq_eq_false_iff_ne, bne_eq_false_iff_eq, ne_eq, Decidable.not_not] at *; first | omega | contradiction | (simp_all; done) | (simp_all; omega))
    all_goals refine ⟨k + 1, hlt, show gs.length - (k + 1) < gs.length - k by omega, ?_⟩
    · have h := hs1 (by simp only [decide_eq_true_eq, beq_iff_eq] at *; omega)
      rw [h] at hst
      all_goals refine ⟨[], ?_⟩
      repeat (any_goals (first | exact True.intro | exact rfl | with_reducible_and_instances rfl | exact (by kernel_rfl) | refine And.intro ?_ ?_))
      all_goals conv => whnf
      · exact wk1 (by omega)
      all_goals rw [hst]
    · have h := hs0 (by simp only [decide_eq_true_eq, decide_eq_false_iff_not, beq_iff_eq] at *; omega)
      rw [h] at hst
      all_goals refine ⟨[], ?_⟩
      repeat (any_goals (first | exact True.intro | exact rfl | with_reducible_and_instances rfl | exact (by kernel_rfl) | refine And.intro ?_ ?_))
      all_goals conv => whnf
      · exact wk1 (by omega)
      all_goals rw [hst]
    · have h := hs0 (by simp only [decide_eq_true_eq, decide_eq_false_iff_not, beq_iff_eq] at *; omega)
      rw [h] at hst
      all_goals refine ⟨[], ?_⟩
      repeat (any_goals (first | exact True.intro | exact rfl | with_reducible_and_instances rfl | exact (by kernel_rfl) | refine And.intro ?_ ?_))
      all_goals conv => whnf
      · exact wk1 (by omega)
      all_goals rw [hst]
    · have h := hs0 (by simp only [decide_eq_true_eq, decide_eq_false_iff_not, beq_eq_false_iff_ne] at *; omega)
      rw [h] at hst
      all_goals refine ⟨[], ?_⟩
      repeat (any_goals (first | exact True.intro | exact rfl | with_reducible_and_instances rfl | exact (by kernel_rfl) | refine And.intro ?_ ?_))
      all_goals conv => whnf
      · exact wk1 (by omega)
      all_goals rw [hst]
    · have h := hs1 (by simp only [decide_eq_true_eq, beq_iff_eq] at *; omega)
      rw [h] at hst
      all_goals refine ⟨[], ?_⟩
      repeat (any_goals (first | exact True.intro | exact rfl | with_reducible_and_instances rfl | exact (by kernel_rfl) | refine And.intro ?_ ?_))
      all_goals conv => whnf
      · exact wk1 (by omega)
      all_goals rw [hst]
  · have hke : k = gs.length := by omega
    subst hke
    have hb : (gs.take gs.length).foldl (bstep gs) (0, 0) = bestS gs := by rw [List.take_length]; rfl
    repeat (any_goals (first
      | exact True.intro
      | (refine Or.inl ?_; conv => whnf)
      | (refine And.intro (fun _ => ?_) tf; conv => whnf)
      | (refine And.intro ft (fun _ => ?_); conv => whnf)
      | (refine And.intro (by kernel_rfl) ?_; conv => whnf)
      | (refine And.intro (by decide) ?_; conv => whnf)
      | (refine And.intro (fun _ => ?_) (fun h => absurd h (by decide)); conv => whnf)
      | (refine And.intro (fun h => absurd h (by decide)) (fun _ => ?_); conv => whnf)
      | (refine And.intro (fun _ => ?_) (fun _ => ?_) <;> conv => whnf)))
    all_goals try (exfalso; simp only [decide_eq_true_eq, decide_eq_false_iff_not, Bool.not_eq_true', Bool.not_eq_false', Bool.not_eq_true, Bool.not_eq_false, beq_iff_eq, bne_iff_ne, beq_eq_false_iff_ne, bne_eq_false_iff_eq, ne_eq, Decidable.not_not] at *; first | omega | contradiction | (simp_all; done) | (simp_all; omega))
    · have hr : bestR gs = ((0, 0), 0) := if_pos (by have h := ‹(_ == _) = true›; rw [hb] at h; simp only [beq_iff_eq] at h; omega)
      rw [hr]
      all_goals refine ⟨[], ?_⟩
      repeat (any_goals (first | exact True.intro | exact rfl | with_reducible_and_instances rfl | exact (by kernel_rfl) | refine And.intro ?_ ?_))
      all_goals conv => whnf
    · have hr : bestR gs = (((bestS gs).2, bestH (bestS gs).2 gs), (bestS gs).1) := if_neg (by have h := ‹(_ == _) = false›; rw [hb] at h; simp only [beq_eq_false_iff_ne] at h; omega)
      rw [hr]
      rw [hb]
      generalize (bestS gs).2 = x
      refine ⟨Nat, fun k => k ≤ gs.length, fun k => ([(8, iA k), (4, iA (bestS gs).1), (5, .ptr 1 0), (2, .ptr 0 0), (0, .d (.sl 2 (gs.map gR)))], [.cells [iA 0, iA 0], .cells [iA x, iA ((gs.take k).foldl (hstep x) 9223372036854775807)]]), fun k => gs.length - k, ⟨0, Nat.zero_le _, ?_⟩, ?_⟩
      · all_goals refine ⟨[], ?_⟩
        repeat (any_goals (first | exact True.intro | exact rfl | with_reducible_and_instances rfl | exact (by kernel_rfl) | refine And.intro ?_ ?_))
        all_goals conv => whnf
        all_goals rw [hb]
      intro k hk
      conv => whnf
      by_cases hlt : k < gs.length
      · have hx : gs[k]? = some gs[k] := List.getElem?_eq_getElem hlt
        generalize gs[k] = g at hx
        have hst : (gs.take (k + 1)).foldl (hstep x) 9223372036854775807 = hstep x ((gs.take k).foldl (hstep x) 9223372036854775807) g := foldl_take_succ hx
        have nx : ∀ b : Bool, hasG x g = b → (gs.take (k + 1)).foldl (hstep x) 9223372036854775807 = if b = true then min ((gs.take k).foldl (hstep x) 9223372036854775807) g.2 else (gs.take k).foldl (hstep x) 9223372036854775807 := fun b h => by rw [hst]; unfold hstep; rw [h]
        repeat (any_goals (first
          | exact True.intro
          | (refine Or.inl ?_; conv => whnf)
          | (refine And.intro (fun _ => ?_) tf; conv => whnf)
          | (refine And.intro ft (fun _ => ?_); conv => whnf)
          | (refine And.intro (by kernel_rfl) ?_; conv => whnf)
          | (refine And.intro (by decide) ?_; conv => whnf)
          | (refine And.intro (fun _ => ?_) (fun h => absurd h (by decide)); conv => whnf)
          | (refine And.intro (fun h => absurd h (by decide)) (fun _ => ?_); conv => whnf)
          | (refine ⟨k, _, rfl, map_get hx, ?_⟩; conv => whnf)
          | (refine And.intro (fun _ => ?_) (fun _ => ?_) <;> conv => whnf)
          | (refine ⟨_, _, (refRight_sat g).pu rfl rfl, ?_⟩; conv => whnf)))
        all_goals try (exfalso; simp only [decide_eq_true_eq, decide_eq_false_iff_not, Bool.not_eq_true', Bool.not_eq_false', Bool.not_eq_true, Bool.not_eq_false, beq_iff_eq, bne_iff_ne, beq_eq_false_iff_ne, bne_eq_false_iff_eq, ne_eq, Decidable.not_not] at *; first | omega | contradiction | (simp_all; done) | (simp_all; omega))
        all_goals refine ⟨k + 1, hlt, show gs.length - (k + 1) < gs.length - k by omega, ?_⟩
        · have h := nx true (decide_eq_true ⟨of_decide_eq_true ‹decide (g.1 ≤ x) = true›, of_decide_eq_true ‹decide (g.2 ≥ x) = true›⟩)
          all_goals refine ⟨[], ?_⟩
          repeat (any_goals (first | exact True.intro | exact rfl | with_reducible_and_instances rfl | exact (by kernel_rfl) | refine And.intro ?_ ?_))
          all_goals conv => whnf
          · exact wk1 (by omega)
          · refine congrArg iA ?_
            rw [h, if_pos rfl]
            split <;> omega
        · have h := nx false (decide_eq_false fun q => of_decide_eq_false ‹decide (g.2 ≥ x) = false› q.2)
          all_goals refine ⟨[], ?_⟩
          repeat (any_goals (first | exact True.intro | exact rfl | with_reducible_and_instances rfl | exact (by kernel_rfl) | refine And.intro ?_ ?_))
          all_goals conv => whnf
          · exact wk1 (by omega)
          · rw [h]; rfl
        · have h := nx false (decide_eq_false fun q => of_decide_eq_false ‹decide (g.1 ≤ x) = false› q.1)
          all_goals refine ⟨[], ?_⟩
          repeat (any_goals (first | exact True.intro | exact rfl | with_reducible_and_instances rfl | exact (by kernel_rfl) | refine And.intro ?_ ?_))
          all_goals conv => whnf
          · exact wk1 (by omega)
          · rw [h]; rfl
        · have h := nx false (decide_eq_false fun q => by have : okG g = true := decide_eq_true (by omega); simp_all)
          all_goals refine ⟨[], ?_⟩
          repeat (any_goals (first | exact True.intro | exact rfl | with_reducible_and_instances rfl | exact (by kernel_rfl) | refine And.intro ?_ ?_))
          all_goals conv => whnf
          · exact wk1 (by omega)
          · rw [h]; rfl
      · have hke : k = gs.length := by omega
        subst hke
        repeat (any_goals (first
          | exact True.intro
          | (refine Or.inl ?_; conv => whnf)
          | (refine And.intro (fun _ => ?_) tf; conv => whnf)
          | (refine And.intro ft (fun _ => ?_); conv => whnf)
          | (refine And.intro (by kernel_rfl) ?_; conv => whnf)
          | (refine And.intro (by decide) ?_; conv => whnf)
          | (refine And.intro (fun _ => ?_) (fun h => absurd h (by decide)); conv => whnf)
          | (refine And.intro (fun h => absurd h (by decide)) (fun _ => ?_); conv => whnf)
          | (refine And.intro (fun _ => ?_) (fun _ => ?_) <;> conv => whnf)))
        all_goals try (exfalso; simp only [decide_eq_true_eq, decide_eq_false_iff_not, Bool.not_eq_true', Bool.not_eq_false', Bool.not_eq_true, Bool.not_eq_false, beq_iff_eq, bne_iff_ne, beq_eq_false_iff_ne, bne_eq_false_iff_eq, ne_eq, Decidable.not_not] at *; first | omega | contradiction | (simp_all; done) | (simp_all; omega))
        all_goals refine ⟨[], ?_⟩
        repeat (any_goals (first | exact True.intro | exact rfl | with_reducible_and_instances rfl | exact (by kernel_rfl) | refine And.intro ?_ ?_))
        all_goals conv => whnf
        unfold bestH
        rw [List.take_length]
def agreeRef (gs : List (Int × Int)) : Bool := decide (0 < gs.length) && decide ((bestR gs).2 = gs.length)
theorem refAgree_sat (gs : List (Int × Int)) (hn : gs.length ≤ 1000000000) : Sat Try.prog 48 [.d (.sl 2 (gs.map gR))] [] (bA (agreeRef gs)) [] := by
  have hm : (gs.map gR).length = gs.length := List.length_map _
  have be := best_sat gs hn
  refine sat_of_vc (T := tiOf Try.prog) (E := E0) Try.func48 rfl rfl hE0 hm0 rfl ?_
  conv => whnf
  repeat (any_goals (first
    | exact True.intro
    | (refine Or.inl ?_; conv => whnf)
    | (refine And.intro (fun _ => ?_) tf; conv => whnf)
    | (refine And.intro ft (fun _ => ?_); conv => whnf)
    | (refine And.intro (by kernel_rfl) ?_; conv => whnf)
    | (refine And.intro (by decide) ?_; conv => whnf)
    | (refine And.intro (fun _ => ?_) (fun h => absurd h (by decide)); conv => whnf)
    | (refine And.intro (fun h => absurd h (by decide)) (fun _ => ?_); conv => whnf)
    | (refine And.intro (fun _ => ?_) (fun _ => ?_) <;> conv => whnf)
    | (refine ⟨_, _, be.pu rfl rfl, ?_⟩; conv => whnf)))
  · have h1 := of_decide_eq_true ‹decide ((_ : Int) > 0) = true›
    have hr : agreeRef gs = (((bestR gs).2 : Int) == ((gs.map gR).length : Int)) := by
      unfold agreeRef
      rw [decide_eq_true (by omega), Bool.true_and, hm, Bool.eq_iff_iff, decide_eq_true_eq, beq_iff_eq]
      omega
    rw [hr]
    all_goals refine ⟨[], ?_⟩
    repeat (any_goals (first | exact True.intro | exact rfl | with_reducible_and_instances rfl | exact (by kernel_rfl) | refine And.intro ?_ ?_))
    all_goals conv => whnf
  · have h1 := of_decide_eq_false ‹decide ((_ : Int) > 0) = false›
    have hr : agreeRef gs = false := by
      unfold agreeRef
      rw [decide_eq_false (by omega), Bool.false_and]
    rw [hr]
    all_goals refine ⟨[], ?_⟩
    repeat (any_goals (first | exact True.intro | exact rfl | with_reducible_and_instances rfl | exact (by kernel_rfl) | refine And.intro ?_ ?_))
    all_goals conv => whnf
end Go.Proofs.Ytgidaifoiljgoaa
/- clock.Clock.Set, and that the layer's code is alive, by conditions. -/
namespace Go.Proofs.Ytgidaifoiljgoaa
set_option linter.unusedSimpArgs false
set_option linter.unusedVariables false
open Go.RowKit
set_option maxRecDepth 100000
def setC (s : CSt) (held : Bool) (k : Int) (l : List Smp) : CSt × Nat :=
  if 8 < l.length ∨ k < 0 then (s, 10) else if l.all okS = true then (⟨s.rho, s.least, held, k, l⟩, 0) else (s, 10)
theorem all_hit {α : Type} {p : α → Bool} {l : List α} {k : Nat} {x : α} (hx : l[k]? = some x) (hp : p x = false) : ¬ l.all p = true := by
  intro h
  have := List.all_eq_true.1 h x (List.mem_of_getElem? hx)
  rw [hp] at this; cases this
theorem all_next {α : Type} {p : α → Bool} {l : List α} {k : Nat} {x : α} (hf : (l.take k).all p = true) (hx : l[k]? = some x) (hp : p x = true) : (l.take (k + 1)).all p = true := by
  rw [List.take_add_one, hx, List.all_append, hf]; simp [hp]
theorem set_sat (s : CSt) (held : Bool) (z : Int) (l : List Smp) (hl : l.length ≤ 140737488351232) : Sat Try.prog 41 [.ptr 0 0, bA held, iA z, .own 2] [cR s, .sl 4 (s.list.map sR), .sl 4 (l.map sR)] (iA (setC s held z l).2)
    [.cells [iA (setC s held z l).1.rho, iA (setC s held z l).1.least, bA (setC s held z l).1.held, iA (setC s held z l).1.streak, .own 3], .dead, .sl 4 (l.map sR), .sl 4 ((setC s held z l).1.list.map sR)] := by
  refine sat_of_vc (T := tiOf Try.prog) (E := E0) Try.func41 rfl rfl hE0 hm0 rfl ?_
  conv => whnf
  repeat (any_goals (first
    | exact True.intro
    | (refine And.intro (fun _ => ?_) tf; conv => whnf)
    | (refine And.intro ft (fun _ => ?_); conv => whnf)
    | (refine And.intro (by kernel_rfl) ?_; conv => whnf)
    | (refine And.intro (by decide) ?_; conv => whnf)
    | (refine And.intro (fun _ => ?_) (fun h => absurd h (by decide)); conv => whnf)
    | (refine And.intro (fun h => absurd h (by decide)) (fun _ => ?_); conv => whnf)
    | (refine And.intro (fun _ => ?_) (fun _ => ?_) <;> conv => whnf)))
  all_goals try (refine Or.inl ?_; conv => whnf)
  repeat (any_goals (first
    | exact True.intro
    | (refine And.intro (fun _ => ?_) tf; conv => whnf)
    | (refine And.intro ft (fun _ => ?_); conv => whnf)
    | (refine And.intro (by kernel_rfl) ?_; conv => whnf)
    | (refine And.intro (by decide) ?_; conv => whnf)
    | (refine And.intro (fun _ => ?_) (fun h => absurd h (by decide)); conv => whnf)
    | (refine And.intro (fun h => absurd h (by decide)) (fun _ => ?_); conv => whnf)
    | (refine And.intro (fun _ => ?_) (fun _ => ?_) <;> conv => whnf)))
  all_goals try (exfalso; simp only [decide_eq_true_eq, decide_eq_false_iff_not, Bool.not_eq_true', Bool.not_eq_false', Bool.not_eq_true, Bool.not_eq_false, beq_iff_eq, bne_iff_ne, beq_eq_false_iff_ne, bne_eq_false_iff_eq, ne_eq, Decidable.not_not] at *; first | omega | contradiction | (simp_all; done) | (simp_all; omega))
  · have hr : setC s held z l = (s, 10) := by unfold setC; rw [if_pos (by simp at *; omega)]
    rw [hr]
    all_goals refine ⟨[(1, 3)], ?_⟩
    repeat (any_goals (first | exact True.intro | exact rfl | with_reducible_and_instances rfl | exact (by kernel_rfl) | refine And.intro ?_ ?_))
    all_goals conv => whnf
  · have h0 : ¬ (8 < l.length ∨ z < 0) := by simp at *; omega
    all_goals try (refine Or.inl ?_; conv => whnf)
    repeat (any_goals (first
      | exact True.intro
      | (refine And.intro (fun _ => ?_) tf; conv => whnf)
      | (refine And.intro ft (fun _ => ?_); conv => whnf)
      | (refine And.intro (by kernel_rfl) ?_; conv => whnf)
      | (refine And.intro (by decide) ?_; conv => whnf)
      | (refine And.intro (fun _ => ?_) (fun h => absurd h (by decide)); conv => whnf)
      | (refine And.intro (fun h => absurd h (by decide)) (fun _ => ?_); conv => whnf)
      | (refine And.intro (fun _ => ?_) (fun _ => ?_) <;> conv => whnf)))
    refine ⟨Nat, fun k => k ≤ l.length ∧ (l.take k).all okS = true, fun k => ([(20, iA k), (19, iA (l.map sR).length), (18, .own 2), (0, .ptr 0 0), (1, bA held), (2, iA z), (3, .own 2)], [cR s, .sl 4 (s.list.map sR), .sl 4 (l.map sR)]), fun k => l.length - k, ⟨0, ⟨Nat.zero_le _, rfl⟩, ?_⟩, ?_⟩
    · all_goals refine ⟨[], ?_⟩
      repeat (any_goals (first | exact True.intro | exact rfl | with_reducible_and_instances rfl | exact (by kernel_rfl) | refine And.intro ?_ ?_))
      all_goals conv => whnf
    rintro k ⟨hk, hf⟩
    conv => whnf
    by_cases hlt : k < l.length
    · have hx : l[k]? = some l[k] := List.getElem?_eq_getElem hlt
      repeat (any_goals (first
        | exact True.intro
        | (refine And.intro (fun _ => ?_) tf; conv => whnf)
        | (refine And.intro ft (fun _ => ?_); conv => whnf)
        | (refine And.intro (by kernel_rfl) ?_; conv => whnf)
        | (refine And.intro (by decide) ?_; conv => whnf)
        | (refine And.intro (fun _ => ?_) (fun h => absurd h (by decide)); conv => whnf)
        | (refine And.intro (fun h => absurd h (by decide)) (fun _ => ?_); conv => whnf)
        | (refine And.intro (fun _ => ?_) (fun h => absurd h (by simpa using hlt)); conv => whnf)
        | (refine And.intro (fun _ => ?_) (fun _ => ?_) <;> conv => whnf)))
      all_goals try (refine Or.inl ?_; conv => whnf)
      repeat (any_goals (first
        | exact True.intro
        | (refine And.intro (fun _ => ?_) tf; conv => whnf)
        | (refine And.intro ft (fun _ => ?_); conv => whnf)
        | (refine And.intro (by kernel_rfl) ?_; conv => whnf)
        | (refine And.intro (by decide) ?_; conv => whnf)
        | (refine And.intro (fun _ => ?_) (fun h => absurd h (by decide)); conv => whnf)
        | (refine And.intro (fun h => absurd h (by decide)) (fun _ => ?_); conv => whnf)
        | (refine And.intro (fun _ => ?_) (fun _ => ?_) <;> conv => whnf)))
      all_goals try (exfalso; simp only [decide_eq_true_eq, decide_eq_false_iff_not, Bool.not_eq_true', Bool.not_eq_false', Bool.not_eq_true, Bool.not_eq_false, beq_iff_eq, bne_iff_ne, beq_eq_false_iff_ne, bne_eq_false_iff_eq, ne_eq, Decidable.not_not] at *; first | omega | contradiction | (simp_all; done) | (simp_all; omega))
      all_goals try (refine Or.inl ?_; conv => whnf)
      repeat (any_goals (first
        | exact True.intro
        | (refine And.intro (fun _ => ?_) tf; conv => whnf)
        | (refine And.intro ft (fun _ => ?_); conv => whnf)
        | (refine And.intro (by kernel_rfl) ?_; conv => whnf)
        | (refine And.intro (by decide) ?_; conv => whnf)
        | (refine And.intro (fun _ => ?_) (fun h => absurd h (by decide)); conv => whnf)
        | (refine And.intro (fun h => absurd h (by decide)) (fun _ => ?_); conv => whnf)
        | (refine ⟨_, rfl, by simpa using hlt, ?_⟩; conv => whnf)
        | (refine ⟨_, map_get hx, ?_⟩; conv => whnf)
        | (refine And.intro (fun _ => ?_) (fun _ => ?_) <;> conv => whnf)
        | (refine ⟨_, _, (right_sat _).pu rfl rfl, ?_⟩; conv => whnf)))
      all_goals try (refine Or.inl ?_; conv => whnf)
      repeat (any_goals (first
        | exact True.intro
        | (refine And.intro (fun _ => ?_) tf; conv => whnf)
        | (refine And.intro ft (fun _ => ?_); conv => whnf)
        | (refine And.intro (by kernel_rfl) ?_; conv => whnf)
        | (refine And.intro (by decide) ?_; conv => whnf)
        | (refine And.intro (fun _ => ?_) (fun h => absurd h (by decide)); conv => whnf)
        | (refine And.intro (fun h => absurd h (by decide)) (fun _ => ?_); conv => whnf)
        | (refine And.intro (fun _ => ?_) (fun _ => ?_) <;> conv => whnf)))
      · have hr : setC s held z l = (s, 10) := by unfold setC; rw [if_neg h0, if_neg (all_hit hx (by (try simp only [decide_eq_true_eq, decide_eq_false_iff_not, Bool.not_eq_true', Bool.not_eq_false', Bool.not_eq_true, Bool.not_eq_false, beq_iff_eq, bne_iff_ne, beq_eq_false_iff_ne, bne_eq_false_iff_eq, ne_eq, Decidable.not_not, Int.natCast_eq_zero] at *); first | omega | assumption | (simp_all; done) | (simp_all; omega)))]
        rw [hr]
        all_goals refine ⟨[(1, 4), (3, 4)], ?_⟩
        repeat (any_goals (first | exact True.intro | exact rfl | with_reducible_and_instances rfl | exact (by kernel_rfl) | refine And.intro ?_ ?_))
        all_goals conv => whnf
      · refine ⟨k + 1, ⟨hlt, all_next hf hx (by (try simp only [decide_eq_true_eq, decide_eq_false_iff_not, Bool.not_eq_true', Bool.not_eq_false', Bool.not_eq_true, Bool.not_eq_false, beq_iff_eq, bne_iff_ne, beq_eq_false_iff_ne, bne_eq_false_iff_eq, ne_eq, Decidable.not_not, Int.natCast_eq_zero] at *); first | omega | assumption | (simp_all; done) | (simp_all; omega))⟩, show l.length - (k + 1) < l.length - k by omega, ?_⟩
        all_goals refine ⟨[], ?_⟩
        repeat (any_goals (first | exact True.intro | exact rfl | with_reducible_and_instances rfl | exact (by kernel_rfl) | refine And.intro ?_ ?_))
        all_goals conv => whnf
        exact wk1 (by omega)
    · have hkk : k = l.length := by omega
      subst hkk
      repeat (any_goals (first
        | exact True.intro
        | (refine And.intro (fun _ => ?_) tf; conv => whnf)
        | (refine And.intro ft (fun _ => ?_); conv => whnf)
        | (refine And.intro (by kernel_rfl) ?_; conv => whnf)
        | (refine And.intro (by decide) ?_; conv => whnf)
        | (refine And.intro (fun _ => ?_) (fun h => absurd h (by decide)); conv => whnf)
        | (refine And.intro (fun h => absurd h (by decide)) (fun _ => ?_); conv => whnf)
        | (refine And.intro (fun h => absurd h (by simpa using hlt)) (fun _ => ?_); conv => whnf)
        | (refine And.intro (fun _ => ?_) (fun _ => ?_) <;> conv => whnf)))
      all_goals try (refine Or.inl ?_; conv => whnf)
      repeat (any_goals (first
        | exact True.intro
        | (refine And.intro (fun _ => ?_) tf; conv => whnf)
        | (refine And.intro ft (fun _ => ?_); conv => whnf)
        | (refine And.intro (by kernel_rfl) ?_; conv => whnf)
        | (refine And.intro (by decide) ?_; conv => whnf)
        | (refine And.intro (fun _ => ?_) (fun h => absurd h (by decide)); conv => whnf)
        | (refine And.intro (fun h => absurd h (by decide)) (fun _ => ?_); conv => whnf)
        | (refine And.intro (fun _ => ?_) (fun _ => ?_) <;> conv => whnf)))
      all_goals try (exfalso; simp only [decide_eq_true_eq, decide_eq_false_iff_not, Bool.not_eq_true', Bool.not_eq_false', Bool.not_eq_true, Bool.not_eq_false, beq_iff_eq, bne_iff_ne, beq_eq_false_iff_ne, bne_eq_false_iff_eq, ne_eq, Decidable.not_not] at *; first | omega | contradiction | (simp_all; done) | (simp_all; omega))
      rw [List.take_length] at hf
      have hr : setC s held z l = (⟨s.rho, s.least, held, z, l⟩, 0) := by unfold setC; rw [if_neg h0, if_pos hf]
      rw [hr]
      repeat (any_goals (first
        | exact True.intro
        | (refine And.intro (fun _ => ?_) tf; conv => whnf)
        | (refine And.intro ft (fun _ => ?_); conv => whnf)
        | (refine And.intro (by kernel_rfl) ?_; conv => whnf)
        | (refine And.intro (by decide) ?_; conv => whnf)
        | (refine And.intro (fun _ => ?_) (fun h => absurd h (by decide)); conv => whnf)
        | (refine And.intro (fun h => absurd h (by decide)) (fun _ => ?_); conv => whnf)
        | (refine And.intro (fun _ => ?_) (fun _ => ?_) <;> conv => whnf)
        | (refine ⟨_, _, lendON (clone_sat l (by simp at *; omega)) rfl (flat_map sR_flat _), ?_⟩; conv => whnf)))
      all_goals refine ⟨[], ?_⟩
      repeat (any_goals (first | exact True.intro | exact rfl | with_reducible_and_instances rfl | exact (by kernel_rfl) | refine And.intro ?_ ?_))
      all_goals conv => whnf
  · have hr : setC s held z l = (s, 10) := by unfold setC; rw [if_pos (by simp at *; omega)]
    rw [hr]
    all_goals refine ⟨[(1, 3)], ?_⟩
    repeat (any_goals (first | exact True.intro | exact rfl | with_reducible_and_instances rfl | exact (by kernel_rfl) | refine And.intro ?_ ?_))
    all_goals conv => whnf
end Go.Proofs.Ytgidaifoiljgoaa
/- That the layer's code is alive, by conditions. -/
namespace Go.Proofs.Ytgidaifoiljgoaa
set_option linter.unusedSimpArgs false
set_option linter.unusedVariables false
open Go.RowKit
set_option maxRecDepth 100000
def q1 : Smp := ⟨100, 7, 9, 110⟩
def q2 : Smp := ⟨300, 9, 9, 301⟩
def q3 : Smp := ⟨310, 19, 19, 311⟩
def t0 : CSt := ⟨0, 1, false, 0, []⟩
def t1 : CSt := ⟨0, 1, false, 1, [q1]⟩
def t2 : CSt := ⟨0, 1, true, 0, [q2]⟩
def t3 : CSt := ⟨0, 1, false, 1, [q2, q3]⟩
theorem c1 : addC t0 q1 = (t1, 0) := by kernel_rfl
theorem c2 : addC t1 q2 = (t2, 21) := by kernel_rfl
theorem c3 : addC t2 q3 = (t3, 0) := by kernel_rfl
theorem c4 : atC t0 9 = ((0, 0), 19) := by kernel_rfl
theorem c5 : atC t1 9 = ((101, 111), 0) := by kernel_rfl
theorem c6 : pointC t1 9 = (106, 0) := by kernel_rfl
theorem c7 : atR q1 9 0 = ((101, 111), 0) := by kernel_rfl
theorem c8 : setC t3 true 0 [q1] = (⟨0, 1, true, 0, [q1]⟩, 0) := by kernel_rfl
theorem alive_sat : Sat Try.prog 12 [] [] (bA true) [] := by
  have a1 := at_sat q1 9 0 (by omega) (by omega)
  have n1 := new_ok 0 1 rfl (by omega) (by omega)
  have a0 := clkAt_sat t0 9 (by decide)
  have d1 := add_sat t0 q1 (by decide) (by decide)
  have a2 := clkAt_sat t1 9 (by decide)
  have p1 := point_sat t1 9 (by decide)
  have l1 := clone1_sat t1 (by decide)
  have d2 := add_sat t1 q2 (by decide) (by decide)
  have m2 := samples_sat t2 (by decide)
  have d3 := add_sat t2 q3 (by decide) (by decide)
  have v1 := set_sat t3 true 0 [q1] (by decide)
  rw [c7] at a1
  rw [c4] at a0
  rw [c1] at d1
  rw [c5] at a2
  rw [c6] at p1
  rw [c2] at d2
  rw [c3] at d3
  rw [c8] at v1
  refine sat_of_vc (T := tiOf Try.prog) (E := E0) Try.func12 rfl rfl hE0 hm0 rfl ?_
  conv => whnf
  repeat (any_goals (first
    | exact True.intro
    | (refine Or.inl ?_; conv => whnf)
    | (refine And.intro (fun _ => ?_) tf; conv => whnf)
    | (refine And.intro ft (fun _ => ?_); conv => whnf)
    | (refine And.intro (by kernel_rfl) ?_; conv => whnf)
    | (refine And.intro (by decide) ?_; conv => whnf)
    | (refine And.intro (fun _ => ?_) (fun h => absurd h (by decide)); conv => whnf)
    | (refine And.intro (fun h => absurd h (by decide)) (fun _ => ?_); conv => whnf)
    | (refine ⟨0, rfl, by decide, ?_⟩; conv => whnf)
    | (refine ⟨_, rfl, ?_⟩; conv => whnf)
    | (refine And.intro (fun _ => ?_) (fun _ => ?_) <;> conv => whnf)
    | (refine ⟨_, _, a1.pu rfl rfl, ?_⟩; conv => whnf)
    | (refine ⟨_, _, n1.nw rfl, ?_⟩; conv => whnf)
    | (refine ⟨_, _, a0.at2 2 3 rfl rfl rfl rfl rfl, ?_⟩; conv => whnf)
    | (refine ⟨_, _, d1.at2 2 3 rfl rfl rfl rfl rfl, ?_⟩; conv => whnf)
    | (refine ⟨_, _, a2.at2 2 5 rfl rfl rfl rfl rfl, ?_⟩; conv => whnf)
    | (refine ⟨_, _, p1.at2 2 5 rfl rfl rfl rfl rfl, ?_⟩; conv => whnf)
    | (refine ⟨_, _, l1.at2 2 5 rfl rfl rfl rfl rfl, ?_⟩; conv => whnf)
    | (refine ⟨_, _, d2.at2 2 5 rfl rfl rfl rfl rfl, ?_⟩; conv => whnf)
    | (refine ⟨_, _, (held_sat t2).at2 2 9 rfl rfl rfl rfl rfl, ?_⟩; conv => whnf)
    | (refine ⟨_, _, m2.at2 2 9 rfl rfl rfl rfl rfl, ?_⟩; conv => whnf)
    | (refine ⟨_, _, d3.at2 2 9 rfl rfl rfl rfl rfl, ?_⟩; conv => whnf)
    | (refine ⟨_, _, (held_sat t3).at2 2 11 rfl rfl rfl rfl rfl, ?_⟩; conv => whnf)
    | (refine ⟨_, _, (streak_sat t3).at2 2 11 rfl rfl rfl rfl rfl, ?_⟩; conv => whnf)
    | (refine ⟨_, _, (right_sat q1).pu rfl rfl, ?_⟩; conv => whnf)
    | (refine ⟨_, _, (trip_sat q1).pu rfl rfl, ?_⟩; conv => whnf)
    | (refine ⟨_, _, (held_sat t1).at2 7 8 rfl rfl rfl rfl rfl, ?_⟩; conv => whnf)
    | (refine ⟨_, _, (streak_sat t1).at2 7 8 rfl rfl rfl rfl rfl, ?_⟩; conv => whnf)
    | (refine ⟨_, _, v1.at3 2 11 12 rfl rfl rfl rfl rfl rfl, ?_⟩; conv => whnf)
    | (refine ⟨_, _, (held_sat ⟨0, 1, true, 0, [q1]⟩).at2 2 13 rfl rfl rfl rfl rfl, ?_⟩; conv => whnf)
    | (refine ⟨_, _, eqP (by kernel_rfl), ?_⟩; conv => whnf)
    | (refine ⟨_, _, neP (by kernel_rfl), ?_⟩; conv => whnf)
    | (refine ⟨_, _, eqS (by kernel_rfl), ?_⟩; conv => whnf)))
  all_goals refine ⟨[], ?_⟩
  repeat (any_goals (first | exact True.intro | exact rfl | with_reducible_and_instances rfl | exact (by kernel_rfl) | refine And.intro ?_ ?_))
  all_goals conv => whnf
end Go.Proofs.Ytgidaifoiljgoaa
/- Plain laws of a sample's interval. -/
namespace Go.Proofs.Ytgidaifoiljgoaa
set_option linter.unusedSimpArgs false
set_option linter.unusedVariables false
open Go.RowKit
theorem ratN_up (a b c : Nat) (hc : 0 < c) : ratN a b c true = (a * b + (c - 1)) / c := by
  unfold ratN
  have hd := Nat.div_add_mod (a * b) c
  have hm := Nat.mod_lt (a * b) hc
  generalize hq : a * b / c = q at *
  generalize hr : a * b % c = r at *
  split
  · rename_i h
    symm
    rw [Nat.div_eq_iff hc]
    have : c * (q + 1) = c * q + c := Nat.mul_succ c q
    have : (q + 1) * c = c * (q + 1) := Nat.mul_comm _ _
    omega
  · rename_i h
    have h0 : r = 0 := by simpa using h
    symm
    rw [Nat.div_eq_iff hc]
    have : q * c = c * q := Nat.mul_comm _ _
    omega
theorem ratN_mono (a a' b c : Nat) (up : Bool) (hc : 0 < c) (h : a ≤ a') : ratN a b c up ≤ ratN a' b c up := by
  have hm : a * b ≤ a' * b := Nat.mul_le_mul_right _ h
  cases up with
  | true => rw [ratN_up _ _ _ hc, ratN_up _ _ _ hc]; exact Nat.div_le_div_right (by omega)
  | false => unfold ratN; simp; exact Nat.div_le_div_right hm
theorem lowZ_mono (x y r : Int) (hr : okRate r = true) (h : x ≤ y) : lowZ x r ≤ lowZ y r := by
  have hr := of_decide_eq_true hr
  unfold lowZ
  split
  · rw [if_pos (by omega)]
    have := ratN_mono (x - 1).toNat (y - 1).toNat 1000000 (1000000 + r).toNat true (by omega) (by omega)
    omega
  · split
    · omega
    · have := ratN_mono (1 - y).toNat (1 - x).toNat 1000000 (1000000 - r).toNat false (by omega) (by omega)
      omega
theorem atR_out {s : Smp} {a rho : Int} (h : (atR s a rho).2 = 0) : okS s = true ∧ isT a = true ∧ okRate rho = true ∧ atLo s a rho ≤ atHi s a rho ∧ (atR s a rho).1 = (atLo s a rho, atHi s a rho) := by
  unfold atR at h ⊢
  by_cases h1 : okS s = false
  · rw [if_pos h1] at h; cases h
  · rw [if_neg h1] at h ⊢
    by_cases h2 : isT a = false ∨ okRate rho = false
    · rw [if_pos h2] at h; cases h
    · rw [if_neg h2] at h ⊢
      by_cases h3 : atHi s a rho < atLo s a rho
      · rw [if_pos h3] at h; cases h
      · rw [if_neg h3]
        simp at h1 h2
        exact ⟨h1, h2.1, h2.2, by omega, rfl⟩
theorem rises_plain (s : Smp) (a b rho : Int) (ha : (atR s a rho).2 = 0) (hb : (atR s b rho).2 = 0) (h : a ≤ b) : (atR s a rho).1.1 ≤ (atR s b rho).1.1 ∧ (atR s a rho).1.2 ≤ (atR s b rho).1.2 := by
  obtain ⟨_, _, hr, _, e1⟩ := atR_out ha
  obtain ⟨_, _, _, _, e2⟩ := atR_out hb
  rw [e1, e2]
  unfold atLo atHi highZ
  have h1 := lowZ_mono (a - s.got) (b - s.got) rho hr (by omega)
  have h2 := lowZ_mono (-(b - s.sent)) (-(a - s.sent)) rho hr (by omega)
  constructor <;> omega
end Go.Proofs.Ytgidaifoiljgoaa
/- ClockRises, by conditions. -/
namespace Go.Proofs.Ytgidaifoiljgoaa
set_option linter.unusedSimpArgs false
set_option linter.unusedVariables false
open Go.RowKit
set_option maxRecDepth 100000
def inS (s : Smp) : Prop := in64 s.asked ∧ in64 s.got ∧ in64 s.sent ∧ in64 s.came
theorem ty_smp {x : D} (h : TyV Try.prog 33 x) : ∃ s, x = .agg (sR s) ∧ inS s := by
  obtain ⟨zs, h1, rfl, h3⟩ := ty_sints (n := 4) h (by kernel_rfl)
  match zs, h1, h3 with
  | [a, b, c, d], _, h3 => exact ⟨⟨a, b, c, d⟩, rfl, h3 a (by simp), h3 b (by simp), h3 c (by simp), h3 d (by simp)⟩
theorem ty_smps {x : D} (h : TyV Try.prog 22 x) : ∃ l : List Smp, x = .sl 4 (l.map sR) ∧ (∀ s ∈ l, inS s) ∧ l.length * 32 ≤ reachBytes := by
  obtain ⟨rows, rfl, h2, h3⟩ := ty_slice h Try.underlying22
  obtain ⟨l, rfl, hl⟩ := rows_map (f := sR) (p := inS) fun r hr => by
    obtain ⟨zs, h1, rfl, h3⟩ := ty_ints (n := 4) (h2 r hr) (by kernel_rfl)
    match zs, h1, h3 with
    | [a, b, c, d], _, h3 => exact ⟨⟨a, b, c, d⟩, rfl, h3 a (by simp), h3 b (by simp), h3 c (by simp), h3 d (by simp)⟩
  refine ⟨l, ?_, hl, ?_⟩
  · rw [show Try.prog.cellsOf 33 = 4 by kernel_rfl]
  · rw [show Try.prog.bytesOf 33 = 32 by kernel_rfl, List.length_map] at h3; exact h3
theorem rises_sat (s : Smp) (a b rho : Int) (ha : in64 a) (hb : in64 b) : Sat Try.prog 4 [sA s, iA a, iA b, iA rho] [] (bA true) [] := by
  refine sat_of_vc (T := tiOf Try.prog) (E := E0) Try.func4 rfl rfl hE0 hm0 rfl ?_
  conv => whnf
  repeat (any_goals (first
    | exact True.intro
    | (refine Or.inl ?_; conv => whnf)
    | (refine And.intro (fun _ => ?_) tf; conv => whnf)
    | (refine And.intro ft (fun _ => ?_); conv => whnf)
    | (refine And.intro (by kernel_rfl) ?_; conv => whnf)
    | (refine And.intro (by decide) ?_; conv => whnf)
    | (refine And.intro (fun _ => ?_) (fun h => absurd h (by decide)); conv => whnf)
    | (refine And.intro (fun h => absurd h (by decide)) (fun _ => ?_); conv => whnf)
    | (refine And.intro (fun _ => ?_) (fun _ => ?_) <;> conv => whnf)
    | (refine ⟨_, _, alive_sat.pu rfl rfl, ?_⟩; conv => whnf)
    | (refine ⟨_, _, (at_sat s a rho ha.1 ha.2).pu rfl rfl, ?_⟩; conv => whnf)
    | (refine ⟨_, _, (at_sat s b rho hb.1 hb.2).pu rfl rfl, ?_⟩; conv => whnf)))
  · all_goals refine ⟨[], ?_⟩
    repeat (any_goals (first | exact True.intro | exact rfl | with_reducible_and_instances rfl | exact (by kernel_rfl) | refine And.intro ?_ ?_))
    all_goals conv => whnf
  · have h1 : (atR s a rho).2 = 0 := (by (try simp only [decide_eq_true_eq, decide_eq_false_iff_not, Bool.not_eq_true', Bool.not_eq_false', Bool.not_eq_true, Bool.not_eq_false, beq_iff_eq, bne_iff_ne, beq_eq_false_iff_ne, bne_eq_false_iff_eq, ne_eq, Decidable.not_not, Int.natCast_eq_zero] at *); first | omega | assumption | (simp_all; done) | (simp_all; omega))
    have h2 : (atR s b rho).2 = 0 := (by (try simp only [decide_eq_true_eq, decide_eq_false_iff_not, Bool.not_eq_true', Bool.not_eq_false', Bool.not_eq_true, Bool.not_eq_false, beq_iff_eq, bne_iff_ne, beq_eq_false_iff_ne, bne_eq_false_iff_eq, ne_eq, Decidable.not_not, Int.natCast_eq_zero] at *); first | omega | assumption | (simp_all; done) | (simp_all; omega))
    have h3 : a ≤ b := (by (try simp only [decide_eq_true_eq, decide_eq_false_iff_not, Bool.not_eq_true', Bool.not_eq_false', Bool.not_eq_true, Bool.not_eq_false, beq_iff_eq, bne_iff_ne, beq_eq_false_iff_ne, bne_eq_false_iff_eq, ne_eq, Decidable.not_not, Int.natCast_eq_zero] at *); first | omega | assumption | (simp_all; done) | (simp_all; omega))
    rw [decide_eq_true (rises_plain s a b rho h1 h2 h3).2]
    all_goals refine ⟨[], ?_⟩
    repeat (any_goals (first | exact True.intro | exact rfl | with_reducible_and_instances rfl | exact (by kernel_rfl) | refine And.intro ?_ ?_))
    all_goals conv => whnf
  · exfalso
    have h1 : (atR s a rho).2 = 0 := (by (try simp only [decide_eq_true_eq, decide_eq_false_iff_not, Bool.not_eq_true', Bool.not_eq_false', Bool.not_eq_true, Bool.not_eq_false, beq_iff_eq, bne_iff_ne, beq_eq_false_iff_ne, bne_eq_false_iff_eq, ne_eq, Decidable.not_not, Int.natCast_eq_zero] at *); first | omega | assumption | (simp_all; done) | (simp_all; omega))
    have h2 : (atR s b rho).2 = 0 := (by (try simp only [decide_eq_true_eq, decide_eq_false_iff_not, Bool.not_eq_true', Bool.not_eq_false', Bool.not_eq_true, Bool.not_eq_false, beq_iff_eq, bne_iff_ne, beq_eq_false_iff_ne, bne_eq_false_iff_eq, ne_eq, Decidable.not_not, Int.natCast_eq_zero] at *); first | omega | assumption | (simp_all; done) | (simp_all; omega))
    have h3 : a ≤ b := (by (try simp only [decide_eq_true_eq, decide_eq_false_iff_not, Bool.not_eq_true', Bool.not_eq_false', Bool.not_eq_true, Bool.not_eq_false, beq_iff_eq, bne_iff_ne, beq_eq_false_iff_ne, bne_eq_false_iff_eq, ne_eq, Decidable.not_not, Int.natCast_eq_zero] at *); first | omega | assumption | (simp_all; done) | (simp_all; omega))
    have h4 := (rises_plain s a b rho h1 h2 h3).1
    simp_all
  · all_goals refine ⟨[], ?_⟩
    repeat (any_goals (first | exact True.intro | exact rfl | with_reducible_and_instances rfl | exact (by kernel_rfl) | refine And.intro ?_ ?_))
    all_goals conv => whnf
  · all_goals refine ⟨[], ?_⟩
    repeat (any_goals (first | exact True.intro | exact rfl | with_reducible_and_instances rfl | exact (by kernel_rfl) | refine And.intro ?_ ?_))
    all_goals conv => whnf
theorem rises_law (H : Type) (enc : TypeId × Value → H) : LawWalk H enc Try.prog 4 Try.f4 :=
  lawWalk_of_sat (by kernel_rfl) fun args h => by
    obtain ⟨x, _, rfl, h1, h⟩ := h
    obtain ⟨a, _, rfl, h2, h⟩ := h
    obtain ⟨b, _, rfl, h3, h⟩ := h
    obtain ⟨r, _, rfl, h4, h⟩ := h
    obtain rfl := h
    obtain ⟨s, rfl, _⟩ := ty_smp h1
    obtain ⟨a, rfl, ha⟩ := ty_i64 h2 Try.underlying2
    obtain ⟨b, rfl, hb⟩ := ty_i64 h3 Try.underlying2
    obtain ⟨r, rfl, _⟩ := ty_i64 h4 Try.underlying2
    exact rises_sat s a b r ha hb
end Go.Proofs.Ytgidaifoiljgoaa
/- ClockTrusts, by conditions. -/
namespace Go.Proofs.Ytgidaifoiljgoaa
set_option linter.unusedSimpArgs false
set_option linter.unusedVariables false
open Go.RowKit
set_option maxRecDepth 100000
/-- What a clock always is. -/
structure CInv (s : CSt) (rho least : Int) (k : Nat) : Prop where
  r : s.rho = rho
  l : s.least = least
  s0 : 0 ≤ s.streak
  s1 : s.streak ≤ k
  n8 : s.list.length ≤ 8
  ns : (s.list.length : Int) ≤ s.streak + 1
theorem keep_le (l : List Smp) (x : Smp) (h : l.length ≤ 8) : (keepC (l ++ [x])).length ≤ 8 ∧ (keepC (l ++ [x])).length ≤ l.length + 1 := by unfold keepC; split <;> simp at * <;> omega
/-- What Add does, each way. -/
theorem addC_ways (s : CSt) (x : Smp) {rho least : Int} {k : Nat} (I : CInv s rho least k) (hk : k ≤ 1000000) :
    (okS x = false ∧ addC s x = (s, 10)) ∨
    (okS x = true ∧ (addC s x).2 = 0 ∧ (addC s x).1.streak = s.streak + 1 ∧ (addC s x).1.held = (s.held && decide (s.streak + 1 < least)) ∧ CInv (addC s x).1 rho least (k + 1)) ∨
    (okS x = true ∧ (addC s x).2 = 21 ∧ (addC s x).1.streak = 0 ∧ (addC s x).1.held = true ∧ CInv (addC s x).1 rho least (k + 1)) := by
  obtain ⟨r, l, s0, s1, n8, ns⟩ := I
  cases hx : okS x with
  | false => exact .inl ⟨rfl, by unfold addC; rw [if_pos hx]⟩
  | true =>
    right
    have h0 : ¬ okS x = false := by simp [hx]
    have hk2 := keep_le s.list x n8
    by_cases ha : agreeB ((keepC (s.list ++ [x])).map fun o => gapOf o x.sent s.rho) = true
    · left
      have hr : addC s x = (⟨s.rho, s.least, if s.least ≤ s.streak + 1 then false else s.held, s.streak + 1, keepC (s.list ++ [x])⟩, 0) := by
        unfold addC; rw [if_neg h0, if_pos ha, if_pos (by omega)]
      rw [hr]
      refine ⟨rfl, rfl, rfl, ?_, ⟨r, l, by show 0 ≤ s.streak + 1; omega, by show s.streak + 1 ≤ _; omega, hk2.1, by show ((keepC (s.list ++ [x])).length : Int) ≤ s.streak + 1 + 1; omega⟩⟩
      show (if s.least ≤ s.streak + 1 then false else s.held) = _
      rw [l]
      split
      · rw [decide_eq_false (by omega)]; simp
      · rw [decide_eq_true (by omega)]; simp
    · right
      have hr : addC s x = (⟨s.rho, s.least, true, 0, if okG (gapOf x x.sent s.rho) = true then [x] else []⟩, 21) := by
        unfold addC; rw [if_neg h0, if_neg ha]
      rw [hr]
      refine ⟨rfl, rfl, rfl, rfl, ⟨r, l, by show (0 : Int) ≤ 0; omega, by show (0 : Int) ≤ _; omega, ?_, ?_⟩⟩
      · show (if okG (gapOf x x.sent s.rho) = true then [x] else []).length ≤ 8
        split <;> simp
      · show ((if okG (gapOf x x.sent s.rho) = true then [x] else []).length : Int) ≤ 0 + 1
        split <;> simp
theorem trusts_sat (rho trust : Int) (l : List Smp) : Sat Try.prog 5 [iA rho, iA trust, .d (.sl 4 (l.map sR))] [] (bA true) [] := by
  by_cases h60 : 60 < l.length
  · refine sat_of_vc (T := tiOf Try.prog) (E := E0) Try.func5 rfl rfl hE0 hm0 rfl ?_
    conv => whnf
    repeat (any_goals (first
      | exact True.intro
      | (refine Or.inl ?_; conv => whnf)
      | (refine And.intro (fun _ => ?_) tf; conv => whnf)
      | (refine And.intro ft (fun _ => ?_); conv => whnf)
      | (refine And.intro (by kernel_rfl) ?_; conv => whnf)
      | (refine And.intro (by decide) ?_; conv => whnf)
      | (refine And.intro (fun _ => ?_) (fun h => absurd h (by decide)); conv => whnf)
      | (refine And.intro (fun h => absurd h (by decide)) (fun _ => ?_); conv => whnf)
      | (refine And.intro (fun _ => ?_) (fun _ => ?_) <;> conv => whnf)
      | (refine ⟨_, _, alive_sat.pu rfl rfl, ?_⟩; conv => whnf)))
    all_goals try (exfalso; simp only [decide_eq_true_eq, decide_eq_false_iff_not, Bool.not_eq_true', Bool.not_eq_false', Bool.not_eq_true, Bool.not_eq_false, beq_iff_eq, bne_iff_ne, beq_eq_false_iff_ne, bne_eq_false_iff_eq, ne_eq, Decidable.not_not] at *; first | omega | contradiction | (simp_all; done) | (simp_all; omega))
    all_goals refine ⟨[], ?_⟩
    repeat (any_goals (first | exact True.intro | exact rfl | with_reducible_and_instances rfl | exact (by kernel_rfl) | refine And.intro ?_ ?_))
    all_goals conv => whnf
  by_cases hok : okRate rho = true ∧ 0 ≤ trust ∧ trust ≤ 100
  · have n1 := new_ok rho trust hok.1 hok.2.1 hok.2.2
    refine sat_of_vc (T := tiOf Try.prog) (E := E0) Try.func5 rfl rfl hE0 hm0 rfl ?_
    conv => whnf
    repeat (any_goals (first
      | exact True.intro
      | (refine And.intro (fun _ => ?_) tf; conv => whnf)
      | (refine And.intro ft (fun _ => ?_); conv => whnf)
      | (refine And.intro (by kernel_rfl) ?_; conv => whnf)
      | (refine And.intro (by decide) ?_; conv => whnf)
      | (refine And.intro (fun _ => ?_) (fun h => absurd h (by decide)); conv => whnf)
      | (refine And.intro (fun h => absurd h (by decide)) (fun _ => ?_); conv => whnf)
      | (refine And.intro (fun _ => ?_) (fun _ => ?_) <;> conv => whnf)))
    all_goals try (refine Or.inl ?_; conv => whnf)
    repeat (any_goals (first
      | exact True.intro
      | (refine And.intro (fun _ => ?_) tf; conv => whnf)
      | (refine And.intro ft (fun _ => ?_); conv => whnf)
      | (refine And.intro (by kernel_rfl) ?_; conv => whnf)
      | (refine And.intro (by decide) ?_; conv => whnf)
      | (refine And.intro (fun _ => ?_) (fun h => absurd h (by decide)); conv => whnf)
      | (refine And.intro (fun h => absurd h (by decide)) (fun _ => ?_); conv => whnf)
      | (refine And.intro (fun _ => ?_) (fun _ => ?_) <;> conv => whnf)
      | (refine ⟨_, _, alive_sat.pu rfl rfl, ?_⟩; conv => whnf)))
    all_goals try (refine Or.inl ?_; conv => whnf)
    repeat (any_goals (first
      | exact True.intro
      | (refine And.intro (fun _ => ?_) tf; conv => whnf)
      | (refine And.intro ft (fun _ => ?_); conv => whnf)
      | (refine And.intro (by kernel_rfl) ?_; conv => whnf)
      | (refine And.intro (by decide) ?_; conv => whnf)
      | (refine And.intro (fun _ => ?_) (fun h => absurd h (by decide)); conv => whnf)
      | (refine And.intro (fun h => absurd h (by decide)) (fun _ => ?_); conv => whnf)
      | (refine And.intro (fun _ => ?_) (fun _ => ?_) <;> conv => whnf)))
    all_goals try (exfalso; simp only [decide_eq_true_eq, decide_eq_false_iff_not, Bool.not_eq_true', Bool.not_eq_false', Bool.not_eq_true, Bool.not_eq_false, beq_iff_eq, bne_iff_ne, beq_eq_false_iff_ne, bne_eq_false_iff_eq, ne_eq, Decidable.not_not] at *; first | omega | contradiction | (simp_all; done) | (simp_all; omega))
    all_goals try (refine Or.inl ?_; conv => whnf)
    repeat (any_goals (first
      | exact True.intro
      | (refine And.intro (fun _ => ?_) tf; conv => whnf)
      | (refine And.intro ft (fun _ => ?_); conv => whnf)
      | (refine And.intro (by kernel_rfl) ?_; conv => whnf)
      | (refine And.intro (by decide) ?_; conv => whnf)
      | (refine And.intro (fun _ => ?_) (fun h => absurd h (by decide)); conv => whnf)
      | (refine And.intro (fun h => absurd h (by decide)) (fun _ => ?_); conv => whnf)
      | (refine And.intro (fun _ => ?_) (fun _ => ?_) <;> conv => whnf)
      | (refine ⟨_, _, n1.nw rfl, ?_⟩; conv => whnf)))
    all_goals try (refine Or.inl ?_; conv => whnf)
    repeat (any_goals (first
      | exact True.intro
      | (refine And.intro (fun _ => ?_) tf; conv => whnf)
      | (refine And.intro ft (fun _ => ?_); conv => whnf)
      | (refine And.intro (by kernel_rfl) ?_; conv => whnf)
      | (refine And.intro (by decide) ?_; conv => whnf)
      | (refine And.intro (fun _ => ?_) (fun h => absurd h (by decide)); conv => whnf)
      | (refine And.intro (fun h => absurd h (by decide)) (fun _ => ?_); conv => whnf)
      | (refine And.intro (fun _ => ?_) (fun _ => ?_) <;> conv => whnf)
      | (refine ⟨_, _, eqP (by kernel_rfl), ?_⟩; conv => whnf)))
    all_goals try (exfalso; simp only [decide_eq_true_eq, decide_eq_false_iff_not, Bool.not_eq_true', Bool.not_eq_false', Bool.not_eq_true, Bool.not_eq_false, beq_iff_eq, bne_iff_ne, beq_eq_false_iff_ne, bne_eq_false_iff_eq, ne_eq, Decidable.not_not] at *; first | omega | contradiction | (simp_all; done) | (simp_all; omega))
    all_goals try (refine Or.inl ?_; conv => whnf)
    repeat (any_goals (first
      | exact True.intro
      | (refine And.intro (fun _ => ?_) tf; conv => whnf)
      | (refine And.intro ft (fun _ => ?_); conv => whnf)
      | (refine And.intro (by kernel_rfl) ?_; conv => whnf)
      | (refine And.intro (by decide) ?_; conv => whnf)
      | (refine And.intro (fun _ => ?_) (fun h => absurd h (by decide)); conv => whnf)
      | (refine And.intro (fun h => absurd h (by decide)) (fun _ => ?_); conv => whnf)
      | (refine And.intro (fun _ => ?_) (fun _ => ?_) <;> conv => whnf)))
    refine ⟨Nat × CSt, fun y => y.1 ≤ l.length ∧ CInv y.2 rho trust y.1, fun y => ([(11, iA y.1), (9, iA y.2.streak), (10, bA y.2.held), (7, .ptr 0 0), (1, iA trust), (2, .d (.sl 4 (l.map sR)))], cH y.2), fun y => l.length - y.1, ⟨(0, ⟨rho, trust, false, 0, []⟩), ⟨Nat.zero_le _, rfl, rfl, Int.le_refl _, Int.le_refl _, Nat.zero_le _, show (0 : Int) ≤ 0 + 1 by omega⟩, ?_⟩, ?_⟩
    · all_goals refine ⟨[], ?_⟩
      repeat (any_goals (first | exact True.intro | exact rfl | with_reducible_and_instances rfl | exact (by kernel_rfl) | refine And.intro ?_ ?_))
      all_goals conv => whnf
    rintro ⟨k, s⟩ ⟨hk, I⟩
    have hk : k ≤ l.length := hk
    have I : CInv s rho trust k := I
    conv => whnf
    by_cases hlt : k < l.length
    · have hx : l[k]? = some l[k] := List.getElem?_eq_getElem hlt
      generalize l[k] = x at hx
      have hI := I
      obtain ⟨r1, r2, s0, s1, n8, ns⟩ := I
      have d := add_sat s x n8 (by omega)
      have hw := addC_ways s x hI (by omega)
      generalize hq : addC s x = q at d hw
      obtain ⟨s', e⟩ := q
      have d : Sat Try.prog 15 [.ptr 0 0, sA x] (cH s) (iA e) (cH2 s') := d
      have hI' : CInv s' rho trust (k + 1) := by
        rcases hw with ⟨_, h⟩ | ⟨_, _, _, _, h⟩ | ⟨_, _, _, _, h⟩
        · injection h with h _; subst h; exact ⟨r1, r2, s0, by omega, n8, ns⟩
        · exact h
        · exact h
      have hw : (okS x = false ∧ e = 10 ∧ s'.streak = s.streak ∧ s'.held = s.held) ∨ (okS x = true ∧ e = 0 ∧ s'.streak = s.streak + 1 ∧ s'.held = (s.held && decide (s.streak + 1 < trust))) ∨ (okS x = true ∧ e = 21 ∧ s'.streak = 0 ∧ s'.held = true) := by
        rcases hw with ⟨h1, h⟩ | ⟨h1, h2, h3, h4, _⟩ | ⟨h1, h2, h3, h4, _⟩
        · injection h with h h'; subst h h'; exact .inl ⟨h1, rfl, rfl, rfl⟩
        · exact .inr (.inl ⟨h1, h2, h3, h4⟩)
        · exact .inr (.inr ⟨h1, h2, h3, h4⟩)
      have h8 := hI'.n8
      have hn := hI'.ns
      have hs0 := hI'.s0
      have hs1 := hI'.s1
      have hw1 : IntKind.i64.wrap (s.streak + 1) = s.streak + 1 := wi (by omega) (by omega)
      have hw2 : IntKind.i64.wrap (s.streak + 1 + 1) = s.streak + 2 := by rw [wi (by omega) (by omega)]; omega
      have hw3 : IntKind.i64.wrap (0 + 1) = 1 := by decide
      rcases hw with ⟨g1, rfl, g3, g4⟩ | ⟨g1, rfl, g3, g4⟩ | ⟨g1, rfl, g3, g4⟩
      · repeat (any_goals (first
          | exact True.intro
          | (refine Or.inl ?_; conv => whnf)
          | (refine And.intro (fun _ => ?_) tf; conv => whnf)
          | (refine And.intro ft (fun _ => ?_); conv => whnf)
          | (refine And.intro (by kernel_rfl) ?_; conv => whnf)
          | (refine And.intro (by decide) ?_; conv => whnf)
          | (refine And.intro (fun _ => ?_) (fun h => absurd h (by decide)); conv => whnf)
          | (refine And.intro (fun h => absurd h (by decide)) (fun _ => ?_); conv => whnf)
          | (refine And.intro (fun _ => ?_) (fun h => absurd h (by simpa using hlt)); conv => whnf)
          | (refine ⟨k, _, rfl, map_get hx, ?_⟩; conv => whnf)
          | (refine And.intro (fun _ => ?_) (fun _ => ?_) <;> conv => whnf)
          | (refine ⟨_, _, d.at2 0 1 rfl rfl rfl rfl rfl, ?_⟩; conv => whnf)
          | (refine ⟨_, _, (right_sat x).pu rfl rfl, ?_⟩; conv => whnf)
          | (refine ⟨_, _, (streak_sat s').at2 0 2 rfl rfl rfl rfl rfl, ?_⟩; conv => whnf)
          | (refine ⟨_, _, (held_sat s').at2 0 2 rfl rfl rfl rfl rfl, ?_⟩; conv => whnf)
          | (refine ⟨_, _, neB (by kernel_rfl), ?_⟩; conv => whnf)
          | (refine ⟨_, _, (samples_sat s' h8).at2 0 2 rfl rfl rfl rfl rfl, ?_⟩; conv => whnf)))
        all_goals try (exfalso; simp only [decide_eq_true_eq, decide_eq_false_iff_not, Bool.not_eq_true', Bool.not_eq_false', Bool.not_eq_true, Bool.not_eq_false, beq_iff_eq, bne_iff_ne, beq_eq_false_iff_ne, bne_eq_false_iff_eq, ne_eq, Decidable.not_not] at *; first | omega | contradiction | (simp_all; done) | (simp_all; omega))
        all_goals try (exfalso; simp only [hw1, hw2, hw3, g3, g4, List.length_map, decide_eq_true_eq, decide_eq_false_iff_not, bne_iff_ne, ne_eq, gt_iff_lt] at *; omega)
        all_goals try (exfalso; simp_all; done)
        all_goals refine ⟨(k + 1, s'), ⟨hlt, hI'⟩, show l.length - (k + 1) < l.length - k by omega, ?_⟩
        all_goals refine ⟨[(1, 2)], ?_⟩
        repeat (any_goals (first | exact True.intro | exact rfl | with_reducible_and_instances rfl | exact (by kernel_rfl) | refine And.intro ?_ ?_))
        all_goals conv => whnf
        all_goals first | exact wk1 (by omega) | (simp_all; done)
      · repeat (any_goals (first
          | exact True.intro
          | (refine Or.inl ?_; conv => whnf)
          | (refine And.intro (fun _ => ?_) tf; conv => whnf)
          | (refine And.intro ft (fun _ => ?_); conv => whnf)
          | (refine And.intro (by kernel_rfl) ?_; conv => whnf)
          | (refine And.intro (by decide) ?_; conv => whnf)
          | (refine And.intro (fun _ => ?_) (fun h => absurd h (by decide)); conv => whnf)
          | (refine And.intro (fun h => absurd h (by decide)) (fun _ => ?_); conv => whnf)
          | (refine And.intro (fun _ => ?_) (fun h => absurd h (by simpa using hlt)); conv => whnf)
          | (refine ⟨k, _, rfl, map_get hx, ?_⟩; conv => whnf)
          | (refine And.intro (fun _ => ?_) (fun _ => ?_) <;> conv => whnf)
          | (refine ⟨_, _, d.at2 0 1 rfl rfl rfl rfl rfl, ?_⟩; conv => whnf)
          | (refine ⟨_, _, (right_sat x).pu rfl rfl, ?_⟩; conv => whnf)
          | (refine ⟨_, _, (streak_sat s').at2 0 2 rfl rfl rfl rfl rfl, ?_⟩; conv => whnf)
          | (refine ⟨_, _, (held_sat s').at2 0 2 rfl rfl rfl rfl rfl, ?_⟩; conv => whnf)
          | (refine ⟨_, _, neB (by kernel_rfl), ?_⟩; conv => whnf)
          | (refine ⟨_, _, (samples_sat s' h8).at2 0 2 rfl rfl rfl rfl rfl, ?_⟩; conv => whnf)))
        all_goals try (exfalso; simp only [decide_eq_true_eq, decide_eq_false_iff_not, Bool.not_eq_true', Bool.not_eq_false', Bool.not_eq_true, Bool.not_eq_false, beq_iff_eq, bne_iff_ne, beq_eq_false_iff_ne, bne_eq_false_iff_eq, ne_eq, Decidable.not_not] at *; first | omega | contradiction | (simp_all; done) | (simp_all; omega))
        all_goals try (exfalso; simp only [hw1, hw2, hw3, g3, g4, List.length_map, decide_eq_true_eq, decide_eq_false_iff_not, bne_iff_ne, ne_eq, gt_iff_lt] at *; omega)
        all_goals try (exfalso; simp_all; done)
        all_goals refine ⟨(k + 1, s'), ⟨hlt, hI'⟩, show l.length - (k + 1) < l.length - k by omega, ?_⟩
        all_goals refine ⟨[(1, 2)], ?_⟩
        repeat (any_goals (first | exact True.intro | exact rfl | with_reducible_and_instances rfl | exact (by kernel_rfl) | refine And.intro ?_ ?_))
        all_goals conv => whnf
        all_goals first | exact wk1 (by omega) | (simp_all; done)
      · repeat (any_goals (first
          | exact True.intro
          | (refine Or.inl ?_; conv => whnf)
          | (refine And.intro (fun _ => ?_) tf; conv => whnf)
          | (refine And.intro ft (fun _ => ?_); conv => whnf)
          | (refine And.intro (by kernel_rfl) ?_; conv => whnf)
          | (refine And.intro (by decide) ?_; conv => whnf)
          | (refine And.intro (fun _ => ?_) (fun h => absurd h (by decide)); conv => whnf)
          | (refine And.intro (fun h => absurd h (by decide)) (fun _ => ?_); conv => whnf)
          | (refine And.intro (fun _ => ?_) (fun h => absurd h (by simpa using hlt)); conv => whnf)
          | (refine ⟨k, _, rfl, map_get hx, ?_⟩; conv => whnf)
          | (refine And.intro (fun _ => ?_) (fun _ => ?_) <;> conv => whnf)
          | (refine ⟨_, _, d.at2 0 1 rfl rfl rfl rfl rfl, ?_⟩; conv => whnf)
          | (refine ⟨_, _, (right_sat x).pu rfl rfl, ?_⟩; conv => whnf)
          | (refine ⟨_, _, (streak_sat s').at2 0 2 rfl rfl rfl rfl rfl, ?_⟩; conv => whnf)
          | (refine ⟨_, _, (held_sat s').at2 0 2 rfl rfl rfl rfl rfl, ?_⟩; conv => whnf)
          | (refine ⟨_, _, neB (by kernel_rfl), ?_⟩; conv => whnf)
          | (refine ⟨_, _, (samples_sat s' h8).at2 0 2 rfl rfl rfl rfl rfl, ?_⟩; conv => whnf)))
        all_goals try (exfalso; simp only [decide_eq_true_eq, decide_eq_false_iff_not, Bool.not_eq_true', Bool.not_eq_false', Bool.not_eq_true, Bool.not_eq_false, beq_iff_eq, bne_iff_ne, beq_eq_false_iff_ne, bne_eq_false_iff_eq, ne_eq, Decidable.not_not] at *; first | omega | contradiction | (simp_all; done) | (simp_all; omega))
        all_goals try (exfalso; simp only [hw1, hw2, hw3, g3, g4, List.length_map, decide_eq_true_eq, decide_eq_false_iff_not, bne_iff_ne, ne_eq, gt_iff_lt] at *; omega)
        all_goals try (exfalso; simp_all; done)
        all_goals refine ⟨(k + 1, s'), ⟨hlt, hI'⟩, show l.length - (k + 1) < l.length - k by omega, ?_⟩
        all_goals refine ⟨[(1, 2)], ?_⟩
        repeat (any_goals (first | exact True.intro | exact rfl | with_reducible_and_instances rfl | exact (by kernel_rfl) | refine And.intro ?_ ?_))
        all_goals conv => whnf
        all_goals first | exact wk1 (by omega) | (simp_all; done)
    · repeat (any_goals (first
        | exact True.intro
        | (refine Or.inl ?_; conv => whnf)
        | (refine And.intro (fun _ => ?_) tf; conv => whnf)
        | (refine And.intro ft (fun _ => ?_); conv => whnf)
        | (refine And.intro (by kernel_rfl) ?_; conv => whnf)
        | (refine And.intro (by decide) ?_; conv => whnf)
        | (refine And.intro (fun _ => ?_) (fun h => absurd h (by decide)); conv => whnf)
        | (refine And.intro (fun h => absurd h (by decide)) (fun _ => ?_); conv => whnf)
        | (refine And.intro (fun h => absurd h (by simpa using hlt)) (fun _ => ?_); conv => whnf)
        | (refine And.intro (fun _ => ?_) (fun _ => ?_) <;> conv => whnf)))
      all_goals try (exfalso; simp only [decide_eq_true_eq, decide_eq_false_iff_not, Bool.not_eq_true', Bool.not_eq_false', Bool.not_eq_true, Bool.not_eq_false, beq_iff_eq, bne_iff_ne, beq_eq_false_iff_ne, bne_eq_false_iff_eq, ne_eq, Decidable.not_not] at *; first | omega | contradiction | (simp_all; done) | (simp_all; omega))
      all_goals refine ⟨[], ?_⟩
      repeat (any_goals (first | exact True.intro | exact rfl | with_reducible_and_instances rfl | exact (by kernel_rfl) | refine And.intro ?_ ?_))
      all_goals conv => whnf
  · have n1 := new_err rho trust (by simp at hok; rcases h : okRate rho with _ | _ <;> simp_all; omega)
    refine sat_of_vc (T := tiOf Try.prog) (E := E0) Try.func5 rfl rfl hE0 hm0 rfl ?_
    conv => whnf
    repeat (any_goals (first
      | exact True.intro
      | (refine Or.inl ?_; conv => whnf)
      | (refine And.intro (fun _ => ?_) tf; conv => whnf)
      | (refine And.intro ft (fun _ => ?_); conv => whnf)
      | (refine And.intro (by kernel_rfl) ?_; conv => whnf)
      | (refine And.intro (by decide) ?_; conv => whnf)
      | (refine And.intro (fun _ => ?_) (fun h => absurd h (by decide)); conv => whnf)
      | (refine And.intro (fun h => absurd h (by decide)) (fun _ => ?_); conv => whnf)
      | (refine And.intro (fun _ => ?_) (fun _ => ?_) <;> conv => whnf)
      | (refine ⟨_, _, alive_sat.pu rfl rfl, ?_⟩; conv => whnf)
      | (refine ⟨_, _, n1.pu rfl rfl, ?_⟩; conv => whnf)
      | (refine ⟨_, _, eqN (by kernel_rfl), ?_⟩; conv => whnf)))
    all_goals try (exfalso; simp only [decide_eq_true_eq, decide_eq_false_iff_not, Bool.not_eq_true', Bool.not_eq_false', Bool.not_eq_true, Bool.not_eq_false, beq_iff_eq, bne_iff_ne, beq_eq_false_iff_ne, bne_eq_false_iff_eq, ne_eq, Decidable.not_not] at *; first | omega | contradiction | (simp_all; done) | (simp_all; omega))
    all_goals refine ⟨[], ?_⟩
    repeat (any_goals (first | exact True.intro | exact rfl | with_reducible_and_instances rfl | exact (by kernel_rfl) | refine And.intro ?_ ?_))
    all_goals conv => whnf
theorem trusts_law (H : Type) (enc : TypeId × Value → H) : LawWalk H enc Try.prog 5 Try.f5 :=
  lawWalk_of_sat (by kernel_rfl) fun args h => by
    obtain ⟨a, _, rfl, h1, h⟩ := h
    obtain ⟨b, _, rfl, h2, h⟩ := h
    obtain ⟨x, _, rfl, h3, h⟩ := h
    obtain rfl := h
    obtain ⟨a, rfl, _⟩ := ty_i64 h1 Try.underlying2
    obtain ⟨b, rfl, _⟩ := ty_i64 h2 Try.underlying3
    obtain ⟨l, rfl, _⟩ := ty_smps h3
    exact trusts_sat a b l
end Go.Proofs.Ytgidaifoiljgoaa
/- Plain laws of a clock's interval. -/
namespace Go.Proofs.Ytgidaifoiljgoaa
set_option linter.unusedSimpArgs false
set_option linter.unusedVariables false
open Go.RowKit
theorem keep_mem {l : List Smp} {x y : Smp} (h : y ∈ keepC (l ++ [x])) : y ∈ l ∨ y = x := by
  have : y ∈ l ++ [x] := by
    unfold keepC at h
    split at h
    · exact List.mem_of_mem_drop h
    · exact h
  simpa using this
theorem addC_okS (s : CSt) (x : Smp) (h : ∀ y ∈ s.list, okS y = true) : ∀ y ∈ (addC s x).1.list, okS y = true := by
  unfold addC
  by_cases hx : okS x = false
  · rw [if_pos hx]; exact h
  · rw [if_neg hx]
    have hx : okS x = true := by simpa using hx
    intro y hy
    simp only at hy
    split at hy
    · rcases keep_mem hy with q | q
      · exact h y q
      · subst q; exact hx
    · simp only at hy
      split at hy
      · simp at hy; subst hy; exact hx
      · simp at hy
theorem atR_code {s : Smp} {a rho : Int} (h : okS s = true) (h0 : (atR s a rho).2 ≠ 0) : (atR s a rho).2 = 13 ∨ (atR s a rho).2 = 11 := by
  unfold atR at h0 ⊢
  rw [if_neg (by simp [h])] at h0 ⊢
  split
  · exact .inr rfl
  · split
    · exact .inl rfl
    · rename_i h1 h2; rw [if_neg h1, if_neg h2] at h0; exact absurd rfl h0
theorem atC_bad {s : CSt} {stamp : Int} {k : Nat} {x : Smp} (hok : ∀ y ∈ s.list, okS y = true) (hf : (s.list.take k).find? (fun x => decide ((atR x stamp s.rho).2 ≠ 0)) = none) (hx : s.list[k]? = some x) (h0 : (atR x stamp s.rho).2 ≠ 0) :
    (atC s stamp).2 = 13 ∨ (atC s stamp).2 = 11 := by
  have hne : s.list ≠ [] := fun e => by rw [e] at hx; simp at hx
  unfold atC
  rw [if_neg hne]
  by_cases ht : isT stamp = false
  · rw [if_pos ht]; exact .inr rfl
  · rw [if_neg ht, find_hit hf hx (by simpa using h0)]
    exact atR_code (hok x (List.mem_of_getElem? hx)) h0
theorem atC_good {s : CSt} {stamp : Int} (hne : s.list ≠ []) (hf : s.list.find? (fun x => decide ((atR x stamp s.rho).2 ≠ 0)) = none) : atC s stamp = meetR (s.list.map fun x => (atR x stamp s.rho).1) := by
  unfold atC
  rw [if_neg hne]
  by_cases ht : isT stamp = false
  · exfalso
    cases hl : s.list with
    | nil => exact hne hl
    | cons x r =>
      rw [hl] at hf
      have := List.find?_eq_none.1 hf x (List.mem_cons_self ..)
      simp at this
      have := (atR_out this).2.1
      rw [ht] at this; cases this
  · rw [if_neg ht, hf]
theorem meetL_snoc (a : Int × Int) (gs : List (Int × Int)) (x : Int × Int) : meetL a (gs ++ [x]) = (max (meetL a gs).1 x.1, min (meetL a gs).2 x.2) := by
  unfold meetL; rw [List.foldl_append]; rfl
theorem meetR_ok {gs : List (Int × Int)} (h : (meetR gs).2 = 0) : gs.all okG = true ∧ okG (meetL allG gs) = true ∧ (meetR gs).1 = meetL allG gs := by
  unfold meetR foldR at h ⊢
  by_cases h1 : gs.all okG = false
  · rw [if_pos h1] at h; cases h
  · rw [if_neg h1] at h ⊢
    by_cases h2 : okG (meetL allG gs) = true
    · rw [if_pos h2]; exact ⟨by simpa using h1, h2, rfl⟩
    · rw [if_neg h2] at h; cases h
def withB (g o : Int × Int) : Bool := okG g && decide (o.1 ≤ g.1) && decide (g.2 ≤ o.2)
theorem within_snoc {gs : List (Int × Int)} {x : Int × Int} (h : (meetR gs).2 = 0) (h' : (meetR (gs ++ [x])).2 = 0) : withB (meetR (gs ++ [x])).1 (meetR gs).1 = true := by
  obtain ⟨_, _, e1⟩ := meetR_ok h
  obtain ⟨_, h2, e2⟩ := meetR_ok h'
  unfold withB
  rw [e2, h2, e1, meetL_snoc]
  simp
  constructor <;> omega
theorem atC_zero {s : CSt} {stamp : Int} (h : (atC s stamp).2 = 0) : s.list ≠ [] ∧ isT stamp = true ∧ s.list.find? (fun x => decide ((atR x stamp s.rho).2 ≠ 0)) = none ∧ atC s stamp = meetR (s.list.map fun x => (atR x stamp s.rho).1) := by
  unfold atC at h ⊢
  by_cases h1 : s.list = []
  · rw [if_pos h1] at h; cases h
  · rw [if_neg h1] at h ⊢
    by_cases h2 : isT stamp = false
    · rw [if_pos h2] at h; cases h
    · rw [if_neg h2] at h ⊢
      cases hf : s.list.find? (fun x => decide ((atR x stamp s.rho).2 ≠ 0)) with
      | some x =>
        rw [hf] at h
        have := List.find?_some hf
        simp at this
        exact absurd h this
      | none => exact ⟨h1, by simpa using h2, rfl, rfl⟩
theorem meets_last {s : CSt} {x : Smp} {stamp : Int} (h : (atC s stamp).2 = 0) (ha : (addC s x).2 = 0) (hi : (atC (addC s x).1 stamp).2 = 0) (h8 : s.list.length ≤ 8) (hn : s.list.length ≠ 8) : withB (atC (addC s x).1 stamp).1 (atC s stamp).1 = true := by
  obtain ⟨_, _, _, e1⟩ := atC_zero h
  obtain ⟨_, _, _, e2⟩ := atC_zero hi
  have hl : (addC s x).1.list = s.list ++ [x] ∧ (addC s x).1.rho = s.rho := by
    unfold addC at ha ⊢
    by_cases hx : okS x = false
    · rw [if_pos hx] at ha; cases ha
    · rw [if_neg hx] at ha ⊢
      simp only at ha ⊢
      split
      · refine ⟨?_, rfl⟩
        show keepC (s.list ++ [x]) = _
        unfold keepC
        rw [if_neg (by simp; omega)]
      · rename_i hg; rw [if_neg hg] at ha; cases ha
  rw [e1] at h ⊢
  rw [e2] at hi ⊢
  rw [hl.1, hl.2, List.map_append] at hi ⊢
  exact within_snoc h hi
end Go.Proofs.Ytgidaifoiljgoaa
