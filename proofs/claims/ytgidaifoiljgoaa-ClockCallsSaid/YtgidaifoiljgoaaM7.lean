/- Parts Re, Rf, Rg, Rh, Ri, Rj2, Rj, Rk, Rl, Rm of the proof, put together. -/
import Derived.Test.YtgidaifoiljgoaaM6
/- Numbers of any length: minus. -/
namespace Go.Proofs.Ytgidaifoiljgoaa
set_option linter.unusedSimpArgs false
set_option linter.unusedVariables false
open Go.RowKit
set_option maxRecDepth 100000
/-- How far a difference has come: c is borrowed. -/
structure MinI (a b : List Int) (k : Nat) (c : Int) (out : List Int) : Prop where
  len : out.length = k
  dig : digL out
  c0 : 0 ≤ c
  c1 : c ≤ 1
  eq : (valL out : Int) + 65536 ^ k * ((valL (a.drop k) : Int) - valL (b.drop k) - c) = (valL a : Int) - valL b
theorem MinI.next {a b : List Int} {k : Nat} {c : Int} {out : List Int} (I : MinI a b k c out) (da : digL a) (db : digL b) : MinI a b (k + 1) (if lb a k - lb b k - c < 0 then 1 else 0) (out ++ [if lb a k - lb b k - c < 0 then lb a k - lb b k - c + 65536 else lb a k - lb b k - c]) := by
  obtain ⟨h1, h2, h3, h4, h5⟩ := I
  have ha := lb_dig da k
  have hb := lb_dig db k
  have e : ∀ (x q : Int), x = lb a k - lb b k - c + 65536 * q → 0 ≤ x → (valL (out ++ [x]) : Int) + 65536 ^ (k + 1) * ((valL (a.drop (k + 1)) : Int) - valL (b.drop (k + 1)) - q) = (valL a : Int) - valL b := by
    intro x q hx hx0
    rw [valL_snoc, h1, ← h5, valL_drop a k, valL_drop b k, Int.pow_succ]
    simp only [Int.natCast_add, Int.natCast_mul, Int.natCast_pow, Int.toNat_of_nonneg hx0, Int.toNat_of_nonneg ha.1, Int.toNat_of_nonneg hb.1, show ((65536 : Nat) : Int) = 65536 from rfl]
    rw [Int.mul_assoc, Int.add_assoc, ← Int.mul_add]
    congr 2
    rw [hx]
    omega
  by_cases hn : lb a k - lb b k - c < 0
  · rw [if_pos hn, if_pos hn]
    exact ⟨by simp [h1], digL_snoc h2 (by omega) (by omega), by omega, by omega, e _ 1 (by omega) (by omega)⟩
  · rw [if_neg hn, if_neg hn]
    exact ⟨by simp [h1], digL_snoc h2 (by omega) (by omega), by omega, by omega, e _ 0 (by omega) (by omega)⟩
theorem MinI.fin {a b : List Int} {c : Int} {out : List Int} (I : MinI a b a.length c out) (da : digL a) (db : digL b) (h : valL b ≤ valL a) : valL out = valL a - valL b := by
  obtain ⟨h1, h2, h3, h4, h5⟩ := I
  have hb := (valL_take b a.length db).1
  have ha := (valL_take a a.length da).2
  rw [List.take_length] at ha
  have ho := (valL_take out out.length h2).2
  rw [List.take_length, h1] at ho
  rw [List.drop_eq_nil_of_le (Nat.le_refl _)] at h5
  generalize valL (b.drop a.length) = B at *
  have hB : B = 0 := by
    rcases Nat.eq_zero_or_pos B with q | q
    · exact q
    · have : 65536 ^ a.length * 1 ≤ 65536 ^ a.length * B := Nat.mul_le_mul_left _ q
      omega
  subst hB
  simp only [valL, Int.natCast_zero, Int.sub_zero, Int.zero_sub] at h5
  have hp : ((65536 : Int) ^ a.length) = ((65536 ^ a.length : Nat) : Int) := by simp
  rw [hp] at h5
  rcases (show c = 0 ∨ c = 1 by omega) with q | q
  · subst q; simp at h5; omega
  · subst q; simp at h5; omega
theorem minus_num (a b : List Int) (da : digL a) (db : digL b) (ha : a.length ≤ 1000000000) (h : valL b ≤ valL a) : Sat Try.prog 80 [.d (lD a), .d (lD b)] [] (.d (lD (canL (valL a - valL b)))) [] := by
  refine sat_of_vc (T := tiOf Try.prog) (E := E0) Try.func80 rfl rfl hE0 hm0 rfl ?_
  conv => whnf
  repeat (any_goals (first
    | exact True.intro
    | (refine And.intro (fun _ => ?_) tf; conv => whnf)
    | (refine And.intro ft (fun _ => ?_); conv => whnf)
    | (refine And.intro (by kernel_rfl) ?_; conv => whnf)
    | (refine And.intro (by decide) ?_; conv => whnf)
    | (refine And.intro (fun _ => ?_) (fun h => absurd h (by decide)); conv => whnf)
    | (refine And.intro (fun h => absurd h (by decide)) (fun _ => ?_); conv => whnf)
    | (refine And.intro (fun _ => ?_) (fun _ => ?_) <;> conv => whnf)))
  all_goals try (refine Or.inl ?_; conv => whnf)
  repeat (any_goals (first
    | exact True.intro
    | (refine And.intro (fun _ => ?_) tf; conv => whnf)
    | (refine And.intro ft (fun _ => ?_); conv => whnf)
    | (refine And.intro (by kernel_rfl) ?_; conv => whnf)
    | (refine And.intro (by decide) ?_; conv => whnf)
    | (refine And.intro (fun _ => ?_) (fun h => absurd h (by decide)); conv => whnf)
    | (refine And.intro (fun h => absurd h (by decide)) (fun _ => ?_); conv => whnf)
    | (refine And.intro (fun _ => ?_) (fun _ => ?_) <;> conv => whnf)))
  refine ⟨Nat × Int × List Int, fun y => y.1 ≤ a.length ∧ MinI a b y.1 y.2.1 y.2.2, fun y => ([(7, iA y.1), (6, iA y.2.1), (5, .own 0), (0, .d (lD a)), (1, .d (lD b))], [.sl 1 (y.2.2.map lR)]), fun y => a.length - y.1, ⟨(0, 0, []), ⟨Nat.zero_le _, rfl, fun d hd => by simp at hd, Int.le_refl _, show (0 : Int) ≤ 1 by decide, by simp [valL]⟩, ?_⟩, ?_⟩
  · all_goals refine ⟨[], ?_⟩
    repeat (any_goals (first | exact True.intro | exact rfl | with_reducible_and_instances rfl | exact (by kernel_rfl) | refine And.intro ?_ ?_))
    all_goals conv => whnf
  rintro ⟨k, c, out⟩ ⟨hk, I⟩
  have hk : k ≤ a.length := hk
  have I : MinI a b k c out := I
  conv => whnf
  by_cases hlt : k = a.length
  · subst hlt
    have hv := I.fin da db h
    have ho := I.len
    have tr := trim_sat out (by omega)
    rw [trim_can I.dig, hv] at tr
    repeat (any_goals (first
      | exact True.intro
      | (refine Or.inl ?_; conv => whnf)
      | (refine And.intro (fun _ => ?_) tf; conv => whnf)
      | (refine And.intro ft (fun _ => ?_); conv => whnf)
      | (refine And.intro (by kernel_rfl) ?_; conv => whnf)
      | (refine And.intro (by decide) ?_; conv => whnf)
      | (refine And.intro (fun _ => ?_) (fun h => absurd h (by decide)); conv => whnf)
      | (refine And.intro (fun h => absurd h (by decide)) (fun _ => ?_); conv => whnf)
      | (refine And.intro (fun _ => ?_) (fun _ => ?_) <;> conv => whnf)
      | (refine ⟨_, _, frz_a tr rfl rfl, ?_⟩; conv => whnf)))
    all_goals try (exfalso; simp only [decide_eq_true_eq, decide_eq_false_iff_not, Bool.not_eq_true', Bool.not_eq_false', Bool.not_eq_true, Bool.not_eq_false, beq_iff_eq, bne_iff_ne, beq_eq_false_iff_ne, bne_eq_false_iff_eq, ne_eq, Decidable.not_not] at *; first | omega | contradiction | (simp_all; done) | (simp_all; omega))
    all_goals refine ⟨[], ?_⟩
    repeat (any_goals (first | exact True.intro | exact rfl | with_reducible_and_instances rfl | exact (by kernel_rfl) | refine And.intro ?_ ?_))
    all_goals conv => whnf
  · have la := limb_sat a k
    have lb' := limb_sat b k
    have ho := I.len
    have nx := I.next da db
    have ga := lb_dig da k
    have gb := lb_dig db k
    have c0 := I.c0
    have c1 := I.c1
    have u1 : IntKind.i64.wrap (lb a k - lb b k) = lb a k - lb b k := wi (by omega) (by omega)
    have u2 : IntKind.i64.wrap (lb a k - lb b k - c) = lb a k - lb b k - c := wi (by omega) (by omega)
    have u3 : IntKind.i64.wrap (lb a k - lb b k - c + 65536) = lb a k - lb b k - c + 65536 := wi (by omega) (by omega)
    repeat (any_goals (first
      | exact True.intro
      | (refine Or.inl ?_; conv => whnf)
      | (refine And.intro (fun _ => ?_) tf; conv => whnf)
      | (refine And.intro ft (fun _ => ?_); conv => whnf)
      | (refine And.intro (by kernel_rfl) ?_; conv => whnf)
      | (refine And.intro (by decide) ?_; conv => whnf)
      | (refine And.intro (fun _ => ?_) (fun h => absurd h (by decide)); conv => whnf)
      | (refine And.intro (fun h => absurd h (by decide)) (fun _ => ?_); conv => whnf)
      | (refine And.intro (fun _ => ?_) (fun _ => ?_) <;> conv => whnf)
      | (refine ⟨_, _, la.pu rfl rfl, ?_⟩; conv => whnf)
      | (refine ⟨_, _, lb'.pu rfl rfl, ?_⟩; conv => whnf)
      | (refine ⟨_, _, ap 1 8 (by kernel_rfl) rfl rfl (by simp; omega), ?_⟩; conv => whnf)))
    · rename_i hc
      have hc : lb a k - lb b k - c < 0 := by
        have hc : decide (IntKind.i64.wrap (IntKind.i64.wrap (lb a k - lb b k) - c) < 0) = true := hc
        rw [u1, u2] at hc; simpa using hc
      rw [if_pos hc, if_pos hc] at nx
      refine ⟨(k + 1, 1, out ++ [lb a k - lb b k - c + 65536]), ⟨show k + 1 ≤ _ by omega, nx⟩, show a.length - (k + 1) < a.length - k by omega, ?_⟩
      all_goals refine ⟨[(0, 2)], ?_⟩
      repeat (any_goals (first | exact True.intro | exact rfl | with_reducible_and_instances rfl | exact (by kernel_rfl) | refine And.intro ?_ ?_))
      all_goals conv => whnf
      · exact wk1 (show k ≤ _ by omega)
      · show AObj.sl 1 (out.map lR ++ [[.v (.int .i64 (IntKind.i64.wrap (IntKind.i64.wrap (IntKind.i64.wrap (lb a k - lb b k) - c) + 65536)))]]) = .sl 1 ((out ++ [lb a k - lb b k - c + 65536]).map lR)
        rw [u1, u2, u3, List.map_append]; rfl
    · rename_i hc
      have hc : ¬ lb a k - lb b k - c < 0 := by
        have hc : decide (IntKind.i64.wrap (IntKind.i64.wrap (lb a k - lb b k) - c) < 0) = false := hc
        rw [u1, u2] at hc; simpa using hc
      rw [if_neg hc, if_neg hc] at nx
      refine ⟨(k + 1, 0, out ++ [lb a k - lb b k - c]), ⟨show k + 1 ≤ _ by omega, nx⟩, show a.length - (k + 1) < a.length - k by omega, ?_⟩
      all_goals refine ⟨[(0, 2)], ?_⟩
      repeat (any_goals (first | exact True.intro | exact rfl | with_reducible_and_instances rfl | exact (by kernel_rfl) | refine And.intro ?_ ?_))
      all_goals conv => whnf
      · exact wk1 (show k ≤ _ by omega)
      · show AObj.sl 1 (out.map lR ++ [[.v (.int .i64 (IntKind.i64.wrap (IntKind.i64.wrap (lb a k - lb b k) - c)))]]) = .sl 1 ((out ++ [lb a k - lb b k - c]).map lR)
        rw [u1, u2, List.map_append]; rfl
    all_goals try (exfalso; simp only [decide_eq_true_eq, decide_eq_false_iff_not, Bool.not_eq_true', Bool.not_eq_false', Bool.not_eq_true, Bool.not_eq_false, beq_iff_eq, bne_iff_ne, beq_eq_false_iff_ne, bne_eq_false_iff_eq, ne_eq, Decidable.not_not] at *; first | omega | contradiction | (simp_all; done) | (simp_all; omega))
end Go.Proofs.Ytgidaifoiljgoaa
/- Numbers of any length: Add, Cmp. -/
namespace Go.Proofs.Ytgidaifoiljgoaa
set_option linter.unusedSimpArgs false
set_option linter.unusedVariables false
open Go.RowKit
set_option maxRecDepth 100000
/-- Of no more than so many limbs. -/
def short (z : Int) : Prop := z.natAbs < 65536 ^ 60000
theorem short_len {n : Nat} (h : n < 65536 ^ 60000) : (canL n).length ≤ 60000 := canL_short _ _ h
theorem add_num (x y : Int) (hx : (canL x.natAbs).length ≤ 1000000) (hy : (canL y.natAbs).length ≤ 1000000) (hs : (canL (x.natAbs + y.natAbs)).length ≤ 2000000) (hd : (canL (x.natAbs - y.natAbs)).length ≤ 2000000) (hd' : (canL (y.natAbs - x.natAbs)).length ≤ 2000000) :
    Sat Try.prog 59 [.d (numD x), .d (numD y)] [] (.d (numD (x + y))) [] := by
  have ab := above_sat (canL x.natAbs) (canL y.natAbs) (canL_dig _) (canL_dig _) (by omega) (by omega)
  have pl := plus_num (canL x.natAbs) (canL y.natAbs) (canL_dig _) (canL_dig _) (by omega) (by omega)
  have m1 := made_num (decide (x < 0)) (canL (x.natAbs + y.natAbs)) (canL_dig _) (by omega)
  rw [canL_val] at m1
  rw [canL_val, canL_val] at ab pl
  by_cases hsg : decide (x < 0) = decide (y < 0)
  · have e : (if decide (x < 0) = true then -((x.natAbs + y.natAbs : Nat) : Int) else ((x.natAbs + y.natAbs : Nat) : Int)) = x + y := by
      by_cases h : x < 0 <;> by_cases h' : y < 0 <;> simp [h, h'] at hsg ⊢ <;> omega
    rw [e] at m1
    refine sat_of_vc (T := tiOf Try.prog) (E := E0) Try.func59 rfl rfl hE0 hm0 rfl ?_
    conv => whnf
    repeat (any_goals (first
      | exact True.intro
      | (refine Or.inl ?_; conv => whnf)
      | (refine And.intro (fun _ => ?_) tf; conv => whnf)
      | (refine And.intro ft (fun _ => ?_); conv => whnf)
      | (refine And.intro (by kernel_rfl) ?_; conv => whnf)
      | (refine And.intro (by decide) ?_; conv => whnf)
      | (refine And.intro (fun _ => ?_) (fun h => absurd h (by decide)); conv => whnf)
      | (refine And.intro (fun h => absurd h (by decide)) (fun _ => ?_); conv => whnf)
      | (refine And.intro (fun _ => ?_) (fun _ => ?_) <;> conv => whnf)
      | (refine ⟨_, _, eqB (by kernel_rfl), ?_⟩; conv => whnf)
      | (refine ⟨_, _, pl.pu rfl rfl, ?_⟩; conv => whnf)
      | (refine ⟨_, _, m1.pu rfl rfl, ?_⟩; conv => whnf)))
    all_goals try (exfalso; simp only [decide_eq_true_eq, decide_eq_false_iff_not, Bool.not_eq_true', Bool.not_eq_false', Bool.not_eq_true, Bool.not_eq_false, beq_iff_eq, bne_iff_ne, beq_eq_false_iff_ne, bne_eq_false_iff_eq, ne_eq, Decidable.not_not] at *; first | omega | contradiction | (simp_all; done) | (simp_all; omega))
    all_goals refine ⟨[], ?_⟩
    repeat (any_goals (first | exact True.intro | exact rfl | with_reducible_and_instances rfl | exact (by kernel_rfl) | refine And.intro ?_ ?_))
    all_goals conv => whnf
  · have hn : ¬ x.natAbs < y.natAbs ∨ x.natAbs < y.natAbs := by omega
    rcases hn with hn | hn
    · have mi := minus_num (canL x.natAbs) (canL y.natAbs) (canL_dig _) (canL_dig _) (by omega) (by rw [canL_val, canL_val]; omega)
      have m2 := made_num (decide (x < 0)) (canL (x.natAbs - y.natAbs)) (canL_dig _) (by omega)
      rw [canL_val, canL_val] at mi
      rw [canL_val] at m2
      have e : (if decide (x < 0) = true then -((x.natAbs - y.natAbs : Nat) : Int) else ((x.natAbs - y.natAbs : Nat) : Int)) = x + y := by
        by_cases h : x < 0 <;> by_cases h' : y < 0 <;> simp [h, h'] at hsg ⊢ <;> omega
      rw [e] at m2
      have hc : 0 ≤ cmpN x.natAbs y.natAbs := by unfold cmpN; split <;> (try split) <;> omega
      refine sat_of_vc (T := tiOf Try.prog) (E := E0) Try.func59 rfl rfl hE0 hm0 rfl ?_
      conv => whnf
      repeat (any_goals (first
        | exact True.intro
        | (refine Or.inl ?_; conv => whnf)
        | (refine And.intro (fun _ => ?_) tf; conv => whnf)
        | (refine And.intro ft (fun _ => ?_); conv => whnf)
        | (refine And.intro (by kernel_rfl) ?_; conv => whnf)
        | (refine And.intro (by decide) ?_; conv => whnf)
        | (refine And.intro (fun _ => ?_) (fun h => absurd h (by decide)); conv => whnf)
        | (refine And.intro (fun h => absurd h (by decide)) (fun _ => ?_); conv => whnf)
        | (refine And.intro (fun _ => ?_) (fun _ => ?_) <;> conv => whnf)
        | (refine ⟨_, _, eqB (by kernel_rfl), ?_⟩; conv => whnf)
        | (refine ⟨_, _, ab.pu rfl rfl, ?_⟩; conv => whnf)
        | (refine ⟨_, _, mi.pu rfl rfl, ?_⟩; conv => whnf)
        | (refine ⟨_, _, m2.pu rfl rfl, ?_⟩; conv => whnf)))
      all_goals try (exfalso; simp only [decide_eq_true_eq, decide_eq_false_iff_not, Bool.not_eq_true', Bool.not_eq_false', Bool.not_eq_true, Bool.not_eq_false, beq_iff_eq, bne_iff_ne, beq_eq_false_iff_ne, bne_eq_false_iff_eq, ne_eq, Decidable.not_not] at *; first | omega | contradiction | (simp_all; done) | (simp_all; omega))
      all_goals refine ⟨[], ?_⟩
      repeat (any_goals (first | exact True.intro | exact rfl | with_reducible_and_instances rfl | exact (by kernel_rfl) | refine And.intro ?_ ?_))
      all_goals conv => whnf
    · have mi := minus_num (canL y.natAbs) (canL x.natAbs) (canL_dig _) (canL_dig _) (by omega) (by rw [canL_val, canL_val]; omega)
      have m2 := made_num (decide (y < 0)) (canL (y.natAbs - x.natAbs)) (canL_dig _) (by omega)
      rw [canL_val, canL_val] at mi
      rw [canL_val] at m2
      have e : (if decide (y < 0) = true then -((y.natAbs - x.natAbs : Nat) : Int) else ((y.natAbs - x.natAbs : Nat) : Int)) = x + y := by
        by_cases h : x < 0 <;> by_cases h' : y < 0 <;> simp [h, h'] at hsg ⊢ <;> omega
      rw [e] at m2
      have hc : cmpN x.natAbs y.natAbs < 0 := by unfold cmpN; rw [if_neg (by omega), if_pos hn]; decide
      refine sat_of_vc (T := tiOf Try.prog) (E := E0) Try.func59 rfl rfl hE0 hm0 rfl ?_
      conv => whnf
      repeat (any_goals (first
        | exact True.intro
        | (refine Or.inl ?_; conv => whnf)
        | (refine And.intro (fun _ => ?_) tf; conv => whnf)
        | (refine And.intro ft (fun _ => ?_); conv => whnf)
        | (refine And.intro (by kernel_rfl) ?_; conv => whnf)
        | (refine And.intro (by decide) ?_; conv => whnf)
        | (refine And.intro (fun _ => ?_) (fun h => absurd h (by decide)); conv => whnf)
        | (refine And.intro (fun h => absurd h (by decide)) (fun _ => ?_); conv => whnf)
        | (refine And.intro (fun _ => ?_) (fun _ => ?_) <;> conv => whnf)
        | (refine ⟨_, _, eqB (by kernel_rfl), ?_⟩; conv => whnf)
        | (refine ⟨_, _, ab.pu rfl rfl, ?_⟩; conv => whnf)
        | (refine ⟨_, _, mi.pu rfl rfl, ?_⟩; conv => whnf)
        | (refine ⟨_, _, m2.pu rfl rfl, ?_⟩; conv => whnf)))
      all_goals try (exfalso; simp only [decide_eq_true_eq, decide_eq_false_iff_not, Bool.not_eq_true', Bool.not_eq_false', Bool.not_eq_true, Bool.not_eq_false, beq_iff_eq, bne_iff_ne, beq_eq_false_iff_ne, bne_eq_false_iff_eq, ne_eq, Decidable.not_not] at *; first | omega | contradiction | (simp_all; done) | (simp_all; omega))
      all_goals refine ⟨[], ?_⟩
      repeat (any_goals (first | exact True.intro | exact rfl | with_reducible_and_instances rfl | exact (by kernel_rfl) | refine And.intro ?_ ?_))
      all_goals conv => whnf
end Go.Proofs.Ytgidaifoiljgoaa
/- Numbers of any length: bounds of their lengths; Cmp. -/
namespace Go.Proofs.Ytgidaifoiljgoaa
set_option linter.unusedSimpArgs false
set_option linter.unusedVariables false
open Go.RowKit
set_option maxRecDepth 100000
/-- A number of few limbs. -/
def few (k : Nat) (z : Int) : Prop := z.natAbs < 65536 ^ k
theorem few_len {k : Nat} {z : Int} (h : few k z) : (canL z.natAbs).length ≤ k := canL_short k _ h
theorem few_neg {k : Nat} {z : Int} (h : few k z) : few k (-z) := by unfold few; rw [Int.natAbs_neg]; exact h
theorem few_sum {k : Nat} {n m : Nat} (h : n < 65536 ^ k) (h' : m < 65536 ^ k) : n + m < 65536 ^ (k + 1) := by
  rw [Nat.pow_succ]; omega
theorem few_i64 {z : Int} (h : -9223372036854775808 ≤ z ∧ z ≤ 9223372036854775807) : few 4 z := by
  unfold few
  rw [show (65536 : Nat) ^ 4 = 18446744073709551616 by decide]
  omega
/-- Sums of numbers of few limbs. -/
theorem add_few {k : Nat} {x y : Int} (hk : k ≤ 1000000) (hx : few k x) (hy : few k y) : Sat Try.prog 59 [.d (numD x), .d (numD y)] [] (.d (numD (x + y))) [] :=
  add_num x y (by have := few_len hx; omega) (by have := few_len hy; omega) (by have := canL_short (k + 1) _ (few_sum hx hy); omega)
    (by have := canL_short k (x.natAbs - y.natAbs) (Nat.lt_of_le_of_lt (Nat.sub_le _ _) hx); omega) (by have := canL_short k (y.natAbs - x.natAbs) (Nat.lt_of_le_of_lt (Nat.sub_le _ _) hy); omega)
theorem add_few_out {k : Nat} {x y : Int} (hx : few k x) (hy : few k y) : few (k + 1) (x + y) := Nat.lt_of_le_of_lt (Int.natAbs_add_le x y) (few_sum hx hy)
def cmpZ (x y : Int) : Int := if x = y then 0 else if x < y then -1 else 1
theorem cmp_num {k : Nat} {x y : Int} (hk : k ≤ 1000000) (hx : few k x) (hy : few k y) : Sat Try.prog 74 [.d (numD x), .d (numD y)] [] (iA (cmpZ x y)) [] := by
  have ng := neg_num y (by have := few_len hy; omega)
  have ad := add_few hk hx (few_neg hy)
  have hl : (((canL (x + -y).natAbs).map lR).length : Int) = 0 ↔ x = y := by
    rw [List.length_map]
    have h := canL_len (x + -y).natAbs
    have h := decide_eq_decide.1 h
    omega
  refine sat_of_vc (T := tiOf Try.prog) (E := E0) Try.func74 rfl rfl hE0 hm0 rfl ?_
  conv => whnf
  repeat (any_goals (first
    | exact True.intro
    | (refine Or.inl ?_; conv => whnf)
    | (refine And.intro (fun _ => ?_) tf; conv => whnf)
    | (refine And.intro ft (fun _ => ?_); conv => whnf)
    | (refine And.intro (by kernel_rfl) ?_; conv => whnf)
    | (refine And.intro (by decide) ?_; conv => whnf)
    | (refine And.intro (fun _ => ?_) (fun h => absurd h (by decide)); conv => whnf)
    | (refine And.intro (fun h => absurd h (by decide)) (fun _ => ?_); conv => whnf)
    | (refine And.intro (fun _ => ?_) (fun _ => ?_) <;> conv => whnf)
    | (refine ⟨_, _, ng.pu rfl rfl, ?_⟩; conv => whnf)
    | (refine ⟨_, _, ad.pu rfl rfl, ?_⟩; conv => whnf)))
  · have h : x = y := by rename_i h; exact hl.1 (by simpa using h)
    have hr : cmpZ x y = 0 := by unfold cmpZ; rw [if_pos h]
    rw [hr]
    all_goals refine ⟨[], ?_⟩
    repeat (any_goals (first | exact True.intro | exact rfl | with_reducible_and_instances rfl | exact (by kernel_rfl) | refine And.intro ?_ ?_))
    all_goals conv => whnf
  · rename_i h0 h1
    have n0 : x ≠ y := fun e => by have := hl.2 e; rw [this] at h0; simp at h0
    have h1 : x + -y < 0 := of_decide_eq_true h1
    have hr : cmpZ x y = -1 := by unfold cmpZ; rw [if_neg n0, if_pos (by omega)]
    rw [hr]
    all_goals refine ⟨[], ?_⟩
    repeat (any_goals (first | exact True.intro | exact rfl | with_reducible_and_instances rfl | exact (by kernel_rfl) | refine And.intro ?_ ?_))
    all_goals conv => whnf
  · rename_i h0 h1
    have n0 : x ≠ y := fun e => by have := hl.2 e; rw [this] at h0; simp at h0
    have h1 : ¬ x + -y < 0 := of_decide_eq_false h1
    have hr : cmpZ x y = 1 := by unfold cmpZ; rw [if_neg n0, if_neg (by omega)]
    rw [hr]
    all_goals refine ⟨[], ?_⟩
    repeat (any_goals (first | exact True.intro | exact rfl | with_reducible_and_instances rfl | exact (by kernel_rfl) | refine And.intro ?_ ?_))
    all_goals conv => whnf
end Go.Proofs.Ytgidaifoiljgoaa
/- Numbers of any length: Long. -/
namespace Go.Proofs.Ytgidaifoiljgoaa
set_option linter.unusedSimpArgs false
set_option linter.unusedVariables false
open Go.RowKit
set_option maxRecDepth 100000
def longZ (z : Int) : Int × Bool := if 4 < (canL z.natAbs).length then (0, false) else if z < 0 then (if z < -9223372036854775808 then (0, false) else (z, true)) else (IntKind.i64.wrap z, decide (z < 9223372036854775808))
theorem long_num (z : Int) (hk : (canL z.natAbs).length ≤ 1000000) : Sat Try.prog 57 [.d (numD z)] [] (.tup [iA (longZ z).1, bA (longZ z).2]) [] := by
  by_cases h4 : 4 < (canL z.natAbs).length
  · have hr : longZ z = (0, false) := by unfold longZ; rw [if_pos h4]
    rw [hr]
    refine sat_of_vc (T := tiOf Try.prog) (E := E0) Try.func57 rfl rfl hE0 hm0 rfl ?_
    conv => whnf
    repeat (any_goals (first
      | exact True.intro
      | (refine Or.inl ?_; conv => whnf)
      | (refine And.intro (fun _ => ?_) tf; conv => whnf)
      | (refine And.intro ft (fun _ => ?_); conv => whnf)
      | (refine And.intro (by kernel_rfl) ?_; conv => whnf)
      | (refine And.intro (by decide) ?_; conv => whnf)
      | (refine And.intro (fun _ => ?_) (fun h => absurd h (by decide)); conv => whnf)
      | (refine And.intro (fun h => absurd h (by decide)) (fun _ => ?_); conv => whnf)
      | (refine And.intro (fun _ => ?_) (fun _ => ?_) <;> conv => whnf)))
    all_goals try (exfalso; simp only [decide_eq_true_eq, decide_eq_false_iff_not, Bool.not_eq_true', Bool.not_eq_false', Bool.not_eq_true, Bool.not_eq_false, beq_iff_eq, bne_iff_ne, beq_eq_false_iff_ne, bne_eq_false_iff_eq, ne_eq, Decidable.not_not] at *; first | omega | contradiction | (simp_all; done) | (simp_all; omega))
    all_goals refine ⟨[], ?_⟩
    repeat (any_goals (first | exact True.intro | exact rfl | with_reducible_and_instances rfl | exact (by kernel_rfl) | refine And.intro ?_ ?_))
    all_goals conv => whnf
  have hd := canL_dig z.natAbs
  have hvl := canL_val z.natAbs
  have hlt := (valL_take (canL z.natAbs) 4 hd).2
  rw [List.take_of_length_le (by omega), hvl, show (65536 : Nat) ^ 4 = 18446744073709551616 by decide] at hlt
  refine sat_of_vc (T := tiOf Try.prog) (E := E0) Try.func57 rfl rfl hE0 hm0 rfl ?_
  conv => whnf
  repeat (any_goals (first
    | exact True.intro
    | (refine And.intro (fun _ => ?_) tf; conv => whnf)
    | (refine And.intro ft (fun _ => ?_); conv => whnf)
    | (refine And.intro (by kernel_rfl) ?_; conv => whnf)
    | (refine And.intro (by decide) ?_; conv => whnf)
    | (refine And.intro (fun _ => ?_) (fun h => absurd h (by decide)); conv => whnf)
    | (refine And.intro (fun h => absurd h (by decide)) (fun _ => ?_); conv => whnf)
    | (refine And.intro (fun _ => ?_) (fun _ => ?_) <;> conv => whnf)))
  all_goals try (refine Or.inl ?_; conv => whnf)
  repeat (any_goals (first
    | exact True.intro
    | (refine And.intro (fun _ => ?_) tf; conv => whnf)
    | (refine And.intro ft (fun _ => ?_); conv => whnf)
    | (refine And.intro (by kernel_rfl) ?_; conv => whnf)
    | (refine And.intro (by decide) ?_; conv => whnf)
    | (refine And.intro (fun _ => ?_) (fun h => absurd h (by decide)); conv => whnf)
    | (refine And.intro (fun h => absurd h (by decide)) (fun _ => ?_); conv => whnf)
    | (refine And.intro (fun _ => ?_) (fun _ => ?_) <;> conv => whnf)))
  all_goals try (exfalso; simp only [decide_eq_true_eq, decide_eq_false_iff_not, Bool.not_eq_true', Bool.not_eq_false', Bool.not_eq_true, Bool.not_eq_false, beq_iff_eq, bne_iff_ne, beq_eq_false_iff_ne, bne_eq_false_iff_eq, ne_eq, Decidable.not_not] at *; first | omega | contradiction | (simp_all; done) | (simp_all; omega))
  all_goals try (refine Or.inl ?_; conv => whnf)
  repeat (any_goals (first
    | exact True.intro
    | (refine And.intro (fun _ => ?_) tf; conv => whnf)
    | (refine And.intro ft (fun _ => ?_); conv => whnf)
    | (refine And.intro (by kernel_rfl) ?_; conv => whnf)
    | (refine And.intro (by decide) ?_; conv => whnf)
    | (refine And.intro (fun _ => ?_) (fun h => absurd h (by decide)); conv => whnf)
    | (refine And.intro (fun h => absurd h (by decide)) (fun _ => ?_); conv => whnf)
    | (refine And.intro (fun _ => ?_) (fun _ => ?_) <;> conv => whnf)))
  all_goals try (refine Or.inl ?_; conv => whnf)
  repeat (any_goals (first
    | exact True.intro
    | (refine And.intro (fun _ => ?_) tf; conv => whnf)
    | (refine And.intro ft (fun _ => ?_); conv => whnf)
    | (refine And.intro (by kernel_rfl) ?_; conv => whnf)
    | (refine And.intro (by decide) ?_; conv => whnf)
    | (refine And.intro (fun _ => ?_) (fun h => absurd h (by decide)); conv => whnf)
    | (refine And.intro (fun h => absurd h (by decide)) (fun _ => ?_); conv => whnf)
    | (refine And.intro (fun _ => ?_) (fun _ => ?_) <;> conv => whnf)))
  refine ⟨Nat, fun n => n ≤ (canL z.natAbs).length, fun n => ([(5, iA ((n : Int) - 1)), (4, .d (.v (.int .u64 (valL ((canL z.natAbs).drop n))))), (1, .ptr 0 0)], [.cells [bA (decide (z < 0)), .d (lD (canL z.natAbs))]]), fun n => n, ⟨(canL z.natAbs).length, Nat.le_refl _, ?_⟩, ?_⟩
  · all_goals refine ⟨[], ?_⟩
    repeat (any_goals (first | exact True.intro | exact rfl | with_reducible_and_instances rfl | exact (by kernel_rfl) | refine And.intro ?_ ?_))
    all_goals conv => whnf
    · rw [List.length_map, wi (by omega) (by omega)]
    · rw [List.drop_length]; rfl
  intro n hn
  conv => whnf
  cases n with
  | zero =>
    have hv0 : valL ((canL z.natAbs).drop 0) = z.natAbs := by rw [List.drop_zero, hvl]
    repeat (any_goals (first
      | exact True.intro
      | (refine Or.inl ?_; conv => whnf)
      | (refine And.intro (fun _ => ?_) tf; conv => whnf)
      | (refine And.intro ft (fun _ => ?_); conv => whnf)
      | (refine And.intro (by kernel_rfl) ?_; conv => whnf)
      | (refine And.intro (by decide) ?_; conv => whnf)
      | (refine And.intro (fun _ => ?_) (fun h => absurd h (by decide)); conv => whnf)
      | (refine And.intro (fun h => absurd h (by decide)) (fun _ => ?_); conv => whnf)
      | (refine And.intro (fun _ => ?_) (fun _ => ?_) <;> conv => whnf)))
    all_goals try (exfalso; simp only [decide_eq_true_eq, decide_eq_false_iff_not, Bool.not_eq_true', Bool.not_eq_false', Bool.not_eq_true, Bool.not_eq_false, beq_iff_eq, bne_iff_ne, beq_eq_false_iff_ne, bne_eq_false_iff_eq, ne_eq, Decidable.not_not] at *; first | omega | contradiction | (simp_all; done) | (simp_all; omega))
    · rename_i h1 h2
      have h1 : z < 0 := of_decide_eq_true h1
      have h2 := of_decide_eq_true h2
      have hr : longZ z = (0, false) := by unfold longZ; rw [if_neg h4, if_pos h1, if_pos (by omega)]
      rw [hr]
      all_goals refine ⟨[], ?_⟩
      repeat (any_goals (first | exact True.intro | exact rfl | with_reducible_and_instances rfl | exact (by kernel_rfl) | refine And.intro ?_ ?_))
      all_goals conv => whnf
    · rename_i h1 h2
      have h1 : z < 0 := of_decide_eq_true h1
      have h2 := of_decide_eq_false h2
      have hr : longZ z = (z, true) := by unfold longZ; rw [if_neg h4, if_pos h1, if_neg (by omega)]
      rw [hr]
      have e : IntKind.i64.wrap (IntKind.i64.wrap (0 - IntKind.i64.wrap (IntKind.u64.wrap ((valL ((canL z.natAbs).drop 0) : Int) - 1))) - 1) = z := by
        rw [hv0, show IntKind.u64.wrap ((z.natAbs : Int) - 1) = (z.natAbs : Int) - 1 by rw [IntKind.wrap_u64]; omega, wi (n := (z.natAbs : Int) - 1) (by omega) (by omega), wi (n := 0 - ((z.natAbs : Int) - 1)) (by omega) (by omega), wi (by omega) (by omega)]
        omega
      all_goals refine ⟨[], ?_⟩
      repeat (any_goals (first | exact True.intro | exact rfl | with_reducible_and_instances rfl | exact (by kernel_rfl) | refine And.intro ?_ ?_))
      all_goals conv => whnf
      rw [e]
    · rename_i h1
      have h1 : ¬ z < 0 := of_decide_eq_false h1
      have e : (valL ((canL z.natAbs).drop 0) : Int) = z := by rw [hv0]; omega
      have hr : longZ z = (IntKind.i64.wrap z, decide (z < 9223372036854775808)) := by unfold longZ; rw [if_neg h4, if_neg h1]
      rw [hr, e]
      all_goals refine ⟨[], ?_⟩
      repeat (any_goals (first | exact True.intro | exact rfl | with_reducible_and_instances rfl | exact (by kernel_rfl) | refine And.intro ?_ ?_))
      all_goals conv => whnf
  | succ m =>
    have hm : m + 1 ≤ (canL z.natAbs).length := hn
    have hx : (canL z.natAbs)[m]? = some (canL z.natAbs)[m] := List.getElem?_eq_getElem (by omega)
    have em : ((m + 1 : Nat) : Int) - 1 = (m : Int) := by omega
    have hg : (canL z.natAbs)[m] = lb (canL z.natAbs) m := by unfold lb; rw [hx]; rfl
    have hb := lb_dig hd m
    have hs := valL_drop (canL z.natAbs) m
    have hle : valL ((canL z.natAbs).drop m) ≤ z.natAbs := by
      have h := (valL_take (canL z.natAbs) m hd).1
      rw [hvl] at h
      have : 1 * valL ((canL z.natAbs).drop m) ≤ 65536 ^ m * valL ((canL z.natAbs).drop m) := Nat.mul_le_mul_right _ (Nat.pos_of_ne_zero (by simp))
      omega
    repeat (any_goals (first
      | exact True.intro
      | (refine Or.inl ?_; conv => whnf)
      | (refine And.intro (fun _ => ?_) tf; conv => whnf)
      | (refine And.intro ft (fun _ => ?_); conv => whnf)
      | (refine And.intro (by kernel_rfl) ?_; conv => whnf)
      | (refine And.intro (by decide) ?_; conv => whnf)
      | (refine And.intro (fun _ => ?_) (fun h => absurd h (by decide)); conv => whnf)
      | (refine And.intro (fun h => absurd h (by decide)) (fun _ => ?_); conv => whnf)
      | (refine ⟨m, _, em, map_get hx, ?_⟩; conv => whnf)
      | (refine And.intro (fun _ => ?_) (fun _ => ?_) <;> conv => whnf)))
    all_goals try (exfalso; simp only [decide_eq_true_eq, decide_eq_false_iff_not, Bool.not_eq_true', Bool.not_eq_false', Bool.not_eq_true, Bool.not_eq_false, beq_iff_eq, bne_iff_ne, beq_eq_false_iff_ne, bne_eq_false_iff_eq, ne_eq, Decidable.not_not] at *; first | omega | contradiction | (simp_all; done) | (simp_all; omega))
    refine ⟨m, show m ≤ _ by omega, Nat.lt_succ_self m, ?_⟩
    all_goals refine ⟨[], ?_⟩
    repeat (any_goals (first | exact True.intro | exact rfl | with_reducible_and_instances rfl | exact (by kernel_rfl) | refine And.intro ?_ ?_))
    all_goals conv => whnf
    · rw [em, wi (by omega) (by omega)]
    · rw [hg, IntKind.wrap_u64, IntKind.wrap_u64, IntKind.wrap_u64, hs]
      congr 3
      omega
end Go.Proofs.Ytgidaifoiljgoaa
/- Numbers of any length: told, Plus, Minus, Total, Sum. -/
namespace Go.Proofs.Ytgidaifoiljgoaa
set_option linter.unusedSimpArgs false
set_option linter.unusedVariables false
open Go.RowKit
set_option maxRecDepth 100000
def toldZ (z : Int) : Int × Int := if -9223372036854775808 ≤ z ∧ z ≤ 9223372036854775807 then (z, 0) else (0, 12)
theorem longZ_in {z : Int} (h : -9223372036854775808 ≤ z ∧ z ≤ 9223372036854775807) : longZ z = (z, true) := by
  have hl := few_len (few_i64 h)
  unfold longZ
  rw [if_neg (by omega)]
  split
  · rw [if_neg (by omega)]
  · rw [wi (by omega) (by omega), decide_eq_true (by omega)]
theorem longZ_out {z : Int} (h : ¬ (-9223372036854775808 ≤ z ∧ z ≤ 9223372036854775807)) : (longZ z).2 = false := by
  unfold longZ
  split
  · rfl
  · split
    · rw [if_pos (by omega)]
    · exact decide_eq_false (by omega)
theorem told_num (z : Int) (hk : (canL z.natAbs).length ≤ 1000000) : Sat Try.prog 109 [.d (numD z)] [] (.tup [iA (toldZ z).1, iA (toldZ z).2]) [] := by
  have lg := long_num z hk
  by_cases h : -9223372036854775808 ≤ z ∧ z ≤ 9223372036854775807
  · have hr : toldZ z = (z, 0) := by unfold toldZ; rw [if_pos h]
    rw [longZ_in h] at lg
    rw [hr]
    refine sat_of_vc (T := tiOf Try.prog) (E := E0) Try.func109 rfl rfl hE0 hm0 rfl ?_
    conv => whnf
    repeat (any_goals (first
      | exact True.intro
      | (refine Or.inl ?_; conv => whnf)
      | (refine And.intro (fun _ => ?_) tf; conv => whnf)
      | (refine And.intro ft (fun _ => ?_); conv => whnf)
      | (refine And.intro (by kernel_rfl) ?_; conv => whnf)
      | (refine And.intro (by decide) ?_; conv => whnf)
      | (refine And.intro (fun _ => ?_) (fun h => absurd h (by decide)); conv => whnf)
      | (refine And.intro (fun h => absurd h (by decide)) (fun _ => ?_); conv => whnf)
      | (refine And.intro (fun _ => ?_) (fun _ => ?_) <;> conv => whnf)
      | (refine ⟨_, _, lg.pu rfl rfl, ?_⟩; conv => whnf)))
    all_goals try (exfalso; simp only [decide_eq_true_eq, decide_eq_false_iff_not, Bool.not_eq_true', Bool.not_eq_false', Bool.not_eq_true, Bool.not_eq_false, beq_iff_eq, bne_iff_ne, beq_eq_false_iff_ne, bne_eq_false_iff_eq, ne_eq, Decidable.not_not] at *; first | omega | contradiction | (simp_all; done) | (simp_all; omega))
    all_goals refine ⟨[], ?_⟩
    repeat (any_goals (first | exact True.intro | exact rfl | with_reducible_and_instances rfl | exact (by kernel_rfl) | refine And.intro ?_ ?_))
    all_goals conv => whnf
  · have hr : toldZ z = (0, 12) := by unfold toldZ; rw [if_neg h]
    rw [longZ_out h] at lg
    rw [hr]
    refine sat_of_vc (T := tiOf Try.prog) (E := E0) Try.func109 rfl rfl hE0 hm0 rfl ?_
    conv => whnf
    repeat (any_goals (first
      | exact True.intro
      | (refine Or.inl ?_; conv => whnf)
      | (refine And.intro (fun _ => ?_) tf; conv => whnf)
      | (refine And.intro ft (fun _ => ?_); conv => whnf)
      | (refine And.intro (by kernel_rfl) ?_; conv => whnf)
      | (refine And.intro (by decide) ?_; conv => whnf)
      | (refine And.intro (fun _ => ?_) (fun h => absurd h (by decide)); conv => whnf)
      | (refine And.intro (fun h => absurd h (by decide)) (fun _ => ?_); conv => whnf)
      | (refine And.intro (fun _ => ?_) (fun _ => ?_) <;> conv => whnf)
      | (refine ⟨_, _, lg.pu rfl rfl, ?_⟩; conv => whnf)))
    all_goals try (exfalso; simp only [decide_eq_true_eq, decide_eq_false_iff_not, Bool.not_eq_true', Bool.not_eq_false', Bool.not_eq_true, Bool.not_eq_false, beq_iff_eq, bne_iff_ne, beq_eq_false_iff_ne, bne_eq_false_iff_eq, ne_eq, Decidable.not_not] at *; first | omega | contradiction | (simp_all; done) | (simp_all; omega))
    all_goals refine ⟨[], ?_⟩
    repeat (any_goals (first | exact True.intro | exact rfl | with_reducible_and_instances rfl | exact (by kernel_rfl) | refine And.intro ?_ ?_))
    all_goals conv => whnf
end Go.Proofs.Ytgidaifoiljgoaa
/- Bits of limbs. -/
namespace Go.Proofs.Ytgidaifoiljgoaa
set_option linter.unusedSimpArgs false
set_option linter.unusedVariables false
open Go.RowKit
theorem lb_canL (A i : Nat) : lb (canL A) i = ((A / 65536 ^ i % 65536 : Nat) : Int) := by
  have h := valL_take (canL A) i (canL_dig A)
  have hb := lb_dig (canL_dig A) i
  rw [canL_val] at h
  have hd := valL_drop (canL A) i
  have e : A / 65536 ^ i = valL ((canL A).drop i) := by
    have h1 := h.1
    have h2 := h.2
    generalize valL ((canL A).drop i) = V at *
    generalize valL ((canL A).take i) = T at *
    rw [h1, Nat.add_mul_div_left _ _ (Nat.pow_pos (by omega)), Nat.div_eq_of_lt h2, Nat.zero_add]
  rw [e, hd]
  omega
theorem bit_of (A n : Nat) : (A / 65536 ^ (n / 16) % 65536) / 2 ^ (n % 16) % 2 = A / 2 ^ n % 2 := by
  have e1 : (65536 : Nat) ^ (n / 16) = 2 ^ (16 * (n / 16)) := by rw [Nat.pow_mul]
  have e2 : (65536 : Nat) = 2 ^ (n % 16) * 2 ^ (16 - n % 16) := by
    rw [← Nat.pow_add, show n % 16 + (16 - n % 16) = 16 by omega]
  have e3 : (2 : Nat) ^ n = 2 ^ (16 * (n / 16)) * 2 ^ (n % 16) := by rw [← Nat.pow_add, Nat.div_add_mod]
  rw [e1, e3, ← Nat.div_div_eq_div_mul]
  generalize A / 2 ^ (16 * (n / 16)) = B
  conv => lhs; rw [e2]
  rw [Nat.mod_mul_right_div_self, show 2 ^ (16 - n % 16) = 2 * 2 ^ (15 - n % 16) by rw [← Nat.pow_succ']; congr 1; omega, Nat.mod_mul_right_mod]
end Go.Proofs.Ytgidaifoiljgoaa
/- Numbers of any length: Div. -/
namespace Go.Proofs.Ytgidaifoiljgoaa
set_option linter.unusedSimpArgs false
set_option linter.unusedVariables false
open Go.RowKit
set_option maxRecDepth 100000
/-- A whole number divided, down or up. -/
def quoN (A C : Nat) (up : Bool) : Nat := if 0 < A % C ∧ up = true then A / C + 1 else A / C
/-- Bit by bit. -/
theorem bit_down (A n : Nat) : A / 2 ^ n = 2 * (A / 2 ^ (n + 1)) + (A / 2 ^ n) % 2 := by
  rw [Nat.pow_succ, ← Nat.div_div_eq_div_mul]
  omega
theorem div_step (A C : Nat) (hC : 0 < C) (n : Nat) :
    let q := A / 2 ^ (n + 1) / C
    let r := A / 2 ^ (n + 1) % C
    let s := 2 * r + (A / 2 ^ n) % 2
    (C ≤ s → A / 2 ^ n / C = 2 * q + 1 ∧ A / 2 ^ n % C = s - C) ∧ (s < C → A / 2 ^ n / C = 2 * q ∧ A / 2 ^ n % C = s) := by
  intro q r s
  have h1 : C * q + r = A / 2 ^ (n + 1) := Nat.div_add_mod (A / 2 ^ (n + 1)) C
  have h2 : r < C := Nat.mod_lt (A / 2 ^ (n + 1)) hC
  have hb := bit_down A n
  have hsd : s = 2 * r + (A / 2 ^ n) % 2 := rfl
  have hs : A / 2 ^ n = C * (2 * q) + s := by
    have : C * (2 * q) = 2 * (C * q) := by rw [← Nat.mul_assoc, Nat.mul_comm C 2, Nat.mul_assoc]
    omega
  constructor
  · intro h
    have e : A / 2 ^ n = (s - C) + C * (2 * q + 1) := by rw [hs, Nat.mul_add, Nat.mul_one]; omega
    rw [e, Nat.add_mul_div_left _ _ hC, Nat.add_mul_mod_self_left, Nat.div_eq_of_lt (by omega), Nat.mod_eq_of_lt (by omega)]
    omega
  · intro h
    have e : A / 2 ^ n = s + C * (2 * q) := by rw [hs]; omega
    rw [e, Nat.add_mul_div_left _ _ hC, Nat.add_mul_mod_self_left, Nat.div_eq_of_lt h, Nat.mod_eq_of_lt h]
    omega
theorem top0 (A : Nat) : A / 2 ^ (16 * (canL A).length) = 0 := by
  have h := (valL_take (canL A) (canL A).length (canL_dig A)).2
  rw [List.take_length, canL_val] at h
  refine Nat.div_eq_of_lt ?_
  rw [Nat.pow_mul]
  exact h
theorem bit_tmod (A n : Nat) : (((A / 65536 ^ (n / 16) % 65536 : Nat) : Int).fdiv (2 ^ (n % 16))).tmod 2 = ((A / 2 ^ n % 2 : Nat) : Int) := by
  have e : (2 : Int) ^ (n % 16) = ((2 ^ (n % 16) : Nat) : Int) := by simp
  rw [← bit_of, Int.fdiv_eq_ediv_of_nonneg _ (Int.le_of_lt (Int.pow_pos (by omega))), e]
  generalize A / 65536 ^ (n / 16) % 65536 = X
  rw [← Int.natCast_ediv, Int.tmod_eq_emod_of_nonneg (Int.natCast_nonneg _)]
  omega
theorem cmpN_ge {m n : Nat} : cmpN m n ≥ 0 ↔ n ≤ m := by
  unfold cmpN
  constructor
  · intro h
    split at h
    · omega
    · split at h <;> omega
  · intro h
    split
    · decide
    · rw [if_neg (by omega)]; decide
/-- Divided, down or up. -/
def divZ (a c : Int) (up : Bool) : Int := if up = true then -((-a) / c) else a / c
theorem nat_up (A C : Nat) (hC : 0 < C) : (-(A : Int)) / (C : Int) = -((if 0 < A % C then A / C + 1 else A / C : Nat) : Int) := by
  have h := Nat.div_add_mod A C
  have hm := Nat.mod_lt A hC
  split
  · have e : (-(A : Int)) = (C - (A % C : Nat) : Int) + C * (-((A / C : Nat) : Int) - 1) := by
      have : (A : Int) = C * ((A / C : Nat) : Int) + ((A % C : Nat) : Int) := by exact_mod_cast h.symm
      rw [Int.mul_sub, Int.mul_one, Int.mul_neg]
      omega
    rw [e, Int.add_mul_ediv_left _ _ (by omega), Int.ediv_eq_zero_of_lt (by omega) (by omega)]
    push_cast
    omega
  · have e : (-(A : Int)) = C * (-((A / C : Nat) : Int)) := by
      have : (A : Int) = C * ((A / C : Nat) : Int) + ((A % C : Nat) : Int) := by exact_mod_cast h.symm
      rw [Int.mul_neg]
      omega
    rw [e, Int.mul_ediv_cancel_left _ (by omega)]
theorem quoN_div (a c : Int) (up : Bool) (hc : 0 < c) : (if a < 0 then -(quoN a.natAbs c.natAbs (up != decide (a < 0)) : Int) else quoN a.natAbs c.natAbs (up != decide (a < 0))) = divZ a c up := by
  have hC : 0 < c.natAbs := by omega
  have hcc : (c.natAbs : Int) = c := by omega
  have hu := nat_up a.natAbs c.natAbs hC
  rw [hcc] at hu
  have d1 : divZ a c true = -((-a) / c) := rfl
  have d0 : divZ a c false = a / c := rfl
  have q0 : quoN a.natAbs c.natAbs false = a.natAbs / c.natAbs := by unfold quoN; rw [if_neg (fun q => Bool.noConfusion q.2)]
  have q1 : quoN a.natAbs c.natAbs true = if 0 < a.natAbs % c.natAbs then a.natAbs / c.natAbs + 1 else a.natAbs / c.natAbs := by
    unfold quoN
    by_cases hp : 0 < a.natAbs % c.natAbs
    · rw [if_pos hp, if_pos ⟨hp, rfl⟩]
    · rw [if_neg hp, if_neg (fun q => hp q.1)]
  rw [← q1] at hu
  by_cases h : a < 0
  · rw [if_pos h, decide_eq_true h]
    have e : -(a.natAbs : Int) = a := by omega
    have e' : (a.natAbs : Int) = -a := by omega
    cases up with
    | true =>
      rw [show (true != true) = false from rfl, q0, d1, Int.natCast_ediv, hcc, e']
    | false =>
      rw [show (false != true) = true from rfl, d0, ← hu, e]
  · rw [if_neg h, decide_eq_false h]
    have e : (a.natAbs : Int) = a := by omega
    cases up with
    | true =>
      rw [show (true != false) = true from rfl, d1]
      rw [e] at hu
      rw [hu, Int.neg_neg]
    | false =>
      rw [show (false != false) = false from rfl, q0, d0, Int.natCast_ediv, hcc, e]
theorem div_num {k : Nat} (a c : Int) (up : Bool) (hk : k ≤ 1000) (ha : few k a) (hc : few k c) (hc0 : 0 < c) : Sat Try.prog 58 [.d (numD a), .d (numD c), bA up] [] (.d (numD (divZ a c up))) [] := by
  have hC : 0 < c.natAbs := by omega
  have la := few_len ha
  refine sat_of_vc (T := tiOf Try.prog) (E := E0) Try.func58 rfl rfl hE0 hm0 rfl ?_
  conv => whnf
  repeat (any_goals (first
    | exact True.intro
    | (refine And.intro (fun _ => ?_) tf; conv => whnf)
    | (refine And.intro ft (fun _ => ?_); conv => whnf)
    | (refine And.intro (by kernel_rfl) ?_; conv => whnf)
    | (refine And.intro (by decide) ?_; conv => whnf)
    | (refine And.intro (fun _ => ?_) (fun h => absurd h (by decide)); conv => whnf)
    | (refine And.intro (fun h => absurd h (by decide)) (fun _ => ?_); conv => whnf)
    | (refine And.intro (fun _ => ?_) (fun _ => ?_) <;> conv => whnf)))
  all_goals try (refine Or.inl ?_; conv => whnf)
  repeat (any_goals (first
    | exact True.intro
    | (refine And.intro (fun _ => ?_) tf; conv => whnf)
    | (refine And.intro ft (fun _ => ?_); conv => whnf)
    | (refine And.intro (by kernel_rfl) ?_; conv => whnf)
    | (refine And.intro (by decide) ?_; conv => whnf)
    | (refine And.intro (fun _ => ?_) (fun h => absurd h (by decide)); conv => whnf)
    | (refine And.intro (fun h => absurd h (by decide)) (fun _ => ?_); conv => whnf)
    | (refine And.intro (fun _ => ?_) (fun _ => ?_) <;> conv => whnf)))
  all_goals try (refine Or.inl ?_; conv => whnf)
  repeat (any_goals (first
    | exact True.intro
    | (refine And.intro (fun _ => ?_) tf; conv => whnf)
    | (refine And.intro ft (fun _ => ?_); conv => whnf)
    | (refine And.intro (by kernel_rfl) ?_; conv => whnf)
    | (refine And.intro (by decide) ?_; conv => whnf)
    | (refine And.intro (fun _ => ?_) (fun h => absurd h (by decide)); conv => whnf)
    | (refine And.intro (fun h => absurd h (by decide)) (fun _ => ?_); conv => whnf)
    | (refine And.intro (fun _ => ?_) (fun _ => ?_) <;> conv => whnf)))
  refine ⟨Nat, fun n => n ≤ 16 * (canL a.natAbs).length, fun n => ([(9, iA ((n : Int) - 1)), (8, .d (lD (canL (a.natAbs / 2 ^ n % c.natAbs)))), (7, .d (lD (canL (a.natAbs / 2 ^ n / c.natAbs)))), (3, .ptr 0 0), (4, .ptr 1 0), (6, .ptr 2 0), (2, bA up)], [.cells [bA (decide (a < 0)), .d (lD (canL a.natAbs))], .cells [bA (decide (c < 0)), .d (lD (canL c.natAbs))], .cells [bA false, .d (.v (.slice none 0 0))]]), fun n => n, ⟨16 * (canL a.natAbs).length, Nat.le_refl _, ?_⟩, ?_⟩
  · have ht : a.natAbs / 2 ^ (16 * (canL a.natAbs).length) = 0 := top0 _
    all_goals refine ⟨[], ?_⟩
    repeat (any_goals (first | exact True.intro | exact rfl | with_reducible_and_instances rfl | exact (by kernel_rfl) | refine And.intro ?_ ?_))
    all_goals conv => whnf
    · rw [List.length_map, wi (n := 16 * ((canL a.natAbs).length : Int)) (by omega) (by omega), wi (by omega) (by omega), Int.natCast_mul]; rfl
    · rw [ht, Nat.zero_mod, canL_zero]; rfl
    · rw [ht, Nat.zero_div, canL_zero]; rfl
  intro n hn
  conv => whnf
  cases n with
  | zero =>
    have h0 : a.natAbs / 2 ^ 0 = a.natAbs := by rw [Nat.pow_zero, Nat.div_one]
    have hq : a.natAbs / c.natAbs < 65536 ^ k := Nat.lt_of_le_of_lt (Nat.div_le_self _ _) ha
    have lq := canL_short k _ hq
    have p5 := plus_num (canL (a.natAbs / 2 ^ 0 / c.natAbs)) [1] (canL_dig _) (fun d hd => by simp at hd; omega) (by rw [h0]; omega) (by simp)
    rw [canL_val, show valL [1] = 1 by rfl] at p5
    have hl : ((canL (a.natAbs / 2 ^ 0 % c.natAbs)).map lR).length = (canL (a.natAbs % c.natAbs)).length := by rw [List.length_map, h0]
    have hz : 0 < (canL (a.natAbs % c.natAbs)).length ↔ 0 < a.natAbs % c.natAbs := by
      have := canL_len (a.natAbs % c.natAbs)
      rw [decide_eq_decide] at this
      omega
    have lq2 : (canL (quoN a.natAbs c.natAbs (up != decide (a < 0)))).length ≤ k + 1 := canL_short (k + 1) _ (by
      have hpow : (65536 : Nat) ^ (k + 1) = 65536 ^ k * 65536 := Nat.pow_succ ..
      have hp0 : 0 < (65536 : Nat) ^ k := Nat.pow_pos (by omega)
      have : quoN a.natAbs c.natAbs (up != decide (a < 0)) ≤ a.natAbs / c.natAbs + 1 := by unfold quoN; split <;> omega
      omega)
    have m1 := made_num (decide (a < 0)) (canL (quoN a.natAbs c.natAbs (up != decide (a < 0)))) (canL_dig _) (by omega)
    rw [canL_val] at m1
    simp only [decide_eq_true_eq] at m1
    rw [quoN_div _ _ _ hc0] at m1
    repeat (any_goals (first
      | exact True.intro
      | (refine And.intro (fun _ => ?_) tf; conv => whnf)
      | (refine And.intro ft (fun _ => ?_); conv => whnf)
      | (refine And.intro (by kernel_rfl) ?_; conv => whnf)
      | (refine And.intro (by decide) ?_; conv => whnf)
      | (refine And.intro (fun _ => ?_) (fun h => absurd h (by decide)); conv => whnf)
      | (refine And.intro (fun h => absurd h (by decide)) (fun _ => ?_); conv => whnf)
      | (refine And.intro (fun _ => ?_) (fun _ => ?_) <;> conv => whnf)))
    all_goals try (refine Or.inl ?_; conv => whnf)
    repeat (any_goals (first
      | exact True.intro
      | (refine And.intro (fun _ => ?_) tf; conv => whnf)
      | (refine And.intro ft (fun _ => ?_); conv => whnf)
      | (refine And.intro (by kernel_rfl) ?_; conv => whnf)
      | (refine And.intro (by decide) ?_; conv => whnf)
      | (refine And.intro (fun _ => ?_) (fun h => absurd h (by decide)); conv => whnf)
      | (refine And.intro (fun h => absurd h (by decide)) (fun _ => ?_); conv => whnf)
      | (refine And.intro (fun _ => ?_) (fun _ => ?_) <;> conv => whnf)))
    refine Or.inr ⟨Unit, fun _ => True, fun _ => ([(7, .d (lD (canL (quoN a.natAbs c.natAbs (up != decide (a < 0)))))), (3, .ptr 0 0), (4, .ptr 1 0), (6, .ptr 2 0)], [.cells [bA (decide (a < 0)), .d (lD (canL a.natAbs))], .cells [bA (decide (c < 0)), .d (lD (canL c.natAbs))], .cells [bA false, .d (.v (.slice none 0 0))]]), ?_, fun _ _ => ?_⟩
    · repeat (any_goals (first
        | exact True.intro
        | (refine And.intro (fun _ => ?_) tf; conv => whnf)
        | (refine And.intro ft (fun _ => ?_); conv => whnf)
        | (refine And.intro (by kernel_rfl) ?_; conv => whnf)
        | (refine And.intro (by decide) ?_; conv => whnf)
        | (refine And.intro (fun _ => ?_) (fun h => absurd h (by decide)); conv => whnf)
        | (refine And.intro (fun h => absurd h (by decide)) (fun _ => ?_); conv => whnf)
        | (refine ⟨_, _, neB (by kernel_rfl), ?_⟩; conv => whnf)
        | (refine And.intro (fun _ => ?_) (fun _ => ?_) <;> conv => whnf)
        | (refine ⟨_, _, frz_b p5 rfl rfl, ?_⟩; conv => whnf)))
      · have h1 := of_decide_eq_true ‹decide ((_ : Int) > 0) = true›
        have hup := ‹(up != decide (a < 0)) = true›
        refine ⟨(), trivial, ?_⟩
        all_goals refine ⟨[], ?_⟩
        repeat (any_goals (first | exact True.intro | exact rfl | with_reducible_and_instances rfl | exact (by kernel_rfl) | refine And.intro ?_ ?_))
        all_goals conv => whnf
        rw [h0]
        unfold quoN
        rw [if_pos ⟨hz.1 (by rw [← hl]; omega), hup⟩]
      · have hup := ‹(up != decide (a < 0)) = false›
        refine ⟨(), trivial, ?_⟩
        all_goals refine ⟨[], ?_⟩
        repeat (any_goals (first | exact True.intro | exact rfl | with_reducible_and_instances rfl | exact (by kernel_rfl) | refine And.intro ?_ ?_))
        all_goals conv => whnf
        rw [h0]
        unfold quoN
        rw [if_neg (by rw [hup]; simp)]
      · have h1 := of_decide_eq_false ‹decide ((_ : Int) > 0) = false›
        refine ⟨(), trivial, ?_⟩
        all_goals refine ⟨[], ?_⟩
        repeat (any_goals (first | exact True.intro | exact rfl | with_reducible_and_instances rfl | exact (by kernel_rfl) | refine And.intro ?_ ?_))
        all_goals conv => whnf
        rw [h0]
        unfold quoN
        rw [if_neg (fun h => h1 (by have := hz.2 h.1; rw [← hl] at this; omega))]
    · repeat (any_goals (first
        | exact True.intro
        | (refine And.intro (fun _ => ?_) tf; conv => whnf)
        | (refine And.intro ft (fun _ => ?_); conv => whnf)
        | (refine And.intro (by kernel_rfl) ?_; conv => whnf)
        | (refine And.intro (by decide) ?_; conv => whnf)
        | (refine And.intro (fun _ => ?_) (fun h => absurd h (by decide)); conv => whnf)
        | (refine And.intro (fun h => absurd h (by decide)) (fun _ => ?_); conv => whnf)
        | (refine And.intro (fun _ => ?_) (fun _ => ?_) <;> conv => whnf)
        | (refine ⟨_, _, m1.pu rfl rfl, ?_⟩; conv => whnf)))
      all_goals refine ⟨[], ?_⟩
      repeat (any_goals (first | exact True.intro | exact rfl | with_reducible_and_instances rfl | exact (by kernel_rfl) | refine And.intro ?_ ?_))
      all_goals conv => whnf
  | succ n =>
    have hn : n + 1 ≤ 16 * (canL a.natAbs).length := hn
    have hi : n / 16 < (canL a.natAbs).length := by omega
    have hx : (canL a.natAbs)[n / 16]? = some (lb (canL a.natAbs) (n / 16)) := by unfold lb; rw [List.getElem?_eq_getElem hi]; rfl
    have em : ((n + 1 : Nat) : Int) - 1 = (n : Int) := by omega
    have hr := Nat.mod_lt (a.natAbs / 2 ^ (n + 1)) hC
    have lR : (canL (a.natAbs / 2 ^ (n + 1) % c.natAbs)).length ≤ k := canL_short k _ (Nat.lt_trans hr hc)
    have hQ : a.natAbs / 2 ^ (n + 1) / c.natAbs < 65536 ^ k := Nat.lt_of_le_of_lt (Nat.le_trans (Nat.div_le_self _ _) (Nat.div_le_self _ _)) ha
    have lQ : (canL (a.natAbs / 2 ^ (n + 1) / c.natAbs)).length ≤ k := canL_short k _ hQ
    have p1 := plus_num (canL (a.natAbs / 2 ^ (n + 1) % c.natAbs)) (canL (a.natAbs / 2 ^ (n + 1) % c.natAbs)) (canL_dig _) (canL_dig _) (by omega) (by omega)
    have p2 := plus_num (canL (a.natAbs / 2 ^ (n + 1) / c.natAbs)) (canL (a.natAbs / 2 ^ (n + 1) / c.natAbs)) (canL_dig _) (canL_dig _) (by omega) (by omega)
    have l2 : (canL (a.natAbs / 2 ^ (n + 1) % c.natAbs + a.natAbs / 2 ^ (n + 1) % c.natAbs)).length ≤ k + 1 := canL_short (k + 1) _ (few_sum (Nat.lt_trans hr hc) (Nat.lt_trans hr hc))
    have p3 := plus_num (canL (a.natAbs / 2 ^ (n + 1) % c.natAbs + a.natAbs / 2 ^ (n + 1) % c.natAbs)) [1] (canL_dig _) (fun d hd => by simp at hd; omega) (by omega) (by simp)
    rw [canL_val] at p1 p2 p3
    rw [show valL [1] = 1 by rfl] at p3
    repeat (any_goals (first
      | exact True.intro
      | (refine And.intro (fun _ => ?_) tf; conv => whnf)
      | (refine And.intro ft (fun _ => ?_); conv => whnf)
      | (refine And.intro (by kernel_rfl) ?_; conv => whnf)
      | (refine And.intro (by decide) ?_; conv => whnf)
      | (refine And.intro (fun _ => ?_) (fun h => absurd h (by decide)); conv => whnf)
      | (refine And.intro (fun h => absurd h (by decide)) (fun _ => ?_); conv => whnf)
      | (refine And.intro (fun _ => ?_) (fun _ => ?_) <;> conv => whnf)))
    all_goals try (refine Or.inl ?_; conv => whnf)
    repeat (any_goals (first
      | exact True.intro
      | (refine And.intro (fun _ => ?_) tf; conv => whnf)
      | (refine And.intro ft (fun _ => ?_); conv => whnf)
      | (refine And.intro (by kernel_rfl) ?_; conv => whnf)
      | (refine And.intro (by decide) ?_; conv => whnf)
      | (refine And.intro (fun _ => ?_) (fun h => absurd h (by decide)); conv => whnf)
      | (refine And.intro (fun h => absurd h (by decide)) (fun _ => ?_); conv => whnf)
      | (refine And.intro (fun _ => ?_) (fun _ => ?_) <;> conv => whnf)
      | (refine ⟨_, _, p1.pu rfl rfl, ?_⟩; conv => whnf)))
    all_goals try (exfalso; simp only [decide_eq_true_eq, decide_eq_false_iff_not, Bool.not_eq_true', Bool.not_eq_false', Bool.not_eq_true, Bool.not_eq_false, beq_iff_eq, bne_iff_ne, beq_eq_false_iff_ne, bne_eq_false_iff_eq, ne_eq, Decidable.not_not] at *; first | omega | contradiction | (simp_all; done) | (simp_all; omega))
    have e16 : IntKind.i64.wrap ((((n + 1 : Nat) : Int) - 1).tdiv 16) = ((n / 16 : Nat) : Int) := by rw [em, Int.tdiv_eq_ediv_of_nonneg (by omega), wi (by omega) (by omega)]; rfl
    have m16 : IntKind.u64.wrap ((((n + 1 : Nat) : Int) - 1).tmod 16) = ((n % 16 : Nat) : Int) := by rw [em, Int.tmod_eq_emod_of_nonneg (by omega), IntKind.wrap_u64]; omega
    have hsh : 0 ≤ IntKind.u64.wrap ((((n + 1 : Nat) : Int) - 1).tmod 16) := by omega
    have hbit : 2 ^ min (IntKind.u64.wrap ((((n + 1 : Nat) : Int) - 1).tmod 16)).toNat IntKind.i64.bits = (2 : Int) ^ (n % 16) := by rw [m16, Int.toNat_natCast, show min (n % 16) IntKind.i64.bits = n % 16 from Nat.min_eq_left (show n % 16 ≤ 64 by omega)]
    have ebit : ((lb (canL a.natAbs) (n / 16)).fdiv (2 ^ min (IntKind.u64.wrap ((((n + 1 : Nat) : Int) - 1).tmod 16)).toNat IntKind.i64.bits)).tmod 2 = ((a.natAbs / 2 ^ n % 2 : Nat) : Int) := by
      rw [hbit, lb_canL, bit_tmod]
    all_goals try (refine Or.inl ?_; conv => whnf)
    repeat (any_goals (first
      | exact True.intro
      | (refine And.intro (fun _ => ?_) tf; conv => whnf)
      | (refine And.intro ft (fun _ => ?_); conv => whnf)
      | (refine And.intro (by kernel_rfl) ?_; conv => whnf)
      | (refine And.intro (by decide) ?_; conv => whnf)
      | (refine And.intro (fun _ => ?_) (fun h => absurd h (by decide)); conv => whnf)
      | (refine And.intro (fun h => absurd h (by decide)) (fun _ => ?_); conv => whnf)
      | (refine And.intro (fun _ => ?_) (fun _ => ?_) <;> conv => whnf)
      | (refine ⟨_, _, p1.pu rfl rfl, ?_⟩; conv => whnf)))
    refine Or.inr ⟨Unit, fun _ => True, fun _ => ([(9, iA (((n + 1 : Nat) : Int) - 1)), (8, .d (lD (canL (2 * (a.natAbs / 2 ^ (n + 1) % c.natAbs) + a.natAbs / 2 ^ n % 2)))), (7, .d (lD (canL (a.natAbs / 2 ^ (n + 1) / c.natAbs)))), (3, .ptr 0 0), (4, .ptr 1 0), (6, .ptr 2 0), (2, bA up)], [.cells [bA (decide (a < 0)), .d (lD (canL a.natAbs))], .cells [bA (decide (c < 0)), .d (lD (canL c.natAbs))], .cells [bA false, .d (.v (.slice none 0 0))]]), ?_, fun _ _ => ?_⟩
    · repeat (any_goals (first
        | exact True.intro
        | (refine And.intro (fun _ => ?_) tf; conv => whnf)
        | (refine And.intro ft (fun _ => ?_); conv => whnf)
        | (refine And.intro (by kernel_rfl) ?_; conv => whnf)
        | (refine And.intro (by decide) ?_; conv => whnf)
        | (refine And.intro (fun _ => ?_) (fun h => absurd h (by decide)); conv => whnf)
        | (refine And.intro (fun h => absurd h (by decide)) (fun _ => ?_); conv => whnf)
        | (refine ⟨n / 16, _, e16, map_get hx, ?_⟩; conv => whnf)
        | (refine And.intro hsh ?_; conv => whnf)
        | (refine And.intro (fun _ => ?_) (fun _ => ?_) <;> conv => whnf)
        | (refine ⟨_, _, frz_b p3 rfl rfl, ?_⟩; conv => whnf)))
      · have hb1 : a.natAbs / 2 ^ n % 2 = 1 := by have h := beq_iff_eq.1 ‹_ = true›; rw [ebit] at h; omega
        refine ⟨(), trivial, ?_⟩
        all_goals refine ⟨[], ?_⟩
        repeat (any_goals (first | exact True.intro | exact rfl | with_reducible_and_instances rfl | exact (by kernel_rfl) | refine And.intro ?_ ?_))
        all_goals conv => whnf
        rw [hb1, show 2 * (a.natAbs / 2 ^ (n + 1) % c.natAbs) + 1 = a.natAbs / 2 ^ (n + 1) % c.natAbs + a.natAbs / 2 ^ (n + 1) % c.natAbs + 1 by omega]
      · have hb0 : a.natAbs / 2 ^ n % 2 = 0 := by have h := beq_eq_false_iff_ne.1 ‹_ = false›; rw [ebit] at h; omega
        refine ⟨(), trivial, ?_⟩
        all_goals refine ⟨[], ?_⟩
        repeat (any_goals (first | exact True.intro | exact rfl | with_reducible_and_instances rfl | exact (by kernel_rfl) | refine And.intro ?_ ?_))
        all_goals conv => whnf
        rw [hb0, show 2 * (a.natAbs / 2 ^ (n + 1) % c.natAbs) + 0 = a.natAbs / 2 ^ (n + 1) % c.natAbs + a.natAbs / 2 ^ (n + 1) % c.natAbs by omega]
    · have hn' : n ≤ 16 * (canL a.natAbs).length := by omega
      have st := div_step a.natAbs c.natAbs hC n
      have hlt := few_sum (k := k) (Nat.lt_trans hr hc) (Nat.lt_trans hr hc)
      have hpow : (65536 : Nat) ^ (k + 1) = 65536 ^ k * 65536 := Nat.pow_succ ..
      have hS : 2 * (a.natAbs / 2 ^ (n + 1) % c.natAbs) + a.natAbs / 2 ^ n % 2 < 65536 ^ (k + 1) := by
        have := hc
        unfold few at this
        omega
      have lS := canL_short (k + 1) _ hS
      have lC := few_len hc
      have ab := above_sat (canL (2 * (a.natAbs / 2 ^ (n + 1) % c.natAbs) + a.natAbs / 2 ^ n % 2)) (canL c.natAbs) (canL_dig _) (canL_dig _) (by omega) (by omega)
      have lQ2 : (canL (a.natAbs / 2 ^ (n + 1) / c.natAbs + a.natAbs / 2 ^ (n + 1) / c.natAbs)).length ≤ k + 1 := canL_short (k + 1) _ (few_sum hQ hQ)
      have p4 := plus_num (canL (a.natAbs / 2 ^ (n + 1) / c.natAbs + a.natAbs / 2 ^ (n + 1) / c.natAbs)) [1] (canL_dig _) (fun d hd => by simp at hd; omega) (by omega) (by simp)
      rw [canL_val, show valL [1] = 1 by rfl] at p4
      rw [canL_val, canL_val] at ab
      by_cases hge : c.natAbs ≤ 2 * (a.natAbs / 2 ^ (n + 1) % c.natAbs) + a.natAbs / 2 ^ n % 2
      · have mi := minus_num (canL (2 * (a.natAbs / 2 ^ (n + 1) % c.natAbs) + a.natAbs / 2 ^ n % 2)) (canL c.natAbs) (canL_dig _) (canL_dig _) (by omega) (by rw [canL_val, canL_val]; exact hge)
        rw [canL_val, canL_val] at mi
        obtain ⟨s1, s2⟩ := st.1 hge
        have hcm := cmpN_ge.2 hge
        repeat (any_goals (first
          | exact True.intro
          | (refine And.intro (fun _ => ?_) tf; conv => whnf)
          | (refine And.intro ft (fun _ => ?_); conv => whnf)
          | (refine And.intro (by kernel_rfl) ?_; conv => whnf)
          | (refine And.intro (by decide) ?_; conv => whnf)
          | (refine And.intro (fun _ => ?_) (fun h => absurd h (by decide)); conv => whnf)
          | (refine And.intro (fun h => absurd h (by decide)) (fun _ => ?_); conv => whnf)
          | (refine And.intro (fun _ => ?_) (fun _ => ?_) <;> conv => whnf)
          | (refine ⟨_, _, p2.pu rfl rfl, ?_⟩; conv => whnf)
          | (refine ⟨_, _, ab.pu rfl rfl, ?_⟩; conv => whnf)
          | (refine ⟨_, _, mi.pu rfl rfl, ?_⟩; conv => whnf)
          | (refine ⟨_, _, frz_b p4 rfl rfl, ?_⟩; conv => whnf)))
        · refine ⟨n, hn', Nat.lt_succ_self n, ?_⟩
          all_goals refine ⟨[], ?_⟩
          repeat (any_goals (first | exact True.intro | exact rfl | with_reducible_and_instances rfl | exact (by kernel_rfl) | refine And.intro ?_ ?_))
          all_goals conv => whnf
          · rw [em, wi (by omega) (by omega)]
          · rw [s2]
          · rw [s1, show 2 * (a.natAbs / 2 ^ (n + 1) / c.natAbs) + 1 = a.natAbs / 2 ^ (n + 1) / c.natAbs + a.natAbs / 2 ^ (n + 1) / c.natAbs + 1 by omega]
        · exact absurd hcm (of_decide_eq_false ‹_›)
      · obtain ⟨s1, s2⟩ := st.2 (by omega)
        have hcm := fun q => hge (cmpN_ge.1 q)
        repeat (any_goals (first
          | exact True.intro
          | (refine And.intro (fun _ => ?_) tf; conv => whnf)
          | (refine And.intro ft (fun _ => ?_); conv => whnf)
          | (refine And.intro (by kernel_rfl) ?_; conv => whnf)
          | (refine And.intro (by decide) ?_; conv => whnf)
          | (refine And.intro (fun _ => ?_) (fun h => absurd h (by decide)); conv => whnf)
          | (refine And.intro (fun h => absurd h (by decide)) (fun _ => ?_); conv => whnf)
          | (refine And.intro (fun _ => ?_) (fun _ => ?_) <;> conv => whnf)
          | (refine ⟨_, _, p2.pu rfl rfl, ?_⟩; conv => whnf)
          | (refine ⟨_, _, ab.pu rfl rfl, ?_⟩; conv => whnf)))
        · exact absurd (of_decide_eq_true ‹_›) hcm
        · refine ⟨n, hn', Nat.lt_succ_self n, ?_⟩
          all_goals refine ⟨[], ?_⟩
          repeat (any_goals (first | exact True.intro | exact rfl | with_reducible_and_instances rfl | exact (by kernel_rfl) | refine And.intro ?_ ?_))
          all_goals conv => whnf
          · rw [em, wi (by omega) (by omega)]
          · rw [s2]
          · rw [s1, show 2 * (a.natAbs / 2 ^ (n + 1) / c.natAbs) = a.natAbs / 2 ^ (n + 1) / c.natAbs + a.natAbs / 2 ^ (n + 1) / c.natAbs by omega]
end Go.Proofs.Ytgidaifoiljgoaa
/- Numbers of any length: Mul. -/
namespace Go.Proofs.Ytgidaifoiljgoaa
set_option linter.unusedSimpArgs false
set_option linter.unusedVariables false
open Go.RowKit
set_option maxRecDepth 100000
theorem valL_set : ∀ (l : List Int) (j : Nat) (d : Int), j < l.length → valL (l.set j d) + 65536 ^ j * (lb l j).toNat = valL l + 65536 ^ j * d.toNat
  | [], j, d, h => by simp at h
  | x :: l, 0, d, h => by simp [valL, lb]; omega
  | x :: l, j + 1, d, h => by
    have ih := valL_set l j d (by simpa using h)
    have e : lb (x :: l) (j + 1) = lb l j := by simp [lb]
    rw [List.set_cons_succ, valL, valL, e, Nat.pow_succ, Nat.mul_comm (65536 ^ j) 65536, Nat.mul_assoc, Nat.mul_assoc]
    omega
theorem digL_set {l : List Int} {j : Nat} {d : Int} (h : digL l) (h0 : 0 ≤ d) (h1 : d < 65536) : digL (l.set j d) := fun x hx => by
  rcases List.mem_or_eq_of_mem_set hx with e | e
  · exact h x e
  · subst e; exact ⟨h0, h1⟩
theorem valL_take_succ (l : List Int) (i : Nat) (hd : digL l) : valL (l.take (i + 1)) = valL (l.take i) + 65536 ^ i * (lb l i).toNat := by
  have h1 := (valL_take l i hd).1
  have h2 := (valL_take l (i + 1) hd).1
  have h3 := valL_drop l i
  rw [h3, Nat.mul_add, ← Nat.mul_assoc, ← Nat.pow_succ] at h1
  generalize 65536 ^ (i + 1) * valL (l.drop (i + 1)) = Z at h1 h2
  omega
theorem valL_take_all {l : List Int} {k : Nat} (h : l.length ≤ k) : valL (l.take k) = valL l := by rw [List.take_of_length_le h]
theorem valL_zeros : ∀ (n : Nat), valL (List.replicate n 0) = 0
  | 0 => rfl
  | n + 1 => by rw [List.replicate_succ, valL, valL_zeros n]; rfl
/-- How far a row of a product has come. -/
structure MulI (a b : List Int) (i k : Nat) (c : Int) (out : List Int) : Prop where
  len : out.length = a.length + b.length + 1
  dig : digL out
  c0 : 0 ≤ c
  c1 : c ≤ 65535
  val : valL out + 65536 ^ (i + k) * c.toNat = valL (a.take i) * valL b + 65536 ^ i * (lb a i).toNat * valL (b.take k)
theorem MulI.idx {a b : List Int} {i k : Nat} {c : Int} {out : List Int} (I : MulI a b i k c out) (da : digL a) (db : digL b) (hi : i < a.length) (h : k < b.length ∨ 0 < c) : i + k < out.length := by
  rw [I.len]
  rcases h with h | h
  · omega
  · have hv := I.val
    have t1 := (valL_take b k db).1
    have t2 := (valL_take b b.length db).2
    have t3 := valL_take_succ a i da
    have t4 := (valL_take a (i + 1) da).2
    rw [List.take_length] at t2
    have hle : valL (b.take k) ≤ valL b := by rw [t1]; exact Nat.le_add_right _ _
    have h1 : valL (a.take i) * valL b + 65536 ^ i * (lb a i).toNat * valL (b.take k) ≤ valL (a.take (i + 1)) * valL b := by
      rw [t3, Nat.add_mul]
      exact Nat.add_le_add_left (Nat.mul_le_mul_left _ hle) _
    have h2 : valL (a.take (i + 1)) * valL b < 65536 ^ (i + 1 + b.length) := by
      rw [Nat.pow_add]
      exact Nat.mul_lt_mul'' t4 t2
    have h3 : 65536 ^ (i + k) * 1 ≤ 65536 ^ (i + k) * c.toNat := Nat.mul_le_mul_left _ (by omega)
    have h4 : (65536 : Nat) ^ (i + k) < 65536 ^ (i + 1 + b.length) := by omega
    have := (Nat.pow_lt_pow_iff_right (by omega : 1 < 65536)).1 h4
    omega
theorem MulI.next {a b : List Int} {i k : Nat} {c : Int} {out : List Int} (I : MulI a b i k c out) (da : digL a) (db : digL b) (hx : i + k < out.length) :
    MulI a b i (k + 1) ((c + (lb out (i + k) + lb a i * lb b k)) / 65536) (out.set (i + k) ((c + (lb out (i + k) + lb a i * lb b k)) % 65536)) := by
  have ha := lb_dig da i
  have hb := lb_dig db k
  have ho := lb_dig I.dig (i + k)
  have h0 := I.c0
  have h1 := I.c1
  have hm : lb a i * lb b k ≤ 65535 * 65535 := Int.mul_le_mul (by omega) (by omega) (by omega) (by omega)
  have hm0 : 0 ≤ lb a i * lb b k := Int.mul_nonneg ha.1 hb.1
  have hmt : (lb a i * lb b k).toNat = (lb a i).toNat * (lb b k).toNat := Int.toNat_mul ha.1 hb.1
  have hv := I.val
  have hs := valL_set out (i + k) ((c + (lb out (i + k) + lb a i * lb b k)) % 65536) hx
  have ht := valL_take_succ b k db
  refine ⟨by rw [List.length_set]; exact I.len, digL_set I.dig (by omega) (by omega), by omega, by omega, ?_⟩
  rw [ht]
  generalize hp : lb a i * lb b k = p at *
  have e1 : ((c + (lb out (i + k) + p)) / 65536).toNat * 65536 + ((c + (lb out (i + k) + p)) % 65536).toNat = c.toNat + (lb out (i + k)).toNat + p.toNat := by omega
  generalize ((c + (lb out (i + k) + p)) / 65536).toNat = q at *
  generalize hr : ((c + (lb out (i + k) + p)) % 65536) = r at *
  rw [← Nat.add_assoc i k 1, Nat.pow_succ, Nat.mul_assoc, Nat.mul_comm 65536 q]
  have e2 : 65536 ^ (i + k) * (q * 65536) + 65536 ^ (i + k) * r.toNat = 65536 ^ (i + k) * c.toNat + 65536 ^ (i + k) * (lb out (i + k)).toNat + 65536 ^ (i + k) * p.toNat := by
    rw [← Nat.mul_add, e1, Nat.mul_add, Nat.mul_add]
  have e3 : 65536 ^ i * (lb a i).toNat * (valL (b.take k) + 65536 ^ k * (lb b k).toNat) = 65536 ^ i * (lb a i).toNat * valL (b.take k) + 65536 ^ (i + k) * p.toNat := by
    rw [Nat.mul_add, hmt, Nat.pow_add]
    congr 1
    rw [Nat.mul_assoc, Nat.mul_assoc, Nat.mul_left_comm (lb a i).toNat]
  rw [e3]
  omega
theorem MulI.fin {a b : List Int} {i k : Nat} {c : Int} {out : List Int} (I : MulI a b i k c out) (da : digL a) (hk : b.length ≤ k) (hc : c ≤ 0) : valL out = valL (a.take (i + 1)) * valL b := by
  have hv := I.val
  rw [show c = 0 by have := I.c0; omega, valL_take_all hk] at hv
  rw [valL_take_succ a i da, Nat.add_mul]
  simpa using hv
theorem mul_num {k : Nat} {x y : Int} (hk : k ≤ 1000) (hx : few k x) (hy : few k y) : Sat Try.prog 110 [.d (numD x), .d (numD y)] [] (.d (numD (x * y))) [] := by
  have lx := few_len hx
  have ly := few_len hy
  have da := canL_dig x.natAbs
  have db := canL_dig y.natAbs
  have va := canL_val x.natAbs
  have vb := canL_val y.natAbs
  generalize hA : canL x.natAbs = A at *
  generalize hB : canL y.natAbs = B at *
  unfold numD
  rw [hA, hB]
  have hlen : IntKind.i64.wrap (IntKind.i64.wrap (((A.map lR).length : Int) + ((B.map lR).length : Int)) + 1) = ((A.length + B.length + 1 : Nat) : Int) := by
    rw [List.length_map, List.length_map, wi (n := (A.length : Int) + B.length) (by omega) (by omega), wi (by omega) (by omega)]; push_cast; rfl
  have hlA : (A.map lR).length = A.length := List.length_map _
  have hlB : (B.map lR).length = B.length := List.length_map _
  refine sat_of_vc (T := tiOf Try.prog) (E := E0) Try.func110 rfl rfl hE0 hm0 rfl ?_
  conv => whnf
  repeat (any_goals (first
    | exact True.intro
    | (refine And.intro (fun _ => ?_) tf; conv => whnf)
    | (refine And.intro ft (fun _ => ?_); conv => whnf)
    | (refine And.intro (by kernel_rfl) ?_; conv => whnf)
    | (refine And.intro (by decide) ?_; conv => whnf)
    | (refine And.intro (fun _ => ?_) (fun h => absurd h (by decide)); conv => whnf)
    | (refine And.intro (fun h => absurd h (by decide)) (fun _ => ?_); conv => whnf)
    | (refine And.intro (fun _ => ?_) (fun _ => ?_) <;> conv => whnf)))
  all_goals try (refine Or.inl ?_; conv => whnf)
  rw [hlen]
  repeat (any_goals (first
    | exact True.intro
    | (refine And.intro (fun _ => ?_) tf; conv => whnf)
    | (refine And.intro ft (fun _ => ?_); conv => whnf)
    | (refine And.intro (by kernel_rfl) ?_; conv => whnf)
    | (refine And.intro (by decide) ?_; conv => whnf)
    | (refine And.intro (fun _ => ?_) (fun h => absurd h (by decide)); conv => whnf)
    | (refine And.intro (fun h => absurd h (by decide)) (fun _ => ?_); conv => whnf)
    | (refine And.intro (fun _ => ?_) (fun _ => ?_) <;> conv => whnf)
    | (refine ⟨_, _, mkf 1 8 (by kernel_rfl) (by omega) (by unfold maxLen; omega), ?_⟩; conv => whnf)))
  all_goals try (refine Or.inl ?_; conv => whnf)
  repeat (any_goals (first
    | exact True.intro
    | (refine And.intro (fun _ => ?_) tf; conv => whnf)
    | (refine And.intro ft (fun _ => ?_); conv => whnf)
    | (refine And.intro (by kernel_rfl) ?_; conv => whnf)
    | (refine And.intro (by decide) ?_; conv => whnf)
    | (refine And.intro (fun _ => ?_) (fun h => absurd h (by decide)); conv => whnf)
    | (refine And.intro (fun h => absurd h (by decide)) (fun _ => ?_); conv => whnf)
    | (refine And.intro (fun _ => ?_) (fun _ => ?_) <;> conv => whnf)
    | (refine ⟨_, _, mkf 1 8 (by kernel_rfl) (by omega) (by unfold maxLen; omega), ?_⟩; conv => whnf)))
  refine ⟨Nat × List Int, fun z => z.1 ≤ A.length ∧ z.2.length = A.length + B.length + 1 ∧ digL z.2 ∧ valL z.2 = valL (A.take z.1) * valL B, fun z => ([(6, iA z.1), (5, .own 3), (2, .ptr 0 0), (3, .ptr 1 0), (4, .ptr 2 0)], [.cells [bA (decide (x < 0)), .d (lD A)], .cells [bA (decide (y < 0)), .d (lD B)], .cells [bA false, .d (.v (.slice none 0 0))], .sl 1 (z.2.map lR)]), fun z => A.length - z.1, ⟨(0, List.replicate (A.length + B.length + 1) 0), ⟨Nat.zero_le _, by simp, fun d hd => by rw [List.eq_of_mem_replicate hd]; omega, by rw [valL_zeros]; simp [valL]⟩, ?_⟩, ?_⟩
  · all_goals refine ⟨[], ?_⟩
    repeat (any_goals (first | exact True.intro | exact rfl | with_reducible_and_instances rfl | exact (by kernel_rfl) | refine And.intro ?_ ?_))
    all_goals conv => whnf
    rw [List.map_replicate]; rfl
  rintro ⟨i, out⟩ ⟨hi, hol, hod, hov⟩
  have hi : i ≤ A.length := hi
  have hol : out.length = A.length + B.length + 1 := hol
  have hod : digL out := hod
  have hov : valL out = valL (A.take i) * valL B := hov
  conv => whnf
  by_cases hlt : i < A.length
  · have hxi : A[i]? = some (lb A i) := by unfold lb; rw [List.getElem?_eq_getElem hlt]; rfl
    repeat (any_goals (first
      | exact True.intro
      | (refine And.intro (fun _ => ?_) tf; conv => whnf)
      | (refine And.intro ft (fun _ => ?_); conv => whnf)
      | (refine And.intro (by kernel_rfl) ?_; conv => whnf)
      | (refine And.intro (by decide) ?_; conv => whnf)
      | (refine And.intro (fun _ => ?_) (fun h => absurd h (by decide)); conv => whnf)
      | (refine And.intro (fun h => absurd h (by decide)) (fun _ => ?_); conv => whnf)
      | (refine And.intro (fun _ => ?_) (fun _ => ?_) <;> conv => whnf)))
    all_goals try (refine Or.inl ?_; conv => whnf)
    repeat (any_goals (first
      | exact True.intro
      | (refine And.intro (fun _ => ?_) tf; conv => whnf)
      | (refine And.intro ft (fun _ => ?_); conv => whnf)
      | (refine And.intro (by kernel_rfl) ?_; conv => whnf)
      | (refine And.intro (by decide) ?_; conv => whnf)
      | (refine And.intro (fun _ => ?_) (fun h => absurd h (by decide)); conv => whnf)
      | (refine And.intro (fun h => absurd h (by decide)) (fun _ => ?_); conv => whnf)
      | (refine And.intro (fun _ => ?_) (fun _ => ?_) <;> conv => whnf)))
    all_goals try (exfalso; simp only [decide_eq_true_eq, decide_eq_false_iff_not, Bool.not_eq_true', Bool.not_eq_false', Bool.not_eq_true, Bool.not_eq_false, beq_iff_eq, bne_iff_ne, beq_eq_false_iff_ne, bne_eq_false_iff_eq, ne_eq, Decidable.not_not] at *; first | omega | contradiction | (simp_all; done) | (simp_all; omega))
    all_goals try (refine Or.inl ?_; conv => whnf)
    repeat (any_goals (first
      | exact True.intro
      | (refine And.intro (fun _ => ?_) tf; conv => whnf)
      | (refine And.intro ft (fun _ => ?_); conv => whnf)
      | (refine And.intro (by kernel_rfl) ?_; conv => whnf)
      | (refine And.intro (by decide) ?_; conv => whnf)
      | (refine And.intro (fun _ => ?_) (fun h => absurd h (by decide)); conv => whnf)
      | (refine And.intro (fun h => absurd h (by decide)) (fun _ => ?_); conv => whnf)
      | (refine And.intro (fun _ => ?_) (fun _ => ?_) <;> conv => whnf)))
    refine ⟨Nat × Int × List Int, fun z => MulI A B i z.1 z.2.1 z.2.2, fun z => ([(8, iA z.1), (7, iA z.2.1), (6, iA i), (5, .own 3), (2, .ptr 0 0), (3, .ptr 1 0), (4, .ptr 2 0)], [.cells [bA (decide (x < 0)), .d (lD A)], .cells [bA (decide (y < 0)), .d (lD B)], .cells [bA false, .d (.v (.slice none 0 0))], .sl 1 (z.2.2.map lR)]), fun z => A.length + B.length + 1 - (i + z.1), ⟨(0, 0, out), ⟨hol, hod, Int.le_refl _, show (0 : Int) ≤ 65535 by decide, by simpa [valL] using hov⟩, ?_⟩, ?_⟩
    · all_goals refine ⟨[], ?_⟩
      repeat (any_goals (first | exact True.intro | exact rfl | with_reducible_and_instances rfl | exact (by kernel_rfl) | refine And.intro ?_ ?_))
      all_goals conv => whnf
    rintro ⟨k1, c, row⟩ I
    have I : MulI A B i k1 c row := I
    have hv1 := I.len
    conv => whnf
    by_cases hgo : k1 < B.length ∨ 0 < c
    · have hix := I.idx da db hlt hgo
      have hwi : IntKind.i64.wrap ((i : Int) + (k1 : Int)) = ((i + k1 : Nat) : Int) := by rw [wi (by omega) (by omega)]; rfl
      have hro : row[i + k1]? = some (lb row (i + k1)) := by unfold lb; rw [List.getElem?_eq_getElem hix]; rfl
      have lim := limb_sat B k1
      have stepw : IntKind.i64.wrap (c + IntKind.i64.wrap (lb row (i + k1) + IntKind.i64.wrap (lb A i * (B[k1]?).getD 0))) = c + (lb row (i + k1) + lb A i * lb B k1) := by
        have ha := lb_dig da i
        have hb := lb_dig db k1
        have ho := lb_dig I.dig (i + k1)
        have h0 := I.c0
        have h1 := I.c1
        have hm : lb A i * lb B k1 ≤ 65535 * 65535 := Int.mul_le_mul (by omega) (by omega) (by omega) (by omega)
        have hm0 : 0 ≤ lb A i * lb B k1 := Int.mul_nonneg ha.1 hb.1
        show IntKind.i64.wrap (c + IntKind.i64.wrap (lb row (i + k1) + IntKind.i64.wrap (lb A i * lb B k1))) = _
        generalize lb A i * lb B k1 = p at *
        rw [wi (n := p) (by omega) (by omega), wi (n := lb row (i + k1) + p) (by omega) (by omega), wi (by omega) (by omega)]
      repeat (any_goals (first
        | exact True.intro
        | (refine And.intro (fun _ => ?_) tf; conv => whnf)
        | (refine And.intro ft (fun _ => ?_); conv => whnf)
        | (refine And.intro (by kernel_rfl) ?_; conv => whnf)
        | (refine And.intro (by decide) ?_; conv => whnf)
        | (refine And.intro (fun _ => ?_) (fun h => absurd h (by decide)); conv => whnf)
        | (refine And.intro (fun h => absurd h (by decide)) (fun _ => ?_); conv => whnf)
        | (refine And.intro (fun _ => ?_) (fun _ => ?_) <;> conv => whnf)))
      all_goals try (refine Or.inl ?_; conv => whnf)
      repeat (any_goals (first
        | exact True.intro
        | (refine And.intro (fun _ => ?_) tf; conv => whnf)
        | (refine And.intro ft (fun _ => ?_); conv => whnf)
        | (refine And.intro (by kernel_rfl) ?_; conv => whnf)
        | (refine And.intro (by decide) ?_; conv => whnf)
        | (refine And.intro (fun _ => ?_) (fun h => absurd h (by decide)); conv => whnf)
        | (refine And.intro (fun h => absurd h (by decide)) (fun _ => ?_); conv => whnf)
        | (refine And.intro (fun _ => ?_) (fun _ => ?_) <;> conv => whnf)))
      all_goals try (exfalso; simp only [decide_eq_true_eq, decide_eq_false_iff_not, Bool.not_eq_true', Bool.not_eq_false', Bool.not_eq_true, Bool.not_eq_false, beq_iff_eq, bne_iff_ne, beq_eq_false_iff_ne, bne_eq_false_iff_eq, ne_eq, Decidable.not_not] at *; first | omega | contradiction | (simp_all; done) | (simp_all; omega))
      · all_goals try (refine Or.inl ?_; conv => whnf)
        repeat (any_goals (first
          | exact True.intro
          | (refine And.intro (fun _ => ?_) tf; conv => whnf)
          | (refine And.intro ft (fun _ => ?_); conv => whnf)
          | (refine And.intro (by kernel_rfl) ?_; conv => whnf)
          | (refine And.intro (by decide) ?_; conv => whnf)
          | (refine And.intro (fun _ => ?_) (fun h => absurd h (by decide)); conv => whnf)
          | (refine And.intro (fun h => absurd h (by decide)) (fun _ => ?_); conv => whnf)
          | (refine ⟨i + k1, hwi, by rw [List.length_map]; exact hix, ?_⟩; conv => whnf)
          | (refine ⟨_, map_get hro, ?_⟩; conv => whnf)
          | (refine ⟨i, _, rfl, map_get hxi, ?_⟩; conv => whnf)
          | (refine ⟨Nat.le_refl _, _, _, map_get hro, rfl, ?_⟩; conv => whnf)
          | (refine And.intro (fun _ => ?_) (fun _ => ?_) <;> conv => whnf)
          | (refine ⟨_, _, lim.pu rfl rfl, ?_⟩; conv => whnf)))
        have hin := I.next da db hix
        have hin0 := hin.c0
        have hin1 := hin.c1
        have hs0 : 0 ≤ c + (lb row (i + k1) + lb A i * lb B k1) := by omega
        refine ⟨(k1 + 1, (c + (lb row (i + k1) + lb A i * lb B k1)) / 65536, row.set (i + k1) ((c + (lb row (i + k1) + lb A i * lb B k1)) % 65536)), hin, show A.length + B.length + 1 - (i + (k1 + 1)) < A.length + B.length + 1 - (i + k1) by omega, ?_⟩
        all_goals refine ⟨[], ?_⟩
        repeat (any_goals (first | exact True.intro | exact rfl | with_reducible_and_instances rfl | exact (by kernel_rfl) | refine And.intro ?_ ?_))
        all_goals conv => whnf
        · exact wk1 (show k1 ≤ _ by omega)
        · show iA (IntKind.i64.wrap ((IntKind.i64.wrap (c + IntKind.i64.wrap (lb row (i + k1) + IntKind.i64.wrap (lb A i * (B[k1]?).getD 0)))).tdiv 65536)) = iA ((c + (lb row (i + k1) + lb A i * lb B k1)) / 65536)
          rw [stepw, Int.tdiv_eq_ediv_of_nonneg hs0, wi (by omega) (by omega)]
        · show AObj.sl 1 ((row.map lR).set (i + k1) [iD ((IntKind.i64.wrap (c + IntKind.i64.wrap (lb row (i + k1) + IntKind.i64.wrap (lb A i * (B[k1]?).getD 0)))).tmod 65536)]) = .sl 1 ((row.set (i + k1) ((c + (lb row (i + k1) + lb A i * lb B k1)) % 65536)).map lR)
          rw [stepw, Int.tmod_eq_emod_of_nonneg hs0, List.map_set]
      · all_goals try (refine Or.inl ?_; conv => whnf)
        repeat (any_goals (first
          | exact True.intro
          | (refine And.intro (fun _ => ?_) tf; conv => whnf)
          | (refine And.intro ft (fun _ => ?_); conv => whnf)
          | (refine And.intro (by kernel_rfl) ?_; conv => whnf)
          | (refine And.intro (by decide) ?_; conv => whnf)
          | (refine And.intro (fun _ => ?_) (fun h => absurd h (by decide)); conv => whnf)
          | (refine And.intro (fun h => absurd h (by decide)) (fun _ => ?_); conv => whnf)
          | (refine ⟨i + k1, hwi, by rw [List.length_map]; exact hix, ?_⟩; conv => whnf)
          | (refine ⟨_, map_get hro, ?_⟩; conv => whnf)
          | (refine ⟨i, _, rfl, map_get hxi, ?_⟩; conv => whnf)
          | (refine ⟨Nat.le_refl _, _, _, map_get hro, rfl, ?_⟩; conv => whnf)
          | (refine And.intro (fun _ => ?_) (fun _ => ?_) <;> conv => whnf)
          | (refine ⟨_, _, lim.pu rfl rfl, ?_⟩; conv => whnf)))
        have hin := I.next da db hix
        have hin0 := hin.c0
        have hin1 := hin.c1
        have hs0 : 0 ≤ c + (lb row (i + k1) + lb A i * lb B k1) := by omega
        refine ⟨(k1 + 1, (c + (lb row (i + k1) + lb A i * lb B k1)) / 65536, row.set (i + k1) ((c + (lb row (i + k1) + lb A i * lb B k1)) % 65536)), hin, show A.length + B.length + 1 - (i + (k1 + 1)) < A.length + B.length + 1 - (i + k1) by omega, ?_⟩
        all_goals refine ⟨[], ?_⟩
        repeat (any_goals (first | exact True.intro | exact rfl | with_reducible_and_instances rfl | exact (by kernel_rfl) | refine And.intro ?_ ?_))
        all_goals conv => whnf
        · exact wk1 (show k1 ≤ _ by omega)
        · show iA (IntKind.i64.wrap ((IntKind.i64.wrap (c + IntKind.i64.wrap (lb row (i + k1) + IntKind.i64.wrap (lb A i * (B[k1]?).getD 0)))).tdiv 65536)) = iA ((c + (lb row (i + k1) + lb A i * lb B k1)) / 65536)
          rw [stepw, Int.tdiv_eq_ediv_of_nonneg hs0, wi (by omega) (by omega)]
        · show AObj.sl 1 ((row.map lR).set (i + k1) [iD ((IntKind.i64.wrap (c + IntKind.i64.wrap (lb row (i + k1) + IntKind.i64.wrap (lb A i * (B[k1]?).getD 0)))).tmod 65536)]) = .sl 1 ((row.set (i + k1) ((c + (lb row (i + k1) + lb A i * lb B k1)) % 65536)).map lR)
          rw [stepw, Int.tmod_eq_emod_of_nonneg hs0, List.map_set]
    · repeat (any_goals (first
        | exact True.intro
        | (refine And.intro (fun _ => ?_) tf; conv => whnf)
        | (refine And.intro ft (fun _ => ?_); conv => whnf)
        | (refine And.intro (by kernel_rfl) ?_; conv => whnf)
        | (refine And.intro (by decide) ?_; conv => whnf)
        | (refine And.intro (fun _ => ?_) (fun h => absurd h (by decide)); conv => whnf)
        | (refine And.intro (fun h => absurd h (by decide)) (fun _ => ?_); conv => whnf)
        | (refine And.intro (fun _ => ?_) (fun _ => ?_) <;> conv => whnf)))
      all_goals try (refine Or.inl ?_; conv => whnf)
      repeat (any_goals (first
        | exact True.intro
        | (refine And.intro (fun _ => ?_) tf; conv => whnf)
        | (refine And.intro ft (fun _ => ?_); conv => whnf)
        | (refine And.intro (by kernel_rfl) ?_; conv => whnf)
        | (refine And.intro (by decide) ?_; conv => whnf)
        | (refine And.intro (fun _ => ?_) (fun h => absurd h (by decide)); conv => whnf)
        | (refine And.intro (fun h => absurd h (by decide)) (fun _ => ?_); conv => whnf)
        | (refine And.intro (fun _ => ?_) (fun _ => ?_) <;> conv => whnf)))
      all_goals try (exfalso; simp only [decide_eq_true_eq, decide_eq_false_iff_not, Bool.not_eq_true', Bool.not_eq_false', Bool.not_eq_true, Bool.not_eq_false, beq_iff_eq, bne_iff_ne, beq_eq_false_iff_ne, bne_eq_false_iff_eq, ne_eq, Decidable.not_not] at *; first | omega | contradiction | (simp_all; done) | (simp_all; omega))
      have hf := I.fin da (by omega) (by omega)
      refine ⟨(i + 1, row), ⟨hlt, hv1, I.dig, hf⟩, show A.length - (i + 1) < A.length - i by omega, ?_⟩
      all_goals refine ⟨[], ?_⟩
      repeat (any_goals (first | exact True.intro | exact rfl | with_reducible_and_instances rfl | exact (by kernel_rfl) | refine And.intro ?_ ?_))
      all_goals conv => whnf
      exact wk1 (by omega)
  · have hie : i = A.length := by omega
    subst hie
    rw [List.take_length] at hov
    have m1 := made_num (decide (x < 0) != decide (y < 0)) out hod (by omega)
    repeat (any_goals (first
      | exact True.intro
      | (refine And.intro (fun _ => ?_) tf; conv => whnf)
      | (refine And.intro ft (fun _ => ?_); conv => whnf)
      | (refine And.intro (by kernel_rfl) ?_; conv => whnf)
      | (refine And.intro (by decide) ?_; conv => whnf)
      | (refine And.intro (fun _ => ?_) (fun h => absurd h (by decide)); conv => whnf)
      | (refine And.intro (fun h => absurd h (by decide)) (fun _ => ?_); conv => whnf)
      | (refine And.intro (fun _ => ?_) (fun _ => ?_) <;> conv => whnf)))
    all_goals try (refine Or.inl ?_; conv => whnf)
    repeat (any_goals (first
      | exact True.intro
      | (refine And.intro (fun _ => ?_) tf; conv => whnf)
      | (refine And.intro ft (fun _ => ?_); conv => whnf)
      | (refine And.intro (by kernel_rfl) ?_; conv => whnf)
      | (refine And.intro (by decide) ?_; conv => whnf)
      | (refine And.intro (fun _ => ?_) (fun h => absurd h (by decide)); conv => whnf)
      | (refine And.intro (fun h => absurd h (by decide)) (fun _ => ?_); conv => whnf)
      | (refine And.intro (fun _ => ?_) (fun _ => ?_) <;> conv => whnf)))
    all_goals try (exfalso; simp only [decide_eq_true_eq, decide_eq_false_iff_not, Bool.not_eq_true', Bool.not_eq_false', Bool.not_eq_true, Bool.not_eq_false, beq_iff_eq, bne_iff_ne, beq_eq_false_iff_ne, bne_eq_false_iff_eq, ne_eq, Decidable.not_not] at *; first | omega | contradiction | (simp_all; done) | (simp_all; omega))
    have e : (if (decide (x < 0) != decide (y < 0)) = true then -((valL out : Nat) : Int) else ((valL out : Nat) : Int)) = x * y := by
      rw [hov, va, vb]
      push_cast
      have ax : (x.natAbs : Int) = if x < 0 then -x else x := by split <;> omega
      have ay : (y.natAbs : Int) = if y < 0 then -y else y := by split <;> omega
      rw [ax, ay]
      by_cases hx0 : x < 0 <;> by_cases hy0 : y < 0 <;> simp [hx0, hy0, Int.neg_mul, Int.mul_neg]
    rw [e] at m1
    repeat (any_goals (first
      | exact True.intro
      | (refine And.intro (fun _ => ?_) tf; conv => whnf)
      | (refine And.intro ft (fun _ => ?_); conv => whnf)
      | (refine And.intro (by kernel_rfl) ?_; conv => whnf)
      | (refine And.intro (by decide) ?_; conv => whnf)
      | (refine And.intro (fun _ => ?_) (fun h => absurd h (by decide)); conv => whnf)
      | (refine And.intro (fun h => absurd h (by decide)) (fun _ => ?_); conv => whnf)
      | (refine ⟨_, _, neB (by kernel_rfl), ?_⟩; conv => whnf)
      | (refine And.intro (fun _ => ?_) (fun _ => ?_) <;> conv => whnf)
      | (refine ⟨_, _, frz_b m1 rfl rfl, ?_⟩; conv => whnf)))
    all_goals refine ⟨[], ?_⟩
    repeat (any_goals (first | exact True.intro | exact rfl | with_reducible_and_instances rfl | exact (by kernel_rfl) | refine And.intro ?_ ?_))
    all_goals conv => whnf
end Go.Proofs.Ytgidaifoiljgoaa
/- Numbers of any length: Ratio, Total, Sum, Plus, Minus, Times. -/
namespace Go.Proofs.Ytgidaifoiljgoaa
set_option linter.unusedSimpArgs false
set_option linter.unusedVariables false
open Go.RowKit
set_option maxRecDepth 100000
theorem few_mono {j k : Nat} {z : Int} (h : few j z) (hk : j ≤ k) : few k z := Nat.lt_of_lt_of_le h (Nat.pow_le_pow_right (by omega) hk)
theorem few_mul {j k : Nat} {x y : Int} (hx : few j x) (hy : few k y) : few (j + k) (x * y) := by
  unfold few at *
  rw [Int.natAbs_mul, Nat.pow_add]
  exact Nat.mul_lt_mul'' hx hy
theorem divZ_abs (a c : Int) (up : Bool) (hc : 0 < c) : (divZ a c up).natAbs ≤ a.natAbs + 1 := by
  rw [← quoN_div a c up hc]
  have : quoN a.natAbs c.natAbs (up != decide (a < 0)) ≤ a.natAbs + 1 := by
    have := Nat.div_le_self a.natAbs c.natAbs
    unfold quoN
    split <;> omega
  split <;> omega
theorem few_div {k : Nat} {a c : Int} {up : Bool} (ha : few k a) (hc : 0 < c) : few (k + 1) (divZ a c up) := by
  have h := divZ_abs a c up hc
  have hp : (65536 : Nat) ^ (k + 1) = 65536 ^ k * 65536 := Nat.pow_succ ..
  unfold few at *
  omega
theorem toldZ_in {z : Int} (h : -9223372036854775808 ≤ z ∧ z ≤ 9223372036854775807) : toldZ z = (z, 0) := if_pos h
theorem ratio_num (a b c : Int) (up : Bool) (ha : -9223372036854775808 ≤ a ∧ a ≤ 9223372036854775807) (hb : -9223372036854775808 ≤ b ∧ b ≤ 9223372036854775807) (hc : 1 ≤ c ∧ c ≤ 9223372036854775807) :
    Sat Try.prog 96 [iA a, iA b, iA c, bA up] [] (.tup [iA (toldZ (divZ (a * b) c up)).1, iA (toldZ (divZ (a * b) c up)).2]) [] := by
  have fm := few_mul (few_i64 ha) (few_i64 hb)
  have fd := few_div (up := up) fm (show 0 < c by omega)
  have mu := mul_num (by omega) (few_i64 ha) (few_i64 hb)
  have di := div_num (k := 8) (a * b) c up (by omega) fm (few_mono (few_i64 (z := c) (by omega)) (by omega)) (by omega)
  have tz := told_num (divZ (a * b) c up) (by have := few_len fd; omega)
  have oa := of_num a ha
  have ob := of_num b hb
  have oc := of_num c (by omega)
  refine sat_of_vc (T := tiOf Try.prog) (E := E0) Try.func96 rfl rfl hE0 hm0 rfl ?_
  conv => whnf
  repeat (any_goals (first
    | exact True.intro
    | (refine Or.inl ?_; conv => whnf)
    | (refine And.intro (fun _ => ?_) tf; conv => whnf)
    | (refine And.intro ft (fun _ => ?_); conv => whnf)
    | (refine And.intro (by kernel_rfl) ?_; conv => whnf)
    | (refine And.intro (by decide) ?_; conv => whnf)
    | (refine And.intro (fun _ => ?_) (fun h => absurd h (by decide)); conv => whnf)
    | (refine And.intro (fun h => absurd h (by decide)) (fun _ => ?_); conv => whnf)
    | (refine And.intro (fun _ => ?_) (fun _ => ?_) <;> conv => whnf)
    | (refine ⟨_, _, oa.pu rfl rfl, ?_⟩; conv => whnf)
    | (refine ⟨_, _, ob.pu rfl rfl, ?_⟩; conv => whnf)
    | (refine ⟨_, _, oc.pu rfl rfl, ?_⟩; conv => whnf)
    | (refine ⟨_, _, mu.pu rfl rfl, ?_⟩; conv => whnf)
    | (refine ⟨_, _, di.pu rfl rfl, ?_⟩; conv => whnf)
    | (refine ⟨_, _, tz.pu rfl rfl, ?_⟩; conv => whnf)))
  all_goals try (exfalso; simp only [decide_eq_true_eq, decide_eq_false_iff_not, Bool.not_eq_true', Bool.not_eq_false', Bool.not_eq_true, Bool.not_eq_false, beq_iff_eq, bne_iff_ne, beq_eq_false_iff_ne, bne_eq_false_iff_eq, ne_eq, Decidable.not_not] at *; first | omega | contradiction | (simp_all; done) | (simp_all; omega))
  all_goals refine ⟨[], ?_⟩
  repeat (any_goals (first | exact True.intro | exact rfl | with_reducible_and_instances rfl | exact (by kernel_rfl) | refine And.intro ?_ ?_))
  all_goals conv => whnf
end Go.Proofs.Ytgidaifoiljgoaa
/- The document's drift: Low and High. -/
namespace Go.Proofs.Ytgidaifoiljgoaa
set_option linter.unusedSimpArgs false
set_option linter.unusedVariables false
open Go.RowKit
set_option maxRecDepth 100000
theorem refRate_sat (r : Int) : Sat Try.prog 43 [iA r] [] (bA (okRate r)) [] := by
  by_cases h : 0 ≤ r ∧ r ≤ 100000
  · rw [show okRate r = true from decide_eq_true h]
    refine sat_of_vc (T := tiOf Try.prog) (E := E0) Try.func43 rfl rfl hE0 hm0 rfl ?_
    conv => whnf
    repeat (any_goals (first
      | exact True.intro
      | (refine Or.inl ?_; conv => whnf)
      | (refine And.intro (fun _ => ?_) tf; conv => whnf)
      | (refine And.intro ft (fun _ => ?_); conv => whnf)
      | (refine And.intro (by kernel_rfl) ?_; conv => whnf)
      | (refine And.intro (by decide) ?_; conv => whnf)
      | (refine And.intro (fun _ => ?_) (fun h => absurd h (by decide)); conv => whnf)
      | (refine And.intro (fun h => absurd h (by decide)) (fun _ => ?_); conv => whnf)
      | (refine And.intro (fun _ => ?_) (fun _ => ?_) <;> conv => whnf)))
    all_goals try (exfalso; simp only [decide_eq_true_eq, decide_eq_false_iff_not, Bool.not_eq_true', Bool.not_eq_false', Bool.not_eq_true, Bool.not_eq_false, beq_iff_eq, bne_iff_ne, beq_eq_false_iff_ne, bne_eq_false_iff_eq, ne_eq, Decidable.not_not] at *; first | omega | contradiction | (simp_all; done) | (simp_all; omega))
    all_goals refine ⟨[], ?_⟩
    repeat (any_goals (first | exact True.intro | exact rfl | with_reducible_and_instances rfl | exact (by kernel_rfl) | refine And.intro ?_ ?_))
    all_goals conv => whnf
    rw [decide_eq_true h.2]
  · rw [show okRate r = false from decide_eq_false h]
    refine sat_of_vc (T := tiOf Try.prog) (E := E0) Try.func43 rfl rfl hE0 hm0 rfl ?_
    conv => whnf
    repeat (any_goals (first
      | exact True.intro
      | (refine Or.inl ?_; conv => whnf)
      | (refine And.intro (fun _ => ?_) tf; conv => whnf)
      | (refine And.intro ft (fun _ => ?_); conv => whnf)
      | (refine And.intro (by kernel_rfl) ?_; conv => whnf)
      | (refine And.intro (by decide) ?_; conv => whnf)
      | (refine And.intro (fun _ => ?_) (fun h => absurd h (by decide)); conv => whnf)
      | (refine And.intro (fun h => absurd h (by decide)) (fun _ => ?_); conv => whnf)
      | (refine And.intro (fun _ => ?_) (fun _ => ?_) <;> conv => whnf)))
    · all_goals refine ⟨[], ?_⟩
      repeat (any_goals (first | exact True.intro | exact rfl | with_reducible_and_instances rfl | exact (by kernel_rfl) | refine And.intro ?_ ?_))
      all_goals conv => whnf
      have := of_decide_eq_true ‹decide (r ≥ 0) = true›
      rw [decide_eq_false (by omega)]
    · all_goals refine ⟨[], ?_⟩
      repeat (any_goals (first | exact True.intro | exact rfl | with_reducible_and_instances rfl | exact (by kernel_rfl) | refine And.intro ?_ ?_))
      all_goals conv => whnf
theorem refFar_sat (x : Int) : Sat Try.prog 95 [iA x] [] (bA (!nearX x)) [] := by
  by_cases h : -4611686018427387904 ≤ x ∧ x ≤ 4611686018427387904
  · rw [show (!nearX x) = false from by rw [show nearX x = true from decide_eq_true h]; rfl]
    refine sat_of_vc (T := tiOf Try.prog) (E := E0) Try.func95 rfl rfl hE0 hm0 rfl ?_
    conv => whnf
    repeat (any_goals (first
      | exact True.intro
      | (refine Or.inl ?_; conv => whnf)
      | (refine And.intro (fun _ => ?_) tf; conv => whnf)
      | (refine And.intro ft (fun _ => ?_); conv => whnf)
      | (refine And.intro (by kernel_rfl) ?_; conv => whnf)
      | (refine And.intro (by decide) ?_; conv => whnf)
      | (refine And.intro (fun _ => ?_) (fun h => absurd h (by decide)); conv => whnf)
      | (refine And.intro (fun h => absurd h (by decide)) (fun _ => ?_); conv => whnf)
      | (refine And.intro (fun _ => ?_) (fun _ => ?_) <;> conv => whnf)))
    all_goals try (exfalso; simp only [decide_eq_true_eq, decide_eq_false_iff_not, Bool.not_eq_true', Bool.not_eq_false', Bool.not_eq_true, Bool.not_eq_false, beq_iff_eq, bne_iff_ne, beq_eq_false_iff_ne, bne_eq_false_iff_eq, ne_eq, Decidable.not_not] at *; first | omega | contradiction | (simp_all; done) | (simp_all; omega))
    all_goals refine ⟨[], ?_⟩
    repeat (any_goals (first | exact True.intro | exact rfl | with_reducible_and_instances rfl | exact (by kernel_rfl) | refine And.intro ?_ ?_))
    all_goals conv => whnf
    try rw [decide_eq_false (by omega)]
  · rw [show (!nearX x) = true from by rw [show nearX x = false from decide_eq_false h]; rfl]
    refine sat_of_vc (T := tiOf Try.prog) (E := E0) Try.func95 rfl rfl hE0 hm0 rfl ?_
    conv => whnf
    repeat (any_goals (first
      | exact True.intro
      | (refine Or.inl ?_; conv => whnf)
      | (refine And.intro (fun _ => ?_) tf; conv => whnf)
      | (refine And.intro ft (fun _ => ?_); conv => whnf)
      | (refine And.intro (by kernel_rfl) ?_; conv => whnf)
      | (refine And.intro (by decide) ?_; conv => whnf)
      | (refine And.intro (fun _ => ?_) (fun h => absurd h (by decide)); conv => whnf)
      | (refine And.intro (fun h => absurd h (by decide)) (fun _ => ?_); conv => whnf)
      | (refine And.intro (fun _ => ?_) (fun _ => ?_) <;> conv => whnf)))
    · all_goals refine ⟨[], ?_⟩
      repeat (any_goals (first | exact True.intro | exact rfl | with_reducible_and_instances rfl | exact (by kernel_rfl) | refine And.intro ?_ ?_))
      all_goals conv => whnf
      have := of_decide_eq_false ‹decide (x < -4611686018427387904) = false›
      rw [decide_eq_true (by omega)]
    · all_goals refine ⟨[], ?_⟩
      repeat (any_goals (first | exact True.intro | exact rfl | with_reducible_and_instances rfl | exact (by kernel_rfl) | refine And.intro ?_ ?_))
      all_goals conv => whnf
theorem ratN_div (a b c : Int) (up : Bool) (ha : 0 ≤ a) (hb : 0 ≤ b) (hc : 0 < c) : (ratN a.toNat b.toNat c.toNat up : Int) = divZ (a * b) c up := by
  obtain ⟨A, rfl⟩ := Int.eq_ofNat_of_zero_le ha
  obtain ⟨B, rfl⟩ := Int.eq_ofNat_of_zero_le hb
  obtain ⟨C, rfl⟩ := Int.eq_ofNat_of_zero_le (Int.le_of_lt hc)
  have hC : 0 < C := by omega
  simp only [Int.toNat_natCast]
  have hu := nat_up (A * B) C hC
  have e : ((A : Int) * (B : Int)) = ((A * B : Nat) : Int) := by push_cast; rfl
  rw [e]
  unfold ratN divZ
  generalize A * B = M at *
  cases up with
  | false => rw [if_neg (fun h => Bool.noConfusion h.1), if_neg (by simp)]; exact Int.natCast_ediv M C
  | true =>
    rw [if_pos rfl, hu]
    by_cases h : 0 < M % C
    · rw [if_pos ⟨rfl, by omega⟩, if_pos h, Int.neg_neg]
    · rw [if_neg (fun q => q.2 (by omega)), if_neg h, Int.neg_neg]
theorem refLow_sat (x r : Int) (hx : nearX x = true) (hr : okRate r = true) : Sat Try.prog 71 [iA x, iA r] [] (.tup [iA (lowZ x r), iA 0]) [] := by
  have lb := lowZ_bounds x r hx hr
  have hx' := of_decide_eq_true hx
  have hr' := of_decide_eq_true hr
  have fa := refFar_sat x
  have ra := refRate_sat r
  rw [hx] at fa
  rw [hr] at ra
  by_cases h0 : 0 < x
  · have e1 : IntKind.i64.wrap (x - 1) = x - 1 := wi (by omega) (by omega)
    have e2 : IntKind.i64.wrap (1000000 + r) = 1000000 + r := wi (by omega) (by omega)
    have hlz : lowZ x r = max 1 (divZ ((x - 1) * 1000000) (1000000 + r) true) := by
      unfold lowZ
      rw [if_pos h0, ← ratN_div (x - 1) 1000000 (1000000 + r) true (by omega) (by omega) (by omega)]; rfl
    have hb2 : -9223372036854775808 ≤ divZ ((x - 1) * 1000000) (1000000 + r) true ∧ divZ ((x - 1) * 1000000) (1000000 + r) true ≤ 9223372036854775807 := by
      have : 0 ≤ divZ ((x - 1) * 1000000) (1000000 + r) true := by rw [← ratN_div (x - 1) 1000000 (1000000 + r) true (by omega) (by omega) (by omega)]; omega
      omega
    have rt := ratio_num (x - 1) 1000000 (1000000 + r) true (by omega) (by omega) (by omega)
    rw [toldZ_in hb2] at rt
    refine sat_of_vc (T := tiOf Try.prog) (E := E0) Try.func71 rfl rfl hE0 hm0 rfl ?_
    conv => whnf
    repeat (any_goals (first
      | exact True.intro
      | (refine Or.inl ?_; conv => whnf)
      | (refine And.intro (fun _ => ?_) tf; conv => whnf)
      | (refine And.intro ft (fun _ => ?_); conv => whnf)
      | (refine And.intro (by kernel_rfl) ?_; conv => whnf)
      | (refine And.intro (by decide) ?_; conv => whnf)
      | (refine And.intro (fun _ => ?_) (fun h => absurd h (by decide)); conv => whnf)
      | (refine And.intro (fun h => absurd h (by decide)) (fun _ => ?_); conv => whnf)
      | (rw [e1, e2]; conv => whnf)
      | (refine And.intro (fun _ => ?_) (fun _ => ?_) <;> conv => whnf)
      | (refine ⟨_, _, fa.pu rfl rfl, ?_⟩; conv => whnf)
      | (refine ⟨_, _, ra.pu rfl rfl, ?_⟩; conv => whnf)
      | (refine ⟨_, _, rt.pu rfl rfl, ?_⟩; conv => whnf)))
    all_goals try (exfalso; simp only [decide_eq_true_eq, decide_eq_false_iff_not, Bool.not_eq_true', Bool.not_eq_false', Bool.not_eq_true, Bool.not_eq_false, beq_iff_eq, bne_iff_ne, beq_eq_false_iff_ne, bne_eq_false_iff_eq, ne_eq, Decidable.not_not] at *; first | omega | contradiction | (simp_all; done) | (simp_all; omega))
    all_goals refine ⟨[], ?_⟩
    repeat (any_goals (first | exact True.intro | exact rfl | with_reducible_and_instances rfl | exact (by kernel_rfl) | refine And.intro ?_ ?_))
    all_goals conv => whnf
    refine congrArg iA ?_
    rw [hlz]
    split <;> omega
  · have e1 : IntKind.i64.wrap (1 - x) = 1 - x := wi (by omega) (by omega)
    have e2 : IntKind.i64.wrap (1000000 - r) = 1000000 - r := wi (by omega) (by omega)
    have hlz : lowZ x r = -(divZ ((1 - x) * 1000000) (1000000 - r) false) := by
      unfold lowZ
      rw [if_neg h0, ← ratN_div (1 - x) 1000000 (1000000 - r) false (by omega) (by omega) (by omega)]; rfl
    have rt := ratio_num (1 - x) 1000000 (1000000 - r) false (by omega) (by omega) (by omega)
    rw [toldZ_in (by omega)] at rt
    refine sat_of_vc (T := tiOf Try.prog) (E := E0) Try.func71 rfl rfl hE0 hm0 rfl ?_
    conv => whnf
    repeat (any_goals (first
      | exact True.intro
      | (refine Or.inl ?_; conv => whnf)
      | (refine And.intro (fun _ => ?_) tf; conv => whnf)
      | (refine And.intro ft (fun _ => ?_); conv => whnf)
      | (refine And.intro (by kernel_rfl) ?_; conv => whnf)
      | (refine And.intro (by decide) ?_; conv => whnf)
      | (refine And.intro (fun _ => ?_) (fun h => absurd h (by decide)); conv => whnf)
      | (refine And.intro (fun h => absurd h (by decide)) (fun _ => ?_); conv => whnf)
      | (rw [e1, e2]; conv => whnf)
      | (refine And.intro (fun _ => ?_) (fun _ => ?_) <;> conv => whnf)
      | (refine ⟨_, _, fa.pu rfl rfl, ?_⟩; conv => whnf)
      | (refine ⟨_, _, ra.pu rfl rfl, ?_⟩; conv => whnf)
      | (refine ⟨_, _, rt.pu rfl rfl, ?_⟩; conv => whnf)))
    all_goals try (exfalso; simp only [decide_eq_true_eq, decide_eq_false_iff_not, Bool.not_eq_true', Bool.not_eq_false', Bool.not_eq_true, Bool.not_eq_false, beq_iff_eq, bne_iff_ne, beq_eq_false_iff_ne, bne_eq_false_iff_eq, ne_eq, Decidable.not_not] at *; first | omega | contradiction | (simp_all; done) | (simp_all; omega))
    all_goals refine ⟨[], ?_⟩
    repeat (any_goals (first | exact True.intro | exact rfl | with_reducible_and_instances rfl | exact (by kernel_rfl) | refine And.intro ?_ ?_))
    all_goals conv => whnf
    refine congrArg iA ?_
    rw [hlz, wi (by omega) (by omega)]
    omega
theorem refHigh_sat (x r : Int) (hx : nearX x = true) (hr : okRate r = true) : Sat Try.prog 72 [iA x, iA r] [] (.tup [iA (highZ x r), iA 0]) [] := by
  have hx' := of_decide_eq_true hx
  have hx2 : nearX (-x) = true := decide_eq_true (by omega)
  have e1 : IntKind.i64.wrap (0 - x) = -x := by rw [wi (by omega) (by omega)]; omega
  have lb := lowZ_bounds (-x) r hx2 hr
  have fa := refFar_sat x
  have lo := refLow_sat (-x) r hx2 hr
  rw [hx] at fa
  refine sat_of_vc (T := tiOf Try.prog) (E := E0) Try.func72 rfl rfl hE0 hm0 rfl ?_
  conv => whnf
  repeat (any_goals (first
    | exact True.intro
    | (refine Or.inl ?_; conv => whnf)
    | (refine And.intro (fun _ => ?_) tf; conv => whnf)
    | (refine And.intro ft (fun _ => ?_); conv => whnf)
    | (refine And.intro (by kernel_rfl) ?_; conv => whnf)
    | (refine And.intro (by decide) ?_; conv => whnf)
    | (refine And.intro (fun _ => ?_) (fun h => absurd h (by decide)); conv => whnf)
    | (refine And.intro (fun h => absurd h (by decide)) (fun _ => ?_); conv => whnf)
    | (rw [e1]; conv => whnf)
    | (refine And.intro (fun _ => ?_) (fun _ => ?_) <;> conv => whnf)
    | (refine ⟨_, _, fa.pu rfl rfl, ?_⟩; conv => whnf)
    | (refine ⟨_, _, lo.pu rfl rfl, ?_⟩; conv => whnf)))
  all_goals try (exfalso; simp only [decide_eq_true_eq, decide_eq_false_iff_not, Bool.not_eq_true', Bool.not_eq_false', Bool.not_eq_true, Bool.not_eq_false, beq_iff_eq, bne_iff_ne, beq_eq_false_iff_ne, bne_eq_false_iff_eq, ne_eq, Decidable.not_not] at *; first | omega | contradiction | (simp_all; done) | (simp_all; omega))
  all_goals refine ⟨[], ?_⟩
  repeat (any_goals (first | exact True.intro | exact rfl | with_reducible_and_instances rfl | exact (by kernel_rfl) | refine And.intro ?_ ?_))
  all_goals conv => whnf
  refine congrArg iA ?_
  unfold highZ
  rw [wi (by omega) (by omega)]
  omega
end Go.Proofs.Ytgidaifoiljgoaa
