/- Parts Rj, Rk, Rl0, Hd, Hs, HistI of the proof, put together. -/
import Derived.Test.YtbjmdnemeidpjaaGreatM7
import Derived.ChangeKeysEq
/- Numbers of any length: Div. -/
namespace Go.Proofs.YtbjmdnemeidpjaaGreat
set_option linter.unusedSimpArgs false
set_option linter.unusedVariables false
open Go.RowKit
set_option maxRecDepth 100000
/-- A whole number divided, down or up. -/
def quoN (A C : Nat) (up : Bool) : Nat := if 0 < A % C ∧ up = true then A / C + 1 else A / C
/-- Bit by bit. -/
theorem bit_down (A n : Nat) : A / 2 ^ n = 2 * (A / 2 ^ (n + 1)) + (A / 2 ^ n) % 2 := by
  rw [Nat.pow_succ, ← Nat.div_div_eq_div_mul]
  omega
theorem div_step (A C : Nat) (hC : 0 < C) (n : Nat) :
    let q := A / 2 ^ (n + 1) / C
    let r := A / 2 ^ (n + 1) % C
    let s := 2 * r + (A / 2 ^ n) % 2
    (C ≤ s → A / 2 ^ n / C = 2 * q + 1 ∧ A / 2 ^ n % C = s - C) ∧ (s < C → A / 2 ^ n / C = 2 * q ∧ A / 2 ^ n % C = s) := by
  intro q r s
  have h1 : C * q + r = A / 2 ^ (n + 1) := Nat.div_add_mod (A / 2 ^ (n + 1)) C
  have h2 : r < C := Nat.mod_lt (A / 2 ^ (n + 1)) hC
  have hb := bit_down A n
  have hsd : s = 2 * r + (A / 2 ^ n) % 2 := rfl
  have hs : A / 2 ^ n = C * (2 * q) + s := by
    have : C * (2 * q) = 2 * (C * q) := by rw [← Nat.mul_assoc, Nat.mul_comm C 2, Nat.mul_assoc]
    omega
  constructor
  · intro h
    have e : A / 2 ^ n = (s - C) + C * (2 * q + 1) := by rw [hs, Nat.mul_add, Nat.mul_one]; omega
    rw [e, Nat.add_mul_div_left _ _ hC, Nat.add_mul_mod_self_left, Nat.div_eq_of_lt (by omega), Nat.mod_eq_of_lt (by omega)]
    omega
  · intro h
    have e : A / 2 ^ n = s + C * (2 * q) := by rw [hs]; omega
    rw [e, Nat.add_mul_div_left _ _ hC, Nat.add_mul_mod_self_left, Nat.div_eq_of_lt h, Nat.mod_eq_of_lt h]
    omega
theorem top0 (A : Nat) : A / 2 ^ (16 * (canL A).length) = 0 := by
  have h := (valL_take (canL A) (canL A).length (canL_dig A)).2
  rw [List.take_length, canL_val] at h
  refine Nat.div_eq_of_lt ?_
  rw [Nat.pow_mul]
  exact h
theorem bit_tmod (A n : Nat) : (((A / 65536 ^ (n / 16) % 65536 : Nat) : Int).fdiv (2 ^ (n % 16))).tmod 2 = ((A / 2 ^ n % 2 : Nat) : Int) := by
  have e : (2 : Int) ^ (n % 16) = ((2 ^ (n % 16) : Nat) : Int) := by simp
  rw [← bit_of, Int.fdiv_eq_ediv_of_nonneg _ (Int.le_of_lt (Int.pow_pos (by omega))), e]
  generalize A / 65536 ^ (n / 16) % 65536 = X
  rw [← Int.natCast_ediv, Int.tmod_eq_emod_of_nonneg (Int.natCast_nonneg _)]
  omega
theorem cmpN_ge {m n : Nat} : cmpN m n ≥ 0 ↔ n ≤ m := by
  unfold cmpN
  constructor
  · intro h
    split at h
    · omega
    · split at h <;> omega
  · intro h
    split
    · decide
    · rw [if_neg (by omega)]; decide
/-- Divided, down or up. -/
def divZ (a c : Int) (up : Bool) : Int := if up = true then -((-a) / c) else a / c
theorem nat_up (A C : Nat) (hC : 0 < C) : (-(A : Int)) / (C : Int) = -((if 0 < A % C then A / C + 1 else A / C : Nat) : Int) := by
  have h := Nat.div_add_mod A C
  have hm := Nat.mod_lt A hC
  split
  · have e : (-(A : Int)) = (C - (A % C : Nat) : Int) + C * (-((A / C : Nat) : Int) - 1) := by
      have : (A : Int) = C * ((A / C : Nat) : Int) + ((A % C : Nat) : Int) := by exact_mod_cast h.symm
      rw [Int.mul_sub, Int.mul_one, Int.mul_neg]
      omega
    rw [e, Int.add_mul_ediv_left _ _ (by omega), Int.ediv_eq_zero_of_lt (by omega) (by omega)]
    push_cast
    omega
  · have e : (-(A : Int)) = C * (-((A / C : Nat) : Int)) := by
      have : (A : Int) = C * ((A / C : Nat) : Int) + ((A % C : Nat) : Int) := by exact_mod_cast h.symm
      rw [Int.mul_neg]
      omega
    rw [e, Int.mul_ediv_cancel_left _ (by omega)]
theorem quoN_div (a c : Int) (up : Bool) (hc : 0 < c) : (if a < 0 then -(quoN a.natAbs c.natAbs (up != decide (a < 0)) : Int) else quoN a.natAbs c.natAbs (up != decide (a < 0))) = divZ a c up := by
  have hC : 0 < c.natAbs := by omega
  have hcc : (c.natAbs : Int) = c := by omega
  have hu := nat_up a.natAbs c.natAbs hC
  rw [hcc] at hu
  have d1 : divZ a c true = -((-a) / c) := rfl
  have d0 : divZ a c false = a / c := rfl
  have q0 : quoN a.natAbs c.natAbs false = a.natAbs / c.natAbs := by unfold quoN; rw [if_neg (fun q => Bool.noConfusion q.2)]
  have q1 : quoN a.natAbs c.natAbs true = if 0 < a.natAbs % c.natAbs then a.natAbs / c.natAbs + 1 else a.natAbs / c.natAbs := by
    unfold quoN
    by_cases hp : 0 < a.natAbs % c.natAbs
    · rw [if_pos hp, if_pos ⟨hp, rfl⟩]
    · rw [if_neg hp, if_neg (fun q => hp q.1)]
  rw [← q1] at hu
  by_cases h : a < 0
  · rw [if_pos h, decide_eq_true h]
    have e : -(a.natAbs : Int) = a := by omega
    have e' : (a.natAbs : Int) = -a := by omega
    cases up with
    | true =>
      rw [show (true != true) = false from rfl, q0, d1, Int.natCast_ediv, hcc, e']
    | false =>
      rw [show (false != true) = true from rfl, d0, ← hu, e]
  · rw [if_neg h, decide_eq_false h]
    have e : (a.natAbs : Int) = a := by omega
    cases up with
    | true =>
      rw [show (true != false) = true from rfl, d1]
      rw [e] at hu
      rw [hu, Int.neg_neg]
    | false =>
      rw [show (false != false) = false from rfl, q0, d0, Int.natCast_ediv, hcc, e]
theorem div_num {k : Nat} (a c : Int) (up : Bool) (hk : k ≤ 1000) (ha : few k a) (hc : few k c) (hc0 : 0 < c) : Sat Tryz.prog 87 [.d (numD a), .d (numD c), bA up] [] (.d (numD (divZ a c up))) [] := by
  have hC : 0 < c.natAbs := by omega
  have la := few_len ha
  refine sat_of_vc (T := tiOf Tryz.prog) (E := E0) Tryz.func87 rfl rfl hE0 hm0 rfl ?_
  conv => whnf
  repeat' (first | exact True.intro | ((first | refine And.intro (fun _ => ?_) tf | refine And.intro ft (fun _ => ?_) | refine And.intro (by kernel_rfl) ?_ | refine And.intro (by decide) ?_ | refine And.intro (fun _ => ?_) (fun h => absurd h (by decide)) | refine And.intro (fun h => absurd h (by decide)) (fun _ => ?_) | fail); conv => whnf) | (refine And.intro (fun _ => ?_) (fun _ => ?_) <;> conv => whnf) | fail)
  all_goals try (refine Or.inl ?_; conv => whnf)
  repeat' (first | exact True.intro | ((first | refine And.intro (fun _ => ?_) tf | refine And.intro ft (fun _ => ?_) | refine And.intro (by kernel_rfl) ?_ | refine And.intro (by decide) ?_ | refine And.intro (fun _ => ?_) (fun h => absurd h (by decide)) | refine And.intro (fun h => absurd h (by decide)) (fun _ => ?_) | fail); conv => whnf) | (refine And.intro (fun _ => ?_) (fun _ => ?_) <;> conv => whnf) | fail)
  all_goals try (refine Or.inl ?_; conv => whnf)
  repeat' (first | exact True.intro | ((first | refine And.intro (fun _ => ?_) tf | refine And.intro ft (fun _ => ?_) | refine And.intro (by kernel_rfl) ?_ | refine And.intro (by decide) ?_ | refine And.intro (fun _ => ?_) (fun h => absurd h (by decide)) | refine And.intro (fun h => absurd h (by decide)) (fun _ => ?_) | fail); conv => whnf) | (refine And.intro (fun _ => ?_) (fun _ => ?_) <;> conv => whnf) | fail)
  refine ⟨Nat, fun n => n ≤ 16 * (canL a.natAbs).length, fun n => ([(9, iA ((n : Int) - 1)), (8, .d (lD (canL (a.natAbs / 2 ^ n % c.natAbs)))), (7, .d (lD (canL (a.natAbs / 2 ^ n / c.natAbs)))), (3, .ptr 0 0), (4, .ptr 1 0), (6, .ptr 2 0), (2, bA up)], [.cells [bA (decide (a < 0)), .d (lD (canL a.natAbs))], .cells [bA (decide (c < 0)), .d (lD (canL c.natAbs))], .cells [bA false, .d (.v (.slice none 0 0))]]), fun n => n, ⟨16 * (canL a.natAbs).length, Nat.le_refl _, ?_⟩, ?_⟩
  · have ht : a.natAbs / 2 ^ (16 * (canL a.natAbs).length) = 0 := top0 _
    all_goals refine ⟨[], ?_⟩
    repeat (any_goals (first | exact True.intro | exact rfl | with_reducible_and_instances rfl | exact (by kernel_rfl) | refine And.intro ?_ ?_))
    all_goals conv => whnf
    · rw [List.length_map, wi (n := 16 * ((canL a.natAbs).length : Int)) (by omega) (by omega), wi (by omega) (by omega), Int.natCast_mul]; rfl
    · rw [ht, Nat.zero_mod, canL_zero]; rfl
    · rw [ht, Nat.zero_div, canL_zero]; rfl
  intro n hn
  conv => whnf
  cases n with
  | zero =>
    have h0 : a.natAbs / 2 ^ 0 = a.natAbs := by rw [Nat.pow_zero, Nat.div_one]
    have hq : a.natAbs / c.natAbs < 65536 ^ k := Nat.lt_of_le_of_lt (Nat.div_le_self _ _) ha
    have lq := canL_short k _ hq
    have p5 := plus_num (canL (a.natAbs / 2 ^ 0 / c.natAbs)) [1] (canL_dig _) (fun d hd => by simp at hd; omega) (by rw [h0]; omega) (by simp)
    rw [canL_val, show valL [1] = 1 by rfl] at p5
    have hl : ((canL (a.natAbs / 2 ^ 0 % c.natAbs)).map lR).length = (canL (a.natAbs % c.natAbs)).length := by rw [List.length_map, h0]
    have hz : 0 < (canL (a.natAbs % c.natAbs)).length ↔ 0 < a.natAbs % c.natAbs := by
      have := canL_len (a.natAbs % c.natAbs)
      rw [decide_eq_decide] at this
      omega
    have lq2 : (canL (quoN a.natAbs c.natAbs (up != decide (a < 0)))).length ≤ k + 1 := canL_short (k + 1) _ (by
      have hpow : (65536 : Nat) ^ (k + 1) = 65536 ^ k * 65536 := Nat.pow_succ ..
      have hp0 : 0 < (65536 : Nat) ^ k := Nat.pow_pos (by omega)
      have : quoN a.natAbs c.natAbs (up != decide (a < 0)) ≤ a.natAbs / c.natAbs + 1 := by unfold quoN; split <;> omega
      omega)
    have m1 := made_num (decide (a < 0)) (canL (quoN a.natAbs c.natAbs (up != decide (a < 0)))) (canL_dig _) (by omega)
    rw [canL_val] at m1
    simp only [decide_eq_true_eq] at m1
    rw [quoN_div _ _ _ hc0] at m1
    repeat' (first | exact True.intro | ((first | refine And.intro (fun _ => ?_) tf | refine And.intro ft (fun _ => ?_) | refine And.intro (by kernel_rfl) ?_ | refine And.intro (by decide) ?_ | refine And.intro (fun _ => ?_) (fun h => absurd h (by decide)) | refine And.intro (fun h => absurd h (by decide)) (fun _ => ?_) | fail); conv => whnf) | (refine And.intro (fun _ => ?_) (fun _ => ?_) <;> conv => whnf) | fail)
    all_goals try (refine Or.inl ?_; conv => whnf)
    repeat' (first | exact True.intro | ((first | refine And.intro (fun _ => ?_) tf | refine And.intro ft (fun _ => ?_) | refine And.intro (by kernel_rfl) ?_ | refine And.intro (by decide) ?_ | refine And.intro (fun _ => ?_) (fun h => absurd h (by decide)) | refine And.intro (fun h => absurd h (by decide)) (fun _ => ?_) | fail); conv => whnf) | (refine And.intro (fun _ => ?_) (fun _ => ?_) <;> conv => whnf) | fail)
    refine Or.inr ⟨Unit, fun _ => True, fun _ => ([(7, .d (lD (canL (quoN a.natAbs c.natAbs (up != decide (a < 0)))))), (3, .ptr 0 0), (4, .ptr 1 0), (6, .ptr 2 0)], [.cells [bA (decide (a < 0)), .d (lD (canL a.natAbs))], .cells [bA (decide (c < 0)), .d (lD (canL c.natAbs))], .cells [bA false, .d (.v (.slice none 0 0))]]), ?_, fun _ _ => ?_⟩
    · repeat' (first | exact True.intro | ((first | refine ⟨_, _, neB (by kernel_rfl), ?_⟩ | refine And.intro (fun _ => ?_) tf | refine And.intro ft (fun _ => ?_) | refine And.intro (by kernel_rfl) ?_ | refine And.intro (by decide) ?_ | refine And.intro (fun _ => ?_) (fun h => absurd h (by decide)) | refine And.intro (fun h => absurd h (by decide)) (fun _ => ?_) | refine ⟨_, _, frz_b p5 rfl rfl, ?_⟩ | fail); conv => whnf) | (refine And.intro (fun _ => ?_) (fun _ => ?_) <;> conv => whnf) | fail)
      · have h1 := of_decide_eq_true ‹decide ((_ : Int) > 0) = true›
        have hup := ‹(up != decide (a < 0)) = true›
        refine ⟨(), trivial, ?_⟩
        all_goals refine ⟨[], ?_⟩
        repeat (any_goals (first | exact True.intro | exact rfl | with_reducible_and_instances rfl | exact (by kernel_rfl) | refine And.intro ?_ ?_))
        all_goals conv => whnf
        rw [h0]
        unfold quoN
        rw [if_pos ⟨hz.1 (by rw [← hl]; omega), hup⟩]
      · have hup := ‹(up != decide (a < 0)) = false›
        refine ⟨(), trivial, ?_⟩
        all_goals refine ⟨[], ?_⟩
        repeat (any_goals (first | exact True.intro | exact rfl | with_reducible_and_instances rfl | exact (by kernel_rfl) | refine And.intro ?_ ?_))
        all_goals conv => whnf
        rw [h0]
        unfold quoN
        rw [if_neg (by rw [hup]; simp)]
      · have h1 := of_decide_eq_false ‹decide ((_ : Int) > 0) = false›
        refine ⟨(), trivial, ?_⟩
        all_goals refine ⟨[], ?_⟩
        repeat (any_goals (first | exact True.intro | exact rfl | with_reducible_and_instances rfl | exact (by kernel_rfl) | refine And.intro ?_ ?_))
        all_goals conv => whnf
        rw [h0]
        unfold quoN
        rw [if_neg (fun h => h1 (by have := hz.2 h.1; rw [← hl] at this; omega))]
    · repeat' (first | exact True.intro | ((first | refine And.intro (fun _ => ?_) tf | refine And.intro ft (fun _ => ?_) | refine And.intro (by kernel_rfl) ?_ | refine And.intro (by decide) ?_ | refine And.intro (fun _ => ?_) (fun h => absurd h (by decide)) | refine And.intro (fun h => absurd h (by decide)) (fun _ => ?_) | refine ⟨_, _, m1.pu rfl rfl, ?_⟩ | fail); conv => whnf) | (refine And.intro (fun _ => ?_) (fun _ => ?_) <;> conv => whnf) | fail)
      all_goals refine ⟨[], ?_⟩
      repeat (any_goals (first | exact True.intro | exact rfl | with_reducible_and_instances rfl | exact (by kernel_rfl) | refine And.intro ?_ ?_))
      all_goals conv => whnf
  | succ n =>
    have hn : n + 1 ≤ 16 * (canL a.natAbs).length := hn
    have hi : n / 16 < (canL a.natAbs).length := by omega
    have hx : (canL a.natAbs)[n / 16]? = some (lb (canL a.natAbs) (n / 16)) := by unfold lb; rw [List.getElem?_eq_getElem hi]; rfl
    have em : ((n + 1 : Nat) : Int) - 1 = (n : Int) := by omega
    have hr := Nat.mod_lt (a.natAbs / 2 ^ (n + 1)) hC
    have lR : (canL (a.natAbs / 2 ^ (n + 1) % c.natAbs)).length ≤ k := canL_short k _ (Nat.lt_trans hr hc)
    have hQ : a.natAbs / 2 ^ (n + 1) / c.natAbs < 65536 ^ k := Nat.lt_of_le_of_lt (Nat.le_trans (Nat.div_le_self _ _) (Nat.div_le_self _ _)) ha
    have lQ : (canL (a.natAbs / 2 ^ (n + 1) / c.natAbs)).length ≤ k := canL_short k _ hQ
    have p1 := plus_num (canL (a.natAbs / 2 ^ (n + 1) % c.natAbs)) (canL (a.natAbs / 2 ^ (n + 1) % c.natAbs)) (canL_dig _) (canL_dig _) (by omega) (by omega)
    have p2 := plus_num (canL (a.natAbs / 2 ^ (n + 1) / c.natAbs)) (canL (a.natAbs / 2 ^ (n + 1) / c.natAbs)) (canL_dig _) (canL_dig _) (by omega) (by omega)
    have l2 : (canL (a.natAbs / 2 ^ (n + 1) % c.natAbs + a.natAbs / 2 ^ (n + 1) % c.natAbs)).length ≤ k + 1 := canL_short (k + 1) _ (few_sum (Nat.lt_trans hr hc) (Nat.lt_trans hr hc))
    have p3 := plus_num (canL (a.natAbs / 2 ^ (n + 1) % c.natAbs + a.natAbs / 2 ^ (n + 1) % c.natAbs)) [1] (canL_dig _) (fun d hd => by simp at hd; omega) (by omega) (by simp)
    rw [canL_val] at p1 p2 p3
    rw [show valL [1] = 1 by rfl] at p3
    repeat' (first | exact True.intro | ((first | refine And.intro (fun _ => ?_) tf | refine And.intro ft (fun _ => ?_) | refine And.intro (by kernel_rfl) ?_ | refine And.intro (by decide) ?_ | refine And.intro (fun _ => ?_) (fun h => absurd h (by decide)) | refine And.intro (fun h => absurd h (by decide)) (fun _ => ?_) | fail); conv => whnf) | (refine And.intro (fun _ => ?_) (fun _ => ?_) <;> conv => whnf) | fail)
    all_goals try (refine Or.inl ?_; conv => whnf)
    repeat' (first | exact True.intro | ((first | refine And.intro (fun _ => ?_) tf | refine And.intro ft (fun _ => ?_) | refine And.intro (by kernel_rfl) ?_ | refine And.intro (by decide) ?_ | refine And.intro (fun _ => ?_) (fun h => absurd h (by decide)) | refine And.intro (fun h => absurd h (by decide)) (fun _ => ?_) | refine ⟨_, _, p1.pu rfl rfl, ?_⟩ | fail); conv => whnf) | (refine And.intro (fun _ => ?_) (fun _ => ?_) <;> conv => whnf) | fail)
    all_goals try (exfalso; simp only [decide_eq_true_eq, decide_eq_false_iff_not, Bool.not_eq_true', Bool.not_eq_false', Bool.not_eq_true, Bool.not_eq_false, beq_iff_eq, bne_iff_ne, beq_eq_false_iff_ne, bne_eq_false_iff_eq, ne_eq, Decidable.not_not] at *; first | omega | contradiction | (simp_all; done) | (simp_all; omega))
    have e16 : IntKind.i64.wrap ((((n + 1 : Nat) : Int) - 1).tdiv 16) = ((n / 16 : Nat) : Int) := by rw [em, Int.tdiv_eq_ediv_of_nonneg (by omega), wi (by omega) (by omega)]; rfl
    have m16 : IntKind.u64.wrap ((((n + 1 : Nat) : Int) - 1).tmod 16) = ((n % 16 : Nat) : Int) := by rw [em, Int.tmod_eq_emod_of_nonneg (by omega), IntKind.wrap_u64]; omega
    have hsh : 0 ≤ IntKind.u64.wrap ((((n + 1 : Nat) : Int) - 1).tmod 16) := by omega
    have hbit : 2 ^ min (IntKind.u64.wrap ((((n + 1 : Nat) : Int) - 1).tmod 16)).toNat IntKind.i64.bits = (2 : Int) ^ (n % 16) := by rw [m16, Int.toNat_natCast, show min (n % 16) IntKind.i64.bits = n % 16 from Nat.min_eq_left (show n % 16 ≤ 64 by omega)]
    have ebit : ((lb (canL a.natAbs) (n / 16)).fdiv (2 ^ min (IntKind.u64.wrap ((((n + 1 : Nat) : Int) - 1).tmod 16)).toNat IntKind.i64.bits)).tmod 2 = ((a.natAbs / 2 ^ n % 2 : Nat) : Int) := by
      rw [hbit, lb_canL, bit_tmod]
    all_goals try (refine Or.inl ?_; conv => whnf)
    repeat' (first | exact True.intro | ((first | refine And.intro (fun _ => ?_) tf | refine And.intro ft (fun _ => ?_) | refine And.intro (by kernel_rfl) ?_ | refine And.intro (by decide) ?_ | refine And.intro (fun _ => ?_) (fun h => absurd h (by decide)) | refine And.intro (fun h => absurd h (by decide)) (fun _ => ?_) | refine ⟨_, _, p1.pu rfl rfl, ?_⟩ | fail); conv => whnf) | (refine And.intro (fun _ => ?_) (fun _ => ?_) <;> conv => whnf) | fail)
    refine Or.inr ⟨Unit, fun _ => True, fun _ => ([(9, iA (((n + 1 : Nat) : Int) - 1)), (8, .d (lD (canL (2 * (a.natAbs / 2 ^ (n + 1) % c.natAbs) + a.natAbs / 2 ^ n % 2)))), (7, .d (lD (canL (a.natAbs / 2 ^ (n + 1) / c.natAbs)))), (3, .ptr 0 0), (4, .ptr 1 0), (6, .ptr 2 0), (2, bA up)], [.cells [bA (decide (a < 0)), .d (lD (canL a.natAbs))], .cells [bA (decide (c < 0)), .d (lD (canL c.natAbs))], .cells [bA false, .d (.v (.slice none 0 0))]]), ?_, fun _ _ => ?_⟩
    · repeat' (first | exact True.intro | ((first | refine ⟨n / 16, _, e16, map_get hx, ?_⟩ | refine And.intro hsh ?_ | refine And.intro (fun _ => ?_) tf | refine And.intro ft (fun _ => ?_) | refine And.intro (by kernel_rfl) ?_ | refine And.intro (by decide) ?_ | refine And.intro (fun _ => ?_) (fun h => absurd h (by decide)) | refine And.intro (fun h => absurd h (by decide)) (fun _ => ?_) | refine ⟨_, _, frz_b p3 rfl rfl, ?_⟩ | fail); conv => whnf) | (refine And.intro (fun _ => ?_) (fun _ => ?_) <;> conv => whnf) | fail)
      · have hb1 : a.natAbs / 2 ^ n % 2 = 1 := by have h := beq_iff_eq.1 ‹_ = true›; rw [ebit] at h; omega
        refine ⟨(), trivial, ?_⟩
        all_goals refine ⟨[], ?_⟩
        repeat (any_goals (first | exact True.intro | exact rfl | with_reducible_and_instances rfl | exact (by kernel_rfl) | refine And.intro ?_ ?_))
        all_goals conv => whnf
        rw [hb1, show 2 * (a.natAbs / 2 ^ (n + 1) % c.natAbs) + 1 = a.natAbs / 2 ^ (n + 1) % c.natAbs + a.natAbs / 2 ^ (n + 1) % c.natAbs + 1 by omega]
      · have hb0 : a.natAbs / 2 ^ n % 2 = 0 := by have h := beq_eq_false_iff_ne.1 ‹_ = false›; rw [ebit] at h; omega
        refine ⟨(), trivial, ?_⟩
        all_goals refine ⟨[], ?_⟩
        repeat (any_goals (first | exact True.intro | exact rfl | with_reducible_and_instances rfl | exact (by kernel_rfl) | refine And.intro ?_ ?_))
        all_goals conv => whnf
        rw [hb0, show 2 * (a.natAbs / 2 ^ (n + 1) % c.natAbs) + 0 = a.natAbs / 2 ^ (n + 1) % c.natAbs + a.natAbs / 2 ^ (n + 1) % c.natAbs by omega]
    · have hn' : n ≤ 16 * (canL a.natAbs).length := by omega
      have st := div_step a.natAbs c.natAbs hC n
      have hlt := few_sum (k := k) (Nat.lt_trans hr hc) (Nat.lt_trans hr hc)
      have hpow : (65536 : Nat) ^ (k + 1) = 65536 ^ k * 65536 := Nat.pow_succ ..
      have hS : 2 * (a.natAbs / 2 ^ (n + 1) % c.natAbs) + a.natAbs / 2 ^ n % 2 < 65536 ^ (k + 1) := by
        have := hc
        unfold few at this
        omega
      have lS := canL_short (k + 1) _ hS
      have lC := few_len hc
      have ab := above_sat (canL (2 * (a.natAbs / 2 ^ (n + 1) % c.natAbs) + a.natAbs / 2 ^ n % 2)) (canL c.natAbs) (canL_dig _) (canL_dig _) (by omega) (by omega)
      have lQ2 : (canL (a.natAbs / 2 ^ (n + 1) / c.natAbs + a.natAbs / 2 ^ (n + 1) / c.natAbs)).length ≤ k + 1 := canL_short (k + 1) _ (few_sum hQ hQ)
      have p4 := plus_num (canL (a.natAbs / 2 ^ (n + 1) / c.natAbs + a.natAbs / 2 ^ (n + 1) / c.natAbs)) [1] (canL_dig _) (fun d hd => by simp at hd; omega) (by omega) (by simp)
      rw [canL_val, show valL [1] = 1 by rfl] at p4
      rw [canL_val, canL_val] at ab
      by_cases hge : c.natAbs ≤ 2 * (a.natAbs / 2 ^ (n + 1) % c.natAbs) + a.natAbs / 2 ^ n % 2
      · have mi := minus_num (canL (2 * (a.natAbs / 2 ^ (n + 1) % c.natAbs) + a.natAbs / 2 ^ n % 2)) (canL c.natAbs) (canL_dig _) (canL_dig _) (by omega) (by rw [canL_val, canL_val]; exact hge)
        rw [canL_val, canL_val] at mi
        obtain ⟨s1, s2⟩ := st.1 hge
        have hcm := cmpN_ge.2 hge
        repeat' (first | exact True.intro | ((first | refine And.intro (fun _ => ?_) tf | refine And.intro ft (fun _ => ?_) | refine And.intro (by kernel_rfl) ?_ | refine And.intro (by decide) ?_ | refine And.intro (fun _ => ?_) (fun h => absurd h (by decide)) | refine And.intro (fun h => absurd h (by decide)) (fun _ => ?_) | refine ⟨_, _, p2.pu rfl rfl, ?_⟩ | refine ⟨_, _, ab.pu rfl rfl, ?_⟩ | refine ⟨_, _, mi.pu rfl rfl, ?_⟩ | refine ⟨_, _, frz_b p4 rfl rfl, ?_⟩ | fail); conv => whnf) | (refine And.intro (fun _ => ?_) (fun _ => ?_) <;> conv => whnf) | fail)
        · refine ⟨n, hn', Nat.lt_succ_self n, ?_⟩
          all_goals refine ⟨[], ?_⟩
          repeat (any_goals (first | exact True.intro | exact rfl | with_reducible_and_instances rfl | exact (by kernel_rfl) | refine And.intro ?_ ?_))
          all_goals conv => whnf
          · rw [em, wi (by omega) (by omega)]
          · rw [s2]
          · rw [s1, show 2 * (a.natAbs / 2 ^ (n + 1) / c.natAbs) + 1 = a.natAbs / 2 ^ (n + 1) / c.natAbs + a.natAbs / 2 ^ (n + 1) / c.natAbs + 1 by omega]
        · exact absurd hcm (of_decide_eq_false ‹_›)
      · obtain ⟨s1, s2⟩ := st.2 (by omega)
        have hcm := fun q => hge (cmpN_ge.1 q)
        repeat' (first | exact True.intro | ((first | refine And.intro (fun _ => ?_) tf | refine And.intro ft (fun _ => ?_) | refine And.intro (by kernel_rfl) ?_ | refine And.intro (by decide) ?_ | refine And.intro (fun _ => ?_) (fun h => absurd h (by decide)) | refine And.intro (fun h => absurd h (by decide)) (fun _ => ?_) | refine ⟨_, _, p2.pu rfl rfl, ?_⟩ | refine ⟨_, _, ab.pu rfl rfl, ?_⟩ | fail); conv => whnf) | (refine And.intro (fun _ => ?_) (fun _ => ?_) <;> conv => whnf) | fail)
        · exact absurd (of_decide_eq_true ‹_›) hcm
        · refine ⟨n, hn', Nat.lt_succ_self n, ?_⟩
          all_goals refine ⟨[], ?_⟩
          repeat (any_goals (first | exact True.intro | exact rfl | with_reducible_and_instances rfl | exact (by kernel_rfl) | refine And.intro ?_ ?_))
          all_goals conv => whnf
          · rw [em, wi (by omega) (by omega)]
          · rw [s2]
          · rw [s1, show 2 * (a.natAbs / 2 ^ (n + 1) / c.natAbs) = a.natAbs / 2 ^ (n + 1) / c.natAbs + a.natAbs / 2 ^ (n + 1) / c.natAbs by omega]
end Go.Proofs.YtbjmdnemeidpjaaGreat
/- Numbers of any length: Mul. -/
namespace Go.Proofs.YtbjmdnemeidpjaaGreat
set_option linter.unusedSimpArgs false
set_option linter.unusedVariables false
open Go.RowKit
set_option maxRecDepth 100000
theorem valL_set : ∀ (l : List Int) (j : Nat) (d : Int), j < l.length → valL (l.set j d) + 65536 ^ j * (lb l j).toNat = valL l + 65536 ^ j * d.toNat
  | [], j, d, h => by simp at h
  | x :: l, 0, d, h => by simp [valL, lb]; omega
  | x :: l, j + 1, d, h => by
    have ih := valL_set l j d (by simpa using h)
    have e : lb (x :: l) (j + 1) = lb l j := by simp [lb]
    rw [List.set_cons_succ, valL, valL, e, Nat.pow_succ, Nat.mul_comm (65536 ^ j) 65536, Nat.mul_assoc, Nat.mul_assoc]
    omega
theorem digL_set {l : List Int} {j : Nat} {d : Int} (h : digL l) (h0 : 0 ≤ d) (h1 : d < 65536) : digL (l.set j d) := fun x hx => by
  rcases List.mem_or_eq_of_mem_set hx with e | e
  · exact h x e
  · subst e; exact ⟨h0, h1⟩
theorem valL_take_succ (l : List Int) (i : Nat) (hd : digL l) : valL (l.take (i + 1)) = valL (l.take i) + 65536 ^ i * (lb l i).toNat := by
  have h1 := (valL_take l i hd).1
  have h2 := (valL_take l (i + 1) hd).1
  have h3 := valL_drop l i
  rw [h3, Nat.mul_add, ← Nat.mul_assoc, ← Nat.pow_succ] at h1
  generalize 65536 ^ (i + 1) * valL (l.drop (i + 1)) = Z at h1 h2
  omega
theorem valL_take_all {l : List Int} {k : Nat} (h : l.length ≤ k) : valL (l.take k) = valL l := by rw [List.take_of_length_le h]
theorem valL_zeros : ∀ (n : Nat), valL (List.replicate n 0) = 0
  | 0 => rfl
  | n + 1 => by rw [List.replicate_succ, valL, valL_zeros n]; rfl
/-- How far a row of a product has come. -/
structure MulI (a b : List Int) (i k : Nat) (c : Int) (out : List Int) : Prop where
  len : out.length = a.length + b.length + 1
  dig : digL out
  c0 : 0 ≤ c
  c1 : c ≤ 65535
  val : valL out + 65536 ^ (i + k) * c.toNat = valL (a.take i) * valL b + 65536 ^ i * (lb a i).toNat * valL (b.take k)
theorem MulI.idx {a b : List Int} {i k : Nat} {c : Int} {out : List Int} (I : MulI a b i k c out) (da : digL a) (db : digL b) (hi : i < a.length) (h : k < b.length ∨ 0 < c) : i + k < out.length := by
  rw [I.len]
  rcases h with h | h
  · omega
  · have hv := I.val
    have t1 := (valL_take b k db).1
    have t2 := (valL_take b b.length db).2
    have t3 := valL_take_succ a i da
    have t4 := (valL_take a (i + 1) da).2
    rw [List.take_length] at t2
    have hle : valL (b.take k) ≤ valL b := by rw [t1]; exact Nat.le_add_right _ _
    have h1 : valL (a.take i) * valL b + 65536 ^ i * (lb a i).toNat * valL (b.take k) ≤ valL (a.take (i + 1)) * valL b := by
      rw [t3, Nat.add_mul]
      exact Nat.add_le_add_left (Nat.mul_le_mul_left _ hle) _
    have h2 : valL (a.take (i + 1)) * valL b < 65536 ^ (i + 1 + b.length) := by
      rw [Nat.pow_add]
      exact Nat.mul_lt_mul'' t4 t2
    have h3 : 65536 ^ (i + k) * 1 ≤ 65536 ^ (i + k) * c.toNat := Nat.mul_le_mul_left _ (by omega)
    have h4 : (65536 : Nat) ^ (i + k) < 65536 ^ (i + 1 + b.length) := by omega
    have := (Nat.pow_lt_pow_iff_right (by omega : 1 < 65536)).1 h4
    omega
theorem MulI.next {a b : List Int} {i k : Nat} {c : Int} {out : List Int} (I : MulI a b i k c out) (da : digL a) (db : digL b) (hx : i + k < out.length) :
    MulI a b i (k + 1) ((c + (lb out (i + k) + lb a i * lb b k)) / 65536) (out.set (i + k) ((c + (lb out (i + k) + lb a i * lb b k)) % 65536)) := by
  have ha := lb_dig da i
  have hb := lb_dig db k
  have ho := lb_dig I.dig (i + k)
  have h0 := I.c0
  have h1 := I.c1
  have hm : lb a i * lb b k ≤ 65535 * 65535 := Int.mul_le_mul (by omega) (by omega) (by omega) (by omega)
  have hm0 : 0 ≤ lb a i * lb b k := Int.mul_nonneg ha.1 hb.1
  have hmt : (lb a i * lb b k).toNat = (lb a i).toNat * (lb b k).toNat := Int.toNat_mul ha.1 hb.1
  have hv := I.val
  have hs := valL_set out (i + k) ((c + (lb out (i + k) + lb a i * lb b k)) % 65536) hx
  have ht := valL_take_succ b k db
  refine ⟨by rw [List.length_set]; exact I.len, digL_set I.dig (by omega) (by omega), by omega, by omega, ?_⟩
  rw [ht]
  generalize hp : lb a i * lb b k = p at *
  have e1 : ((c + (lb out (i + k) + p)) / 65536).toNat * 65536 + ((c + (lb out (i + k) + p)) % 65536).toNat = c.toNat + (lb out (i + k)).toNat + p.toNat := by omega
  generalize ((c + (lb out (i + k) + p)) / 65536).toNat = q at *
  generalize hr : ((c + (lb out (i + k) + p)) % 65536) = r at *
  rw [← Nat.add_assoc i k 1, Nat.pow_succ, Nat.mul_assoc, Nat.mul_comm 65536 q]
  have e2 : 65536 ^ (i + k) * (q * 65536) + 65536 ^ (i + k) * r.toNat = 65536 ^ (i + k) * c.toNat + 65536 ^ (i + k) * (lb out (i + k)).toNat + 65536 ^ (i + k) * p.toNat := by
    rw [← Nat.mul_add, e1, Nat.mul_add, Nat.mul_add]
  have e3 : 65536 ^ i * (lb a i).toNat * (valL (b.take k) + 65536 ^ k * (lb b k).toNat) = 65536 ^ i * (lb a i).toNat * valL (b.take k) + 65536 ^ (i + k) * p.toNat := by
    rw [Nat.mul_add, hmt, Nat.pow_add]
    congr 1
    rw [Nat.mul_assoc, Nat.mul_assoc, Nat.mul_left_comm (lb a i).toNat]
  rw [e3]
  omega
theorem MulI.fin {a b : List Int} {i k : Nat} {c : Int} {out : List Int} (I : MulI a b i k c out) (da : digL a) (hk : b.length ≤ k) (hc : c ≤ 0) : valL out = valL (a.take (i + 1)) * valL b := by
  have hv := I.val
  rw [show c = 0 by have := I.c0; omega, valL_take_all hk] at hv
  rw [valL_take_succ a i da, Nat.add_mul]
  simpa using hv
theorem mul_num {k : Nat} {x y : Int} (hk : k ≤ 1000) (hx : few k x) (hy : few k y) : Sat Tryz.prog 84 [.d (numD x), .d (numD y)] [] (.d (numD (x * y))) [] := by
  have lx := few_len hx
  have ly := few_len hy
  have da := canL_dig x.natAbs
  have db := canL_dig y.natAbs
  have va := canL_val x.natAbs
  have vb := canL_val y.natAbs
  generalize hA : canL x.natAbs = A at *
  generalize hB : canL y.natAbs = B at *
  unfold numD
  rw [hA, hB]
  have hlen : IntKind.i64.wrap (IntKind.i64.wrap (((A.map lR).length : Int) + ((B.map lR).length : Int)) + 1) = ((A.length + B.length + 1 : Nat) : Int) := by
    rw [List.length_map, List.length_map, wi (n := (A.length : Int) + B.length) (by omega) (by omega), wi (by omega) (by omega)]; push_cast; rfl
  have hlA : (A.map lR).length = A.length := List.length_map _
  have hlB : (B.map lR).length = B.length := List.length_map _
  refine sat_of_vc (T := tiOf Tryz.prog) (E := E0) Tryz.func84 rfl rfl hE0 hm0 rfl ?_
  conv => whnf
  repeat' (first | exact True.intro | ((first | refine And.intro (fun _ => ?_) tf | refine And.intro ft (fun _ => ?_) | refine And.intro (by kernel_rfl) ?_ | refine And.intro (by decide) ?_ | refine And.intro (fun _ => ?_) (fun h => absurd h (by decide)) | refine And.intro (fun h => absurd h (by decide)) (fun _ => ?_) | fail); conv => whnf) | (refine And.intro (fun _ => ?_) (fun _ => ?_) <;> conv => whnf) | fail)
  all_goals try (refine Or.inl ?_; conv => whnf)
  rw [hlen]
  repeat' (first | exact True.intro | ((first | refine And.intro (fun _ => ?_) tf | refine And.intro ft (fun _ => ?_) | refine And.intro (by kernel_rfl) ?_ | refine And.intro (by decide) ?_ | refine And.intro (fun _ => ?_) (fun h => absurd h (by decide)) | refine And.intro (fun h => absurd h (by decide)) (fun _ => ?_) | refine ⟨_, _, mkf 1 8 (by kernel_rfl) (by omega) (by unfold maxLen; omega), ?_⟩ | fail); conv => whnf) | (refine And.intro (fun _ => ?_) (fun _ => ?_) <;> conv => whnf) | fail)
  all_goals try (refine Or.inl ?_; conv => whnf)
  repeat' (first | exact True.intro | ((first | refine And.intro (fun _ => ?_) tf | refine And.intro ft (fun _ => ?_) | refine And.intro (by kernel_rfl) ?_ | refine And.intro (by decide) ?_ | refine And.intro (fun _ => ?_) (fun h => absurd h (by decide)) | refine And.intro (fun h => absurd h (by decide)) (fun _ => ?_) | refine ⟨_, _, mkf 1 8 (by kernel_rfl) (by omega) (by unfold maxLen; omega), ?_⟩ | fail); conv => whnf) | (refine And.intro (fun _ => ?_) (fun _ => ?_) <;> conv => whnf) | fail)
  refine ⟨Nat × List Int, fun z => z.1 ≤ A.length ∧ z.2.length = A.length + B.length + 1 ∧ digL z.2 ∧ valL z.2 = valL (A.take z.1) * valL B, fun z => ([(6, iA z.1), (5, .own 3), (2, .ptr 0 0), (3, .ptr 1 0), (4, .ptr 2 0)], [.cells [bA (decide (x < 0)), .d (lD A)], .cells [bA (decide (y < 0)), .d (lD B)], .cells [bA false, .d (.v (.slice none 0 0))], .sl 1 (z.2.map lR)]), fun z => A.length - z.1, ⟨(0, List.replicate (A.length + B.length + 1) 0), ⟨Nat.zero_le _, by simp, fun d hd => by rw [List.eq_of_mem_replicate hd]; omega, by rw [valL_zeros]; simp [valL]⟩, ?_⟩, ?_⟩
  · all_goals refine ⟨[], ?_⟩
    repeat (any_goals (first | exact True.intro | exact rfl | with_reducible_and_instances rfl | exact (by kernel_rfl) | refine And.intro ?_ ?_))
    all_goals conv => whnf
    rw [List.map_replicate]; rfl
  rintro ⟨i, out⟩ ⟨hi, hol, hod, hov⟩
  have hi : i ≤ A.length := hi
  have hol : out.length = A.length + B.length + 1 := hol
  have hod : digL out := hod
  have hov : valL out = valL (A.take i) * valL B := hov
  conv => whnf
  by_cases hlt : i < A.length
  · have hxi : A[i]? = some (lb A i) := by unfold lb; rw [List.getElem?_eq_getElem hlt]; rfl
    repeat' (first | exact True.intro | ((first | refine And.intro (fun _ => ?_) tf | refine And.intro ft (fun _ => ?_) | refine And.intro (by kernel_rfl) ?_ | refine And.intro (by decide) ?_ | refine And.intro (fun _ => ?_) (fun h => absurd h (by decide)) | refine And.intro (fun h => absurd h (by decide)) (fun _ => ?_) | fail); conv => whnf) | (refine And.intro (fun _ => ?_) (fun _ => ?_) <;> conv => whnf) | fail)
    all_goals try (refine Or.inl ?_; conv => whnf)
    repeat' (first | exact True.intro | ((first | refine And.intro (fun _ => ?_) tf | refine And.intro ft (fun _ => ?_) | refine And.intro (by kernel_rfl) ?_ | refine And.intro (by decide) ?_ | refine And.intro (fun _ => ?_) (fun h => absurd h (by decide)) | refine And.intro (fun h => absurd h (by decide)) (fun _ => ?_) | fail); conv => whnf) | (refine And.intro (fun _ => ?_) (fun _ => ?_) <;> conv => whnf) | fail)
    all_goals try (exfalso; simp only [decide_eq_true_eq, decide_eq_false_iff_not, Bool.not_eq_true', Bool.not_eq_false', Bool.not_eq_true, Bool.not_eq_false, beq_iff_eq, bne_iff_ne, beq_eq_false_iff_ne, bne_eq_false_iff_eq, ne_eq, Decidable.not_not] at *; first | omega | contradiction | (simp_all; done) | (simp_all; omega))
    all_goals try (refine Or.inl ?_; conv => whnf)
    repeat' (first | exact True.intro | ((first | refine And.intro (fun _ => ?_) tf | refine And.intro ft (fun _ => ?_) | refine And.intro (by kernel_rfl) ?_ | refine And.intro (by decide) ?_ | refine And.intro (fun _ => ?_) (fun h => absurd h (by decide)) | refine And.intro (fun h => absurd h (by decide)) (fun _ => ?_) | fail); conv => whnf) | (refine And.intro (fun _ => ?_) (fun _ => ?_) <;> conv => whnf) | fail)
    refine ⟨Nat × Int × List Int, fun z => MulI A B i z.1 z.2.1 z.2.2, fun z => ([(8, iA z.1), (7, iA z.2.1), (6, iA i), (5, .own 3), (2, .ptr 0 0), (3, .ptr 1 0), (4, .ptr 2 0)], [.cells [bA (decide (x < 0)), .d (lD A)], .cells [bA (decide (y < 0)), .d (lD B)], .cells [bA false, .d (.v (.slice none 0 0))], .sl 1 (z.2.2.map lR)]), fun z => A.length + B.length + 1 - (i + z.1), ⟨(0, 0, out), ⟨hol, hod, Int.le_refl _, show (0 : Int) ≤ 65535 by decide, by simpa [valL] using hov⟩, ?_⟩, ?_⟩
    · all_goals refine ⟨[], ?_⟩
      repeat (any_goals (first | exact True.intro | exact rfl | with_reducible_and_instances rfl | exact (by kernel_rfl) | refine And.intro ?_ ?_))
      all_goals conv => whnf
    rintro ⟨k1, c, row⟩ I
    have I : MulI A B i k1 c row := I
    have hv1 := I.len
    conv => whnf
    by_cases hgo : k1 < B.length ∨ 0 < c
    · have hix := I.idx da db hlt hgo
      have hwi : IntKind.i64.wrap ((i : Int) + (k1 : Int)) = ((i + k1 : Nat) : Int) := by rw [wi (by omega) (by omega)]; rfl
      have hro : row[i + k1]? = some (lb row (i + k1)) := by unfold lb; rw [List.getElem?_eq_getElem hix]; rfl
      have lim := limb_sat B k1
      have stepw : IntKind.i64.wrap (c + IntKind.i64.wrap (lb row (i + k1) + IntKind.i64.wrap (lb A i * (B[k1]?).getD 0))) = c + (lb row (i + k1) + lb A i * lb B k1) := by
        have ha := lb_dig da i
        have hb := lb_dig db k1
        have ho := lb_dig I.dig (i + k1)
        have h0 := I.c0
        have h1 := I.c1
        have hm : lb A i * lb B k1 ≤ 65535 * 65535 := Int.mul_le_mul (by omega) (by omega) (by omega) (by omega)
        have hm0 : 0 ≤ lb A i * lb B k1 := Int.mul_nonneg ha.1 hb.1
        show IntKind.i64.wrap (c + IntKind.i64.wrap (lb row (i + k1) + IntKind.i64.wrap (lb A i * lb B k1))) = _
        generalize lb A i * lb B k1 = p at *
        rw [wi (n := p) (by omega) (by omega), wi (n := lb row (i + k1) + p) (by omega) (by omega), wi (by omega) (by omega)]
      repeat' (first | exact True.intro | ((first | refine And.intro (fun _ => ?_) tf | refine And.intro ft (fun _ => ?_) | refine And.intro (by kernel_rfl) ?_ | refine And.intro (by decide) ?_ | refine And.intro (fun _ => ?_) (fun h => absurd h (by decide)) | refine And.intro (fun h => absurd h (by decide)) (fun _ => ?_) | fail); conv => whnf) | (refine And.intro (fun _ => ?_) (fun _ => ?_) <;> conv => whnf) | fail)
      all_goals try (refine Or.inl ?_; conv => whnf)
      repeat' (first | exact True.intro | ((first | refine And.intro (fun _ => ?_) tf | refine And.intro ft (fun _ => ?_) | refine And.intro (by kernel_rfl) ?_ | refine And.intro (by decide) ?_ | refine And.intro (fun _ => ?_) (fun h => absurd h (by decide)) | refine And.intro (fun h => absurd h (by decide)) (fun _ => ?_) | fail); conv => whnf) | (refine And.intro (fun _ => ?_) (fun _ => ?_) <;> conv => whnf) | fail)
      all_goals try (exfalso; simp only [decide_eq_true_eq, decide_eq_false_iff_not, Bool.not_eq_true', Bool.not_eq_false', Bool.not_eq_true, Bool.not_eq_false, beq_iff_eq, bne_iff_ne, beq_eq_false_iff_ne, bne_eq_false_iff_eq, ne_eq, Decidable.not_not] at *; first | omega | contradiction | (simp_all; done) | (simp_all; omega))
      · all_goals try (refine Or.inl ?_; conv => whnf)
        repeat' (first | exact True.intro | ((first | refine ⟨i + k1, hwi, by rw [List.length_map]; exact hix, ?_⟩ | refine ⟨_, map_get hro, ?_⟩ | refine ⟨i, _, rfl, map_get hxi, ?_⟩ | refine ⟨Nat.le_refl _, _, _, map_get hro, rfl, ?_⟩ | refine And.intro (fun _ => ?_) tf | refine And.intro ft (fun _ => ?_) | refine And.intro (by kernel_rfl) ?_ | refine And.intro (by decide) ?_ | refine And.intro (fun _ => ?_) (fun h => absurd h (by decide)) | refine And.intro (fun h => absurd h (by decide)) (fun _ => ?_) | refine ⟨_, _, lim.pu rfl rfl, ?_⟩ | fail); conv => whnf) | (refine And.intro (fun _ => ?_) (fun _ => ?_) <;> conv => whnf) | fail)
        have hin := I.next da db hix
        have hin0 := hin.c0
        have hin1 := hin.c1
        have hs0 : 0 ≤ c + (lb row (i + k1) + lb A i * lb B k1) := by omega
        refine ⟨(k1 + 1, (c + (lb row (i + k1) + lb A i * lb B k1)) / 65536, row.set (i + k1) ((c + (lb row (i + k1) + lb A i * lb B k1)) % 65536)), hin, show A.length + B.length + 1 - (i + (k1 + 1)) < A.length + B.length + 1 - (i + k1) by omega, ?_⟩
        all_goals refine ⟨[], ?_⟩
        repeat (any_goals (first | exact True.intro | exact rfl | with_reducible_and_instances rfl | exact (by kernel_rfl) | refine And.intro ?_ ?_))
        all_goals conv => whnf
        · exact wk1 (show k1 ≤ _ by omega)
        · show iA (IntKind.i64.wrap ((IntKind.i64.wrap (c + IntKind.i64.wrap (lb row (i + k1) + IntKind.i64.wrap (lb A i * (B[k1]?).getD 0)))).tdiv 65536)) = iA ((c + (lb row (i + k1) + lb A i * lb B k1)) / 65536)
          rw [stepw, Int.tdiv_eq_ediv_of_nonneg hs0, wi (by omega) (by omega)]
        · show AObj.sl 1 ((row.map lR).set (i + k1) [iD ((IntKind.i64.wrap (c + IntKind.i64.wrap (lb row (i + k1) + IntKind.i64.wrap (lb A i * (B[k1]?).getD 0)))).tmod 65536)]) = .sl 1 ((row.set (i + k1) ((c + (lb row (i + k1) + lb A i * lb B k1)) % 65536)).map lR)
          rw [stepw, Int.tmod_eq_emod_of_nonneg hs0, List.map_set]
      · all_goals try (refine Or.inl ?_; conv => whnf)
        repeat' (first | exact True.intro | ((first | refine ⟨i + k1, hwi, by rw [List.length_map]; exact hix, ?_⟩ | refine ⟨_, map_get hro, ?_⟩ | refine ⟨i, _, rfl, map_get hxi, ?_⟩ | refine ⟨Nat.le_refl _, _, _, map_get hro, rfl, ?_⟩ | refine And.intro (fun _ => ?_) tf | refine And.intro ft (fun _ => ?_) | refine And.intro (by kernel_rfl) ?_ | refine And.intro (by decide) ?_ | refine And.intro (fun _ => ?_) (fun h => absurd h (by decide)) | refine And.intro (fun h => absurd h (by decide)) (fun _ => ?_) | refine ⟨_, _, lim.pu rfl rfl, ?_⟩ | fail); conv => whnf) | (refine And.intro (fun _ => ?_) (fun _ => ?_) <;> conv => whnf) | fail)
        have hin := I.next da db hix
        have hin0 := hin.c0
        have hin1 := hin.c1
        have hs0 : 0 ≤ c + (lb row (i + k1) + lb A i * lb B k1) := by omega
        refine ⟨(k1 + 1, (c + (lb row (i + k1) + lb A i * lb B k1)) / 65536, row.set (i + k1) ((c + (lb row (i + k1) + lb A i * lb B k1)) % 65536)), hin, show A.length + B.length + 1 - (i + (k1 + 1)) < A.length + B.length + 1 - (i + k1) by omega, ?_⟩
        all_goals refine ⟨[], ?_⟩
        repeat (any_goals (first | exact True.intro | exact rfl | with_reducible_and_instances rfl | exact (by kernel_rfl) | refine And.intro ?_ ?_))
        all_goals conv => whnf
        · exact wk1 (show k1 ≤ _ by omega)
        · show iA (IntKind.i64.wrap ((IntKind.i64.wrap (c + IntKind.i64.wrap (lb row (i + k1) + IntKind.i64.wrap (lb A i * (B[k1]?).getD 0)))).tdiv 65536)) = iA ((c + (lb row (i + k1) + lb A i * lb B k1)) / 65536)
          rw [stepw, Int.tdiv_eq_ediv_of_nonneg hs0, wi (by omega) (by omega)]
        · show AObj.sl 1 ((row.map lR).set (i + k1) [iD ((IntKind.i64.wrap (c + IntKind.i64.wrap (lb row (i + k1) + IntKind.i64.wrap (lb A i * (B[k1]?).getD 0)))).tmod 65536)]) = .sl 1 ((row.set (i + k1) ((c + (lb row (i + k1) + lb A i * lb B k1)) % 65536)).map lR)
          rw [stepw, Int.tmod_eq_emod_of_nonneg hs0, List.map_set]
    · repeat' (first | exact True.intro | ((first | refine And.intro (fun _ => ?_) tf | refine And.intro ft (fun _ => ?_) | refine And.intro (by kernel_rfl) ?_ | refine And.intro (by decide) ?_ | refine And.intro (fun _ => ?_) (fun h => absurd h (by decide)) | refine And.intro (fun h => absurd h (by decide)) (fun _ => ?_) | fail); conv => whnf) | (refine And.intro (fun _ => ?_) (fun _ => ?_) <;> conv => whnf) | fail)
      all_goals try (refine Or.inl ?_; conv => whnf)
      repeat' (first | exact True.intro | ((first | refine And.intro (fun _ => ?_) tf | refine And.intro ft (fun _ => ?_) | refine And.intro (by kernel_rfl) ?_ | refine And.intro (by decide) ?_ | refine And.intro (fun _ => ?_) (fun h => absurd h (by decide)) | refine And.intro (fun h => absurd h (by decide)) (fun _ => ?_) | fail); conv => whnf) | (refine And.intro (fun _ => ?_) (fun _ => ?_) <;> conv => whnf) | fail)
      all_goals try (exfalso; simp only [decide_eq_true_eq, decide_eq_false_iff_not, Bool.not_eq_true', Bool.not_eq_false', Bool.not_eq_true, Bool.not_eq_false, beq_iff_eq, bne_iff_ne, beq_eq_false_iff_ne, bne_eq_false_iff_eq, ne_eq, Decidable.not_not] at *; first | omega | contradiction | (simp_all; done) | (simp_all; omega))
      have hf := I.fin da (by omega) (by omega)
      refine ⟨(i + 1, row), ⟨hlt, hv1, I.dig, hf⟩, show A.length - (i + 1) < A.length - i by omega, ?_⟩
      all_goals refine ⟨[], ?_⟩
      repeat (any_goals (first | exact True.intro | exact rfl | with_reducible_and_instances rfl | exact (by kernel_rfl) | refine And.intro ?_ ?_))
      all_goals conv => whnf
      exact wk1 (by omega)
  · have hie : i = A.length := by omega
    subst hie
    rw [List.take_length] at hov
    have m1 := made_num (decide (x < 0) != decide (y < 0)) out hod (by omega)
    repeat' (first | exact True.intro | ((first | refine And.intro (fun _ => ?_) tf | refine And.intro ft (fun _ => ?_) | refine And.intro (by kernel_rfl) ?_ | refine And.intro (by decide) ?_ | refine And.intro (fun _ => ?_) (fun h => absurd h (by decide)) | refine And.intro (fun h => absurd h (by decide)) (fun _ => ?_) | fail); conv => whnf) | (refine And.intro (fun _ => ?_) (fun _ => ?_) <;> conv => whnf) | fail)
    all_goals try (refine Or.inl ?_; conv => whnf)
    repeat' (first | exact True.intro | ((first | refine And.intro (fun _ => ?_) tf | refine And.intro ft (fun _ => ?_) | refine And.intro (by kernel_rfl) ?_ | refine And.intro (by decide) ?_ | refine And.intro (fun _ => ?_) (fun h => absurd h (by decide)) | refine And.intro (fun h => absurd h (by decide)) (fun _ => ?_) | fail); conv => whnf) | (refine And.intro (fun _ => ?_) (fun _ => ?_) <;> conv => whnf) | fail)
    all_goals try (exfalso; simp only [decide_eq_true_eq, decide_eq_false_iff_not, Bool.not_eq_true', Bool.not_eq_false', Bool.not_eq_true, Bool.not_eq_false, beq_iff_eq, bne_iff_ne, beq_eq_false_iff_ne, bne_eq_false_iff_eq, ne_eq, Decidable.not_not] at *; first | omega | contradiction | (simp_all; done) | (simp_all; omega))
    have e : (if (decide (x < 0) != decide (y < 0)) = true then -((valL out : Nat) : Int) else ((valL out : Nat) : Int)) = x * y := by
      rw [hov, va, vb]
      push_cast
      have ax : (x.natAbs : Int) = if x < 0 then -x else x := by split <;> omega
      have ay : (y.natAbs : Int) = if y < 0 then -y else y := by split <;> omega
      rw [ax, ay]
      by_cases hx0 : x < 0 <;> by_cases hy0 : y < 0 <;> simp [hx0, hy0, Int.neg_mul, Int.mul_neg]
    rw [e] at m1
    repeat' (first | exact True.intro | ((first | refine ⟨_, _, neB (by kernel_rfl), ?_⟩ | refine And.intro (fun _ => ?_) tf | refine And.intro ft (fun _ => ?_) | refine And.intro (by kernel_rfl) ?_ | refine And.intro (by decide) ?_ | refine And.intro (fun _ => ?_) (fun h => absurd h (by decide)) | refine And.intro (fun h => absurd h (by decide)) (fun _ => ?_) | refine ⟨_, _, frz_b m1 rfl rfl, ?_⟩ | fail); conv => whnf) | (refine And.intro (fun _ => ?_) (fun _ => ?_) <;> conv => whnf) | fail)
    all_goals refine ⟨[], ?_⟩
    repeat (any_goals (first | exact True.intro | exact rfl | with_reducible_and_instances rfl | exact (by kernel_rfl) | refine And.intro ?_ ?_))
    all_goals conv => whnf
end Go.Proofs.YtbjmdnemeidpjaaGreat
/- Numbers of any length: plain bounds. -/
namespace Go.Proofs.YtbjmdnemeidpjaaGreat
set_option linter.unusedSimpArgs false
set_option linter.unusedVariables false
open Go.RowKit
set_option maxRecDepth 100000
theorem few_mono {j k : Nat} {z : Int} (h : few j z) (hk : j ≤ k) : few k z := Nat.lt_of_lt_of_le h (Nat.pow_le_pow_right (by omega) hk)
theorem few_mul {j k : Nat} {x y : Int} (hx : few j x) (hy : few k y) : few (j + k) (x * y) := by
  unfold few at *
  rw [Int.natAbs_mul, Nat.pow_add]
  exact Nat.mul_lt_mul'' hx hy
theorem divZ_abs (a c : Int) (up : Bool) (hc : 0 < c) : (divZ a c up).natAbs ≤ a.natAbs + 1 := by
  rw [← quoN_div a c up hc]
  have : quoN a.natAbs c.natAbs (up != decide (a < 0)) ≤ a.natAbs + 1 := by
    have := Nat.div_le_self a.natAbs c.natAbs
    unfold quoN
    split <;> omega
  split <;> omega
theorem few_div {k : Nat} {a c : Int} {up : Bool} (ha : few k a) (hc : 0 < c) : few (k + 1) (divZ a c up) := by
  have h := divZ_abs a c up hc
  have hp : (65536 : Nat) ^ (k + 1) = 65536 ^ k * 65536 := Nat.pow_succ ..
  unfold few at *
  omega
theorem toldZ_in {z : Int} (h : -9223372036854775808 ≤ z ∧ z ≤ 9223372036854775807) : toldZ z = (z, 0) := if_pos h
end Go.Proofs.YtbjmdnemeidpjaaGreat
/- Numbers of any length: sums of rows, two words. -/
namespace Go.Proofs.YtbjmdnemeidpjaaGreat
set_option linter.unusedSimpArgs false
set_option linter.unusedVariables false
open Go.RowKit
set_option maxRecDepth 100000
theorem sum_take_succ {l : List Int} {k : Nat} {x : Int} (hx : l[k]? = some x) : (l.take (k + 1)).sum = (l.take k).sum + x := by
  rw [List.take_add_one, hx, List.sum_append]; simp
theorem sum_abs : ∀ (l : List Int), (∀ z ∈ l, in64 z) → l.sum.natAbs ≤ l.length * 9223372036854775808
  | [], _ => by simp
  | x :: l, h => by
    have h1 := h x (List.mem_cons_self ..)
    have h2 := sum_abs l fun z hz => h z (List.mem_cons_of_mem _ hz)
    unfold in64 at h1
    rw [List.sum_cons, List.length_cons, Nat.add_mul]
    omega
theorem few_sum5 {l : List Int} (h : ∀ z ∈ l, in64 z) (hn : l.length ≤ 65536) : few 5 l.sum := by
  have := sum_abs l h
  have : l.length * 9223372036854775808 ≤ 65536 * 9223372036854775808 := Nat.mul_le_mul_right _ hn
  show l.sum.natAbs < 65536 ^ 5
  have e : (65536 : Nat) ^ 5 = 1208925819614629174706176 := by decide
  omega
theorem take_in {l : List Int} (h : ∀ z ∈ l, in64 z) (k : Nat) : ∀ z ∈ l.take k, in64 z := fun z hz => h z (List.mem_of_mem_take hz)
theorem total_num (l : List Int) (hl : ∀ z ∈ l, in64 z) (hn : l.length ≤ 65536) : Sat Tryz.prog 65 [.d (lD l)] [] (.d (numD l.sum)) [] := by
  have hm : (l.map lR).length = l.length := List.length_map _
  refine sat_of_vc (T := tiOf Tryz.prog) (E := E0) Tryz.func65 rfl rfl hE0 hm0 rfl ?_
  conv => whnf
  repeat' (first | exact True.intro | ((first | refine And.intro (fun _ => ?_) tf | refine And.intro ft (fun _ => ?_) | refine And.intro (by kernel_rfl) ?_ | refine And.intro (by decide) ?_ | refine And.intro (fun _ => ?_) (fun h => absurd h (by decide)) | refine And.intro (fun h => absurd h (by decide)) (fun _ => ?_) | fail); conv => whnf) | (refine And.intro (fun _ => ?_) (fun _ => ?_) <;> conv => whnf) | fail)
  all_goals try (refine Or.inl ?_; conv => whnf)
  repeat' (first | exact True.intro | ((first | refine And.intro (fun _ => ?_) tf | refine And.intro ft (fun _ => ?_) | refine And.intro (by kernel_rfl) ?_ | refine And.intro (by decide) ?_ | refine And.intro (fun _ => ?_) (fun h => absurd h (by decide)) | refine And.intro (fun h => absurd h (by decide)) (fun _ => ?_) | fail); conv => whnf) | (refine And.intro (fun _ => ?_) (fun _ => ?_) <;> conv => whnf) | fail)
  refine ⟨Nat × Int × List Int, fun y => y.1 ≤ l.length ∧ y.2.1 = (l.take y.1).sum ∧ y.2.2 = canL y.2.1.natAbs, fun y => ([(4, iA y.1), (3, .ptr 1 0), (2, .ptr 0 0), (0, .d (lD l))], [.cells [bA false, .d (.v (.slice none 0 0))], .cells [bA (decide (y.2.1 < 0)), .d (lD y.2.2)]]), fun y => l.length - y.1, ⟨(0, 0, []), ⟨Nat.zero_le _, rfl, canL_zero.symm⟩, ?_⟩, ?_⟩
  · all_goals refine ⟨[], ?_⟩
    repeat (any_goals (first | exact True.intro | exact rfl | with_reducible_and_instances rfl | exact (by kernel_rfl) | refine And.intro ?_ ?_))
    all_goals conv => whnf
  rintro ⟨k, S, d⟩ ⟨(hk : k ≤ l.length), (hS : S = (l.take k).sum), (hd : d = canL S.natAbs)⟩
  subst hd
  conv => whnf
  by_cases hlt : k < l.length
  · have hx : l[k]? = some l[k] := List.getElem?_eq_getElem hlt
    have hz := hl _ (List.mem_of_getElem? hx)
    generalize l[k] = z at hx hz
    have o1 := of_num z hz
    have fS : few 5 S := by rw [hS]; exact few_sum5 (take_in hl k) (by rw [List.length_take]; omega)
    have ad := add_few (k := 5) (by omega) fS (few_mono (few_i64 hz) (by omega))
    repeat' (first | exact True.intro | ((first | refine ⟨k, _, rfl, map_get hx, ?_⟩ | refine Or.inl ?_ | refine And.intro (fun _ => ?_) tf | refine And.intro ft (fun _ => ?_) | refine And.intro (by kernel_rfl) ?_ | refine And.intro (by decide) ?_ | refine And.intro (fun _ => ?_) (fun h => absurd h (by decide)) | refine And.intro (fun h => absurd h (by decide)) (fun _ => ?_) | refine ⟨_, _, o1.pu rfl rfl, ?_⟩ | refine ⟨_, _, ad.pu rfl rfl, ?_⟩ | fail); conv => whnf) | (refine And.intro (fun _ => ?_) (fun _ => ?_) <;> conv => whnf) | fail)
    all_goals try (exfalso; simp only [decide_eq_true_eq, decide_eq_false_iff_not, Bool.not_eq_true', Bool.not_eq_false', Bool.not_eq_true, Bool.not_eq_false, beq_iff_eq, bne_iff_ne, beq_eq_false_iff_ne, bne_eq_false_iff_eq, ne_eq, Decidable.not_not] at *; first | omega | contradiction | (simp_all; done) | (simp_all; omega))
    refine ⟨(k + 1, S + z, canL (S + z).natAbs), ⟨hlt, show S + z = (l.take (k + 1)).sum by rw [sum_take_succ hx, hS], rfl⟩, show l.length - (k + 1) < l.length - k by omega, ?_⟩
    all_goals refine ⟨[], ?_⟩
    repeat (any_goals (first | exact True.intro | exact rfl | with_reducible_and_instances rfl | exact (by kernel_rfl) | refine And.intro ?_ ?_))
    all_goals conv => whnf
    exact wk1 (show k ≤ _ by omega)
  · have hke : k = l.length := by omega
    subst hke
    rw [List.take_length] at hS
    subst hS
    repeat' (first | exact True.intro | ((first | refine Or.inl ?_ | refine And.intro (fun _ => ?_) tf | refine And.intro ft (fun _ => ?_) | refine And.intro (by kernel_rfl) ?_ | refine And.intro (by decide) ?_ | refine And.intro (fun _ => ?_) (fun h => absurd h (by decide)) | refine And.intro (fun h => absurd h (by decide)) (fun _ => ?_) | fail); conv => whnf) | (refine And.intro (fun _ => ?_) (fun _ => ?_) <;> conv => whnf) | fail)
    all_goals try (exfalso; simp only [decide_eq_true_eq, decide_eq_false_iff_not, Bool.not_eq_true', Bool.not_eq_false', Bool.not_eq_true, Bool.not_eq_false, beq_iff_eq, bne_iff_ne, beq_eq_false_iff_ne, bne_eq_false_iff_eq, ne_eq, Decidable.not_not] at *; first | omega | contradiction | (simp_all; done) | (simp_all; omega))
    all_goals refine ⟨[], ?_⟩
    repeat (any_goals (first | exact True.intro | exact rfl | with_reducible_and_instances rfl | exact (by kernel_rfl) | refine And.intro ?_ ?_))
    all_goals conv => whnf
theorem sum_num (l : List Int) (hl : ∀ z ∈ l, in64 z) (hn : l.length ≤ 65536) : Sat Tryz.prog 79 [.d (lD l)] [] (.tup [iA (toldZ l.sum).1, iA (toldZ l.sum).2]) [] := by
  have t1 := total_num l hl hn
  have t2 := told_num l.sum (by have := few_len (few_sum5 hl hn); omega)
  refine sat_of_vc (T := tiOf Tryz.prog) (E := E0) Tryz.func79 rfl rfl hE0 hm0 rfl ?_
  conv => whnf
  repeat' (first | exact True.intro | ((first | refine Or.inl ?_ | refine And.intro (fun _ => ?_) tf | refine And.intro ft (fun _ => ?_) | refine And.intro (by kernel_rfl) ?_ | refine And.intro (by decide) ?_ | refine And.intro (fun _ => ?_) (fun h => absurd h (by decide)) | refine And.intro (fun h => absurd h (by decide)) (fun _ => ?_) | refine ⟨_, _, t1.pu rfl rfl, ?_⟩ | refine ⟨_, _, t2.pu rfl rfl, ?_⟩ | fail); conv => whnf) | (refine And.intro (fun _ => ?_) (fun _ => ?_) <;> conv => whnf) | fail)
  all_goals try (exfalso; simp only [decide_eq_true_eq, decide_eq_false_iff_not, Bool.not_eq_true', Bool.not_eq_false', Bool.not_eq_true, Bool.not_eq_false, beq_iff_eq, bne_iff_ne, beq_eq_false_iff_ne, bne_eq_false_iff_eq, ne_eq, Decidable.not_not] at *; first | omega | contradiction | (simp_all; done) | (simp_all; omega))
  all_goals refine ⟨[], ?_⟩
  repeat (any_goals (first | exact True.intro | exact rfl | with_reducible_and_instances rfl | exact (by kernel_rfl) | refine And.intro ?_ ?_))
  all_goals conv => whnf
/-! ### two words -/
def word : Int := 18446744073709551616
theorem word_can : canL word.natAbs = [0, 0, 0, 0, 1] := by
  have h := trim_can (l := [0, 0, 0, 0, 1]) (by intro d hd; simp at hd; omega)
  have e : valL [0, 0, 0, 0, 1] = word.natAbs := by decide
  rw [← e, ← h]
  decide
theorem few_word : few 5 word := by unfold few word; decide
/-- The number of two words. -/
def wideZ (hi lo : Int) : Int := hi * word + lo
theorem wide_num (hi lo : Int) (h : in64 hi) (h0 : 0 ≤ lo) (h1 : lo < word) : Sat Tryz.prog 62 [iA hi, .d (.v (.int .u64 lo))] [] (.d (numD (wideZ hi lo))) [] := by
  have o1 := of_num hi h
  have m1 := mul_num (k := 5) (by omega) (few_mono (few_i64 h) (by omega)) few_word
  have w1 := whole_num lo h0 (by unfold word at h1; omega)
  have fm : few 9 (hi * word) := by have := few_mul (few_i64 h) few_word; exact this
  have fl : few 9 lo := by unfold few word at *; have e : (65536 : Nat) ^ 9 = 22300745198530623141535718272648361505980416 := by decide
                           omega
  have a1 := add_few (k := 9) (by omega) fm fl
  have wc : numD word = nD false [0, 0, 0, 0, 1] := by unfold numD; rw [word_can]; rfl
  rw [wc] at m1
  refine sat_of_vc (T := tiOf Tryz.prog) (E := E0) Tryz.func62 rfl rfl hE0 hm0 rfl ?_
  conv => whnf
  repeat' (first | exact True.intro | ((first | refine Or.inl ?_ | refine And.intro (fun _ => ?_) tf | refine And.intro ft (fun _ => ?_) | refine And.intro (by kernel_rfl) ?_ | refine And.intro (by decide) ?_ | refine And.intro (fun _ => ?_) (fun h => absurd h (by decide)) | refine And.intro (fun h => absurd h (by decide)) (fun _ => ?_) | fail); conv => whnf) | (refine And.intro (fun _ => ?_) (fun _ => ?_) <;> conv => whnf) | fail)
  refine ⟨[(5, .ptr 2 0), (4, .ptr 0 0), (0, iA hi), (1, .d (.v (.int .u64 lo)))], [.cells [bA false, .d (.v (.slice none 0 0))], .dead, .cells [bA false, .d (lD [0, 0, 0, 0, 1])]], ?_, ?_⟩
  · all_goals refine ⟨[], ?_⟩
    repeat (any_goals (first | exact True.intro | exact rfl | with_reducible_and_instances rfl | exact (by kernel_rfl) | refine And.intro ?_ ?_))
    all_goals conv => whnf
  repeat' (first | exact True.intro | ((first | refine Or.inl ?_ | refine And.intro (fun _ => ?_) tf | refine And.intro ft (fun _ => ?_) | refine And.intro (by kernel_rfl) ?_ | refine And.intro (by decide) ?_ | refine And.intro (fun _ => ?_) (fun h => absurd h (by decide)) | refine And.intro (fun h => absurd h (by decide)) (fun _ => ?_) | refine ⟨_, _, o1.pu rfl rfl, ?_⟩ | refine ⟨_, _, m1.pu rfl rfl, ?_⟩ | refine ⟨_, _, w1.pu rfl rfl, ?_⟩ | refine ⟨_, _, a1.pu rfl rfl, ?_⟩ | fail); conv => whnf) | (refine And.intro (fun _ => ?_) (fun _ => ?_) <;> conv => whnf) | fail)
  all_goals try (exfalso; simp only [decide_eq_true_eq, decide_eq_false_iff_not, Bool.not_eq_true', Bool.not_eq_false', Bool.not_eq_true, Bool.not_eq_false, beq_iff_eq, bne_iff_ne, beq_eq_false_iff_ne, bne_eq_false_iff_eq, ne_eq, Decidable.not_not] at *; first | omega | contradiction | (simp_all; done) | (simp_all; omega))
  all_goals refine ⟨[], ?_⟩
  repeat (any_goals (first | exact True.intro | exact rfl | with_reducible_and_instances rfl | exact (by kernel_rfl) | refine And.intro ?_ ?_))
  all_goals conv => whnf
/-- The two words of a number. -/
def hiZ (z : Int) : Int := z / word
def loZ (z : Int) : Int := z % word
theorem wide_split (z : Int) : wideZ (hiZ z) (loZ z) = z := by unfold wideZ hiZ loZ word; omega
instance in64_dec (z : Int) : Decidable (in64 z) := by unfold in64; infer_instance
theorem words_num (z : Int) (hz : few 9 z) : Sat Tryz.prog 63 [.d (numD z)] [] (if in64 (hiZ z) then .tup [iA (hiZ z), .d (.v (.int .u64 (loZ z))), bA true] else .tup [iA 0, .d (.v (.int .u64 0)), bA false]) [] := by
  have d1 := div_num (k := 9) z word false (by omega) hz (few_mono few_word (by omega)) (by decide)
  have wc : numD word = nD false [0, 0, 0, 0, 1] := by unfold numD; rw [word_can]; rfl
  rw [wc] at d1
  have e1 : divZ z word false = hiZ z := rfl
  rw [e1] at d1
  have fh : few 10 (hiZ z) := by have := few_div (k := 9) (up := false) hz (show 0 < word by decide); exact this
  have l1 := long_num (hiZ z) (by have := few_len fh; omega)
  by_cases hin : in64 (hiZ z)
  · rw [longZ_in hin] at l1
    rw [if_pos hin]
    have o1 := of_num (hiZ z) hin
    have m1 := mul_num (k := 5) (by omega) (few_mono (few_i64 hin) (by omega)) few_word
    rw [wc] at m1
    have fm : few 9 (hiZ z * word) := few_mul (few_i64 hin) few_word
    have n1 := neg_num (hiZ z * word) (by have := few_len fm; omega)
    have a1 := add_few (k := 9) (by omega) hz (few_neg fm)
    have e2 : z + -(hiZ z * word) = loZ z := by unfold hiZ loZ word; omega
    rw [e2] at a1
    refine sat_of_vc (T := tiOf Tryz.prog) (E := E0) Tryz.func63 rfl rfl hE0 hm0 rfl ?_
    conv => whnf
    repeat' (first | exact True.intro | ((first | refine Or.inl ?_ | refine And.intro (fun _ => ?_) tf | refine And.intro ft (fun _ => ?_) | refine And.intro (by kernel_rfl) ?_ | refine And.intro (by decide) ?_ | refine And.intro (fun _ => ?_) (fun h => absurd h (by decide)) | refine And.intro (fun h => absurd h (by decide)) (fun _ => ?_) | fail); conv => whnf) | (refine And.intro (fun _ => ?_) (fun _ => ?_) <;> conv => whnf) | fail)
    refine ⟨[(5, .ptr 2 0), (1, .ptr 0 0)], [.cells [bA (decide (z < 0)), .d (lD (canL z.natAbs))], .dead, .cells [bA false, .d (lD [0, 0, 0, 0, 1])]], ?_, ?_⟩
    · all_goals refine ⟨[], ?_⟩
      repeat (any_goals (first | exact True.intro | exact rfl | with_reducible_and_instances rfl | exact (by kernel_rfl) | refine And.intro ?_ ?_))
      all_goals conv => whnf
    have hl0 : 0 ≤ loZ z ∧ loZ z < word := by unfold loZ word; omega
    have hd := canL_dig (loZ z).natAbs
    have hvl := canL_val (loZ z).natAbs
    have hlen := few_len (k := 4) (z := loZ z) (by unfold few; unfold word at hl0; have e : (65536 : Nat) ^ 4 = 18446744073709551616 := by decide
                                                   omega)
    repeat' (first | exact True.intro | ((first | refine And.intro (fun _ => ?_) tf | refine And.intro ft (fun _ => ?_) | refine And.intro (by kernel_rfl) ?_ | refine And.intro (by decide) ?_ | refine And.intro (fun _ => ?_) (fun h => absurd h (by decide)) | refine And.intro (fun h => absurd h (by decide)) (fun _ => ?_) | refine ⟨_, _, d1.pu rfl rfl, ?_⟩ | refine ⟨_, _, l1.pu rfl rfl, ?_⟩ | refine ⟨_, _, o1.pu rfl rfl, ?_⟩ | refine ⟨_, _, m1.pu rfl rfl, ?_⟩ | refine ⟨_, _, n1.pu rfl rfl, ?_⟩ | refine ⟨_, _, a1.pu rfl rfl, ?_⟩ | fail); conv => whnf) | (refine And.intro (fun _ => ?_) (fun _ => ?_) <;> conv => whnf) | fail)
    all_goals try (refine Or.inl ?_; conv => whnf)
    repeat' (first | exact True.intro | ((first | refine And.intro (fun _ => ?_) tf | refine And.intro ft (fun _ => ?_) | refine And.intro (by kernel_rfl) ?_ | refine And.intro (by decide) ?_ | refine And.intro (fun _ => ?_) (fun h => absurd h (by decide)) | refine And.intro (fun h => absurd h (by decide)) (fun _ => ?_) | refine ⟨_, _, d1.pu rfl rfl, ?_⟩ | refine ⟨_, _, l1.pu rfl rfl, ?_⟩ | refine ⟨_, _, o1.pu rfl rfl, ?_⟩ | refine ⟨_, _, m1.pu rfl rfl, ?_⟩ | refine ⟨_, _, n1.pu rfl rfl, ?_⟩ | refine ⟨_, _, a1.pu rfl rfl, ?_⟩ | fail); conv => whnf) | (refine And.intro (fun _ => ?_) (fun _ => ?_) <;> conv => whnf) | fail)
    all_goals try (refine Or.inl ?_; conv => whnf)
    repeat' (first | exact True.intro | ((first | refine And.intro (fun _ => ?_) tf | refine And.intro ft (fun _ => ?_) | refine And.intro (by kernel_rfl) ?_ | refine And.intro (by decide) ?_ | refine And.intro (fun _ => ?_) (fun h => absurd h (by decide)) | refine And.intro (fun h => absurd h (by decide)) (fun _ => ?_) | refine ⟨_, _, d1.pu rfl rfl, ?_⟩ | refine ⟨_, _, l1.pu rfl rfl, ?_⟩ | refine ⟨_, _, o1.pu rfl rfl, ?_⟩ | refine ⟨_, _, m1.pu rfl rfl, ?_⟩ | refine ⟨_, _, n1.pu rfl rfl, ?_⟩ | refine ⟨_, _, a1.pu rfl rfl, ?_⟩ | fail); conv => whnf) | (refine And.intro (fun _ => ?_) (fun _ => ?_) <;> conv => whnf) | fail)
    all_goals try (exfalso; simp only [decide_eq_true_eq, decide_eq_false_iff_not, Bool.not_eq_true', Bool.not_eq_false', Bool.not_eq_true, Bool.not_eq_false, beq_iff_eq, bne_iff_ne, beq_eq_false_iff_ne, bne_eq_false_iff_eq, ne_eq, Decidable.not_not] at *; first | omega | contradiction | (simp_all; done) | (simp_all; omega))
    generalize hL : canL (loZ z).natAbs = l at *
    refine ⟨Nat, fun n => n ≤ l.length, fun n => ([(10, iA ((n : Int) - 1)), (9, .d (.v (.int .u64 (valL (l.drop n))))), (8, .ptr 3 0), (6, iA (hiZ z))], [.dead, .dead, .dead, .cells [bA (decide (loZ z < 0)), .d (lD l)]]), fun n => n, ⟨l.length, Nat.le_refl _, ?_⟩, ?_⟩
    · all_goals refine ⟨[], ?_⟩
      repeat (any_goals (first | exact True.intro | exact rfl | with_reducible_and_instances rfl | exact (by kernel_rfl) | refine And.intro ?_ ?_))
      all_goals conv => whnf
      · rw [List.length_map, wi (by omega) (by omega)]
      · rw [List.drop_length]; rfl
    intro n hn
    conv => whnf
    cases n with
    | zero =>
      have hv0 : valL (l.drop 0) = (loZ z).natAbs := by rw [List.drop_zero, hvl]
      repeat' (first | exact True.intro | ((first | refine Or.inl ?_ | refine And.intro (fun _ => ?_) tf | refine And.intro ft (fun _ => ?_) | refine And.intro (by kernel_rfl) ?_ | refine And.intro (by decide) ?_ | refine And.intro (fun _ => ?_) (fun h => absurd h (by decide)) | refine And.intro (fun h => absurd h (by decide)) (fun _ => ?_) | fail); conv => whnf) | (refine And.intro (fun _ => ?_) (fun _ => ?_) <;> conv => whnf) | fail)
      all_goals try (exfalso; simp only [decide_eq_true_eq, decide_eq_false_iff_not, Bool.not_eq_true', Bool.not_eq_false', Bool.not_eq_true, Bool.not_eq_false, beq_iff_eq, bne_iff_ne, beq_eq_false_iff_ne, bne_eq_false_iff_eq, ne_eq, Decidable.not_not] at *; first | omega | contradiction | (simp_all; done) | (simp_all; omega))
      all_goals refine ⟨[], ?_⟩
      repeat (any_goals (first | exact True.intro | exact rfl | with_reducible_and_instances rfl | exact (by kernel_rfl) | refine And.intro ?_ ?_))
      all_goals conv => whnf
      rw [hv0]
      congr 3
      omega
    | succ m =>
      have hm : m + 1 ≤ l.length := hn
      have hx : l[m]? = some l[m] := List.getElem?_eq_getElem (by omega)
      have em : ((m + 1 : Nat) : Int) - 1 = (m : Int) := by omega
      have hg : l[m] = lb l m := by unfold lb; rw [hx]; rfl
      have hb := lb_dig hd m
      have hs := valL_drop l m
      have hle : valL (l.drop m) ≤ (loZ z).natAbs := by
        have h := (valL_take l m hd).1
        rw [hvl] at h
        have : 1 * valL (l.drop m) ≤ 65536 ^ m * valL (l.drop m) := Nat.mul_le_mul_right _ (Nat.pos_of_ne_zero (by simp))
        omega
      unfold word at hl0
      repeat' (first | exact True.intro | ((first | refine ⟨m, _, em, map_get hx, ?_⟩ | refine Or.inl ?_ | refine And.intro (fun _ => ?_) tf | refine And.intro ft (fun _ => ?_) | refine And.intro (by kernel_rfl) ?_ | refine And.intro (by decide) ?_ | refine And.intro (fun _ => ?_) (fun h => absurd h (by decide)) | refine And.intro (fun h => absurd h (by decide)) (fun _ => ?_) | fail); conv => whnf) | (refine And.intro (fun _ => ?_) (fun _ => ?_) <;> conv => whnf) | fail)
      all_goals try (exfalso; simp only [decide_eq_true_eq, decide_eq_false_iff_not, Bool.not_eq_true', Bool.not_eq_false', Bool.not_eq_true, Bool.not_eq_false, beq_iff_eq, bne_iff_ne, beq_eq_false_iff_ne, bne_eq_false_iff_eq, ne_eq, Decidable.not_not] at *; first | omega | contradiction | (simp_all; done) | (simp_all; omega))
      refine ⟨m, show m ≤ _ by omega, Nat.lt_succ_self m, ?_⟩
      all_goals refine ⟨[], ?_⟩
      repeat (any_goals (first | exact True.intro | exact rfl | with_reducible_and_instances rfl | exact (by kernel_rfl) | refine And.intro ?_ ?_))
      all_goals conv => whnf
      · rw [em, wi (by omega) (by omega)]
      · rw [hg, IntKind.wrap_u64, IntKind.wrap_u64, IntKind.wrap_u64, hs]
        congr 3
        omega
  · have h2 := longZ_out (z := hiZ z) hin
    rw [if_neg hin]
    refine sat_of_vc (T := tiOf Tryz.prog) (E := E0) Tryz.func63 rfl rfl hE0 hm0 rfl ?_
    conv => whnf
    repeat' (first | exact True.intro | ((first | refine Or.inl ?_ | refine And.intro (fun _ => ?_) tf | refine And.intro ft (fun _ => ?_) | refine And.intro (by kernel_rfl) ?_ | refine And.intro (by decide) ?_ | refine And.intro (fun _ => ?_) (fun h => absurd h (by decide)) | refine And.intro (fun h => absurd h (by decide)) (fun _ => ?_) | fail); conv => whnf) | (refine And.intro (fun _ => ?_) (fun _ => ?_) <;> conv => whnf) | fail)
    refine ⟨[(5, .ptr 2 0), (1, .ptr 0 0)], [.cells [bA (decide (z < 0)), .d (lD (canL z.natAbs))], .dead, .cells [bA false, .d (lD [0, 0, 0, 0, 1])]], ?_, ?_⟩
    · all_goals refine ⟨[], ?_⟩
      repeat (any_goals (first | exact True.intro | exact rfl | with_reducible_and_instances rfl | exact (by kernel_rfl) | refine And.intro ?_ ?_))
      all_goals conv => whnf
    repeat' (first | exact True.intro | ((first | refine Or.inl ?_ | refine And.intro (fun _ => ?_) tf | refine And.intro ft (fun _ => ?_) | refine And.intro (by kernel_rfl) ?_ | refine And.intro (by decide) ?_ | refine And.intro (fun _ => ?_) (fun h => absurd h (by decide)) | refine And.intro (fun h => absurd h (by decide)) (fun _ => ?_) | refine ⟨_, _, d1.pu rfl rfl, ?_⟩ | refine ⟨_, _, l1.pu rfl rfl, ?_⟩ | fail); conv => whnf) | (refine And.intro (fun _ => ?_) (fun _ => ?_) <;> conv => whnf) | fail)
    all_goals try (exfalso; simp only [decide_eq_true_eq, decide_eq_false_iff_not, Bool.not_eq_true', Bool.not_eq_false', Bool.not_eq_true, Bool.not_eq_false, beq_iff_eq, bne_iff_ne, beq_eq_false_iff_ne, bne_eq_false_iff_eq, ne_eq, Decidable.not_not] at *; first | omega | contradiction | (simp_all; done) | (simp_all; omega))
    all_goals refine ⟨[], ?_⟩
    repeat (any_goals (first | exact True.intro | exact rfl | with_reducible_and_instances rfl | exact (by kernel_rfl) | refine And.intro ?_ ?_))
    all_goals conv => whnf
end Go.Proofs.YtbjmdnemeidpjaaGreat
/- The histograms' contracts, as the conditions want them. -/
namespace Go.Proofs.YtbjmdnemeidpjaaGreat
set_option linter.unusedSimpArgs false
set_option linter.unusedVariables false
open Go.RowKit
set_option maxRecDepth 100000
theorem Sat.of_sl {P : Program} {g : FuncId} {s : Nat} {rows : List (List D)} {us : List Value} {args : List AV} {vals : List Value} {r : AV} {rv : Value} (hf : FlatVs rows.flatten us) (ha : FlatWs args vals) (hr : FlatW r rv)
    (h : ∀ (w : World) (A : Option Addr) (c : Nat), rows.length ≤ c → c ≤ maxLen → Rd w w.heap.size s A rows.length us → Calls P g (Value.slice A rows.length c :: vals).toArray w fun e w' => e = .returned rv ∧ Below w.heap.size w w') : Sat P g (.d (.sl s rows) :: args) [] r [] := by
  intro F ρ w vs En hv
  cases hv with | cons hv hvs => cases hv with | d hv =>
  obtain ⟨A, c, rfl, h1, h2, h3⟩ := hv.sl_rd En.fb hf
  have := ha.eq hvs
  subst this
  refine (h w A c h1 h2 h3).mono ?_
  rintro e w' ⟨rfl, hb⟩
  obtain ⟨S, E'⟩ := step_below En hb
  exact ⟨rv, rfl, F, ρ, S, Keep.refl _, E', hr.ra⟩
abbrev hR (l : List Int) : List D := l.map iD
abbrev hD (l : List Int) : D := .agg (hR l)
theorem hR_flat : ∀ (l : List Int), FlatVs (hR l) (l.map i64v)
  | [] => .nil
  | z :: l => .cons (.v _) rfl (hR_flat l)
theorem hD_flat (l : List Int) : FlatV (hD l) (.agg (hc l)) := .agg (hR_flat l)
theorem lR_flats : ∀ (l : List Int), FlatVs (l.map lR).flatten (l.map i64v)
  | [] => .nil
  | z :: l => .cons (.v _) rfl (lR_flats l)
/-- A wide number. -/
abbrev wD (z : Int) : D := .agg [.v (.int .i64 (hiZ z)), .v (.int .u64 (loZ z))]
theorem wD_flat (z : Int) : FlatV (wD z) (.agg (wv z)) := .agg (.cons (.v _) rfl (.cons (.v _) rfl .nil))
theorem bucket_sat (v : Int) (h : in64 v) : Sat Tryz.prog 56 [iA v] [] (iA (bkt v)) [] :=
  .of_same (.cons (.d (.v _)) .nil) (.d (.v _)) fun w => bucket_any v w h.1 h.2
theorem of_sat (l : List Int) (hl : ∀ z ∈ l, in64 z) (hn : l.length ≤ 140737488351232) : Sat Tryz.prog 38 [.d (lD l)] [] (.d (hD (histL l))) [] :=
  .of_sl (lR_flats l) .nil (.d (hD_flat _)) fun w A c _ _ hr => by
    rw [List.length_map] at hr ⊢
    exact of_any A l.length c l w hr hn hl
theorem add_sat (l : List Int) (v : Int) (hl : l.length = 65) (hv : in64 v) (hx : ∀ z ∈ l, in64 z) : Sat Tryz.prog 54 [.d (hD l), iA v] [] (.tup [.d (hD (addL l v)), iA (addE l v)]) [] :=
  .of_calls (.cons (.d (hD_flat l)) (.cons (.d (.v _)) .nil)) (.tup (.cons (.d (hD_flat _)) (.cons (.d (.v _)) .nil))) fun w => add_any l v w hl hv.1 hv.2 fun z hz => (hx z hz).2
theorem total_sat (l : List Int) (hl : l.length = 65) (hx : ∀ z ∈ l, in64 z) : Sat Tryz.prog 55 [.d (hD l)] [] (.d (wD l.sum)) [] :=
  .of_calls (.cons (.d (hD_flat l)) .nil) (.d (wD_flat _)) fun w => total_any l w hl hx
end Go.Proofs.YtbjmdnemeidpjaaGreat
/- Histograms, the plain laws: counts, running sums, ranks, parts; the document's Bucket; arrays compared. -/
namespace Go.Proofs.YtbjmdnemeidpjaaGreat
open Go.RowKit
set_option linter.unusedVariables false
set_option linter.unusedSimpArgs false
def inL (xs : List Int) : Prop := ∀ x ∈ xs, -9223372036854775808 ≤ x ∧ x ≤ 9223372036854775807
theorem foldBump_len : ∀ (xs l : List Int), (xs.foldl (fun l v => bump l (bkt v)) l).length = l.length
  | [], l => rfl
  | x :: r, l => by rw [List.foldl_cons, foldBump_len r, bump_len]
theorem histL_len (xs : List Int) : (histL xs).length = 65 := by unfold histL; rw [foldBump_len]; rfl
theorem foldBump_get : ∀ (xs l : List Int) (b : Nat), l.length = 65 → b < 65 → (xs.foldl (fun l v => bump l (bkt v)) l)[b]?.getD 0 = l[b]?.getD 0 + (xs.countP (fun v => bkt v == b) : Nat)
  | [], l, b, _, _ => by simp
  | x :: r, l, b, hl, hb => by
    rw [List.foldl_cons, foldBump_get r _ b (by rw [bump_len]; exact hl) hb, List.countP_cons]
    unfold bump
    rw [List.getElem?_set]
    by_cases h : bkt x = b
    · subst h; simp [hl, hb]; omega
    · simp [h]
theorem histL_get (xs : List Int) (b : Nat) (hb : b < 65) : (histL xs)[b]?.getD 0 = (xs.countP (fun v => bkt v == b) : Nat) := by
  unfold histL
  rw [foldBump_get xs z65 b rfl hb]
  have : z65[b]?.getD 0 = 0 := by
    unfold z65
    rw [List.getElem?_replicate, if_pos hb]; rfl
  rw [this]; omega
theorem ext65 {l l' : List Int} (h : l.length = 65) (h' : l'.length = 65) (he : ∀ b, b < 65 → l[b]?.getD 0 = l'[b]?.getD 0) : l = l' := by
  refine List.ext_getElem? fun b => ?_
  by_cases hb : b < 65
  · have := he b hb
    rw [List.getElem?_eq_getElem (by omega), List.getElem?_eq_getElem (by omega)] at this ⊢
    simpa using this
  · rw [List.getElem?_eq_none (by omega), List.getElem?_eq_none (by omega)]
theorem histL_mem (xs : List Int) (x : Int) (h : x ∈ histL xs) : 0 ≤ x ∧ x ≤ xs.length := by
  obtain ⟨b, hb, he⟩ := List.getElem_of_mem h
  have h1 := histL_get xs b (by rw [histL_len] at hb; exact hb)
  rw [List.getElem?_eq_getElem hb, he] at h1
  simp at h1
  have := List.countP_le_length (p := fun v => bkt v == b) (l := xs)
  omega
theorem histL_ok (xs : List Int) : okH (histL xs) = true := by
  unfold okH
  rw [List.all_eq_true]
  intro x hx
  exact decide_eq_true (histL_mem xs x hx).1
theorem countP_lt_succ (xs : List Int) (j : Nat) : xs.countP (fun v => decide (bkt v < j + 1)) = xs.countP (fun v => decide (bkt v < j)) + xs.countP (fun v => bkt v == j) := by
  induction xs with
  | nil => rfl
  | cons x r ih =>
    simp only [List.countP_cons, ih, decide_eq_true_eq, beq_iff_eq]
    rcases Nat.lt_trichotomy (bkt x) j with h | h | h
    · rw [if_pos (by omega), if_pos h, if_neg (by omega)]; omega
    · rw [if_pos (by omega), if_neg (by omega), if_pos h]; omega
    · rw [if_neg (by omega), if_neg (by omega), if_neg (by omega)]; omega
theorem histL_cum (xs : List Int) : ∀ j, j ≤ 65 → ((histL xs).take j).sum = (xs.countP (fun v => decide (bkt v < j)) : Nat)
  | 0, _ => by simp
  | j + 1, hj => by
    have hx : (histL xs)[j]? = some ((histL xs)[j]'(by rw [histL_len]; omega)) := List.getElem?_eq_getElem _
    have h1 := histL_get xs j (by omega)
    rw [hx] at h1
    rw [List.take_add_one, List.sum_append, histL_cum xs j (by omega), countP_lt_succ, hx]
    simp at h1 ⊢
    omega
theorem countP_all65 (xs : List Int) (hx : inL xs) : xs.countP (fun v => decide (bkt v < 65)) = xs.length := by
  rw [List.countP_eq_length]
  intro x h
  exact decide_eq_true (bkt_lt x (hx x h).2)
theorem histL_sum (xs : List Int) (hx : inL xs) : (histL xs).sum = xs.length := by
  have h := histL_cum xs 65 (Nat.le_refl _)
  rw [List.take_of_length_le (by rw [histL_len]; exact Nat.le_refl _), countP_all65 xs hx] at h
  exact h
theorem histL_snoc (xs : List Int) (v : Int) : histL (xs ++ [v]) = bump (histL xs) (bkt v) := by unfold histL; rw [List.foldl_append]; rfl
/-! ### arrays compared -/
/-! ### the document's Bucket -/
theorem bitLen_pos {x : Nat} (h0 : x ≠ 0) (h : x < 9223372036854775808) : Lib.bitLen x = Lib.bitLen (x / 2) + 1 := by
  unfold Lib.bitLen
  rw [show (64 : Nat) = 63 + 1 from rfl, Lib.bitLenAux, if_neg h0, ← Lib.bitLenAux_fuel 63 (x / 2) (by omega) (63 + 1) (by omega)]
  omega
set_option maxRecDepth 100000 in
theorem refBucket_any (v : Int) (w : World) (h1 : -9223372036854775808 ≤ v) (h2 : v ≤ 9223372036854775807) :
    Calls Tryz.prog 66 #[.int .i64 v] w fun e w' => e = .returned (.int .i64 (bkt v)) ∧ w = w' := by
  by_cases c1 : v < 0
  · have HE := hide (show bkt v = 0 from if_pos c1)
    go_enter Tryz.func66, Tryz.ntmps66
    go_wp2
    go_ret
    exact ⟨ret_int (by rw [HE.out]; rfl), rfl⟩
  have HE : Hid ((bkt v : Int) = Lib.bitLen v.toNat + 1) := hide (by
    unfold bkt
    rw [if_neg c1]
    by_cases c2 : v = 0
    · subst c2; rfl
    · rw [if_neg c2]; simp)
  have hb := bitLen63 v.toNat (by omega)
  go_enter Tryz.func66, Tryz.ntmps66
  go_wp2
  go_loop [0, 3] (fun v' n => ∃ (x : Int) (k : Nat), v' = .int .i64 x ∧ n = .int .i64 k ∧ 0 ≤ x ∧ x ≤ 9223372036854775807 ∧ 1 ≤ k ∧ Lib.bitLen x.toNat + k = Lib.bitLen v.toNat + 1) (fun v' _ => (intOf v').toNat)
  case atStart => exact ⟨v, 1, rfl, rfl, by omega, h2, by omega, rfl⟩
  case round =>
    obtain ⟨x, k, rfl, rfl, hx0, hx1, hk, hr⟩ := hrel
    have HR := hide hr
    clear hr
    by_cases hx : 0 < x
    · have hk2 : k ≤ 64 := by have := HR.out; omega
      go_wp2
      go_round
      case rel =>
        refine ⟨x / 2, k + 1, rfl, by go_num, by omega, by omega, by omega, ?_⟩
        have := HR.out
        rw [bitLen_pos (by omega) (by omega)] at this
        rw [show (x / 2).toNat = x.toNat / 2 by omega]
        omega
      case measure => simp [intOf]; omega
    · have hk2 : Lib.bitLen x.toNat = 0 := by rw [show x.toNat = 0 by omega]; decide
      have hk3 : k ≤ 64 := by have := HR.out; omega
      have HK := hide hk2
      clear hk2
      go_wp2
      go_ret
      exact ⟨ret_int (by rw [HE.out]; have := HR.out; have := HK.out; omega), rfl⟩
end Go.Proofs.YtbjmdnemeidpjaaGreat
