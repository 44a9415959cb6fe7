/- Parts Rk, Rl, DivPlain, Div, Safe, SafeAdd, Gap, ClkA, ClkB of the proof, put together. -/
import Derived.Test.YtgidaifoiljgoaaM6
import Derived.Test.YtgidaifoiljgoaaProg
import Derived.Test.YtgidaifoiljgoaaShelf
import Derived.Deep.CutRange
import Derived.Deep.CutBlock
import Derived.Laws.Bits64b
import Derived.Outline
import Derived.Lib.ItoaNum
import Derived.Deep.Cut
/- Numbers of any length: Mul. -/
namespace Go.Proofs.Ytgidaifoiljgoaa
set_option linter.unusedSimpArgs false
set_option linter.unusedVariables false
open Go.RowKit
set_option maxRecDepth 100000
theorem valL_set : ∀ (l : List Int) (j : Nat) (d : Int), j < l.length → valL (l.set j d) + 65536 ^ j * (lb l j).toNat = valL l + 65536 ^ j * d.toNat
  | [], j, d, h => by simp at h
  | x :: l, 0, d, h => by simp [valL, lb]; omega
  | x :: l, j + 1, d, h => by
    have ih := valL_set l j d (by simpa using h)
    have e : lb (x :: l) (j + 1) = lb l j := by simp [lb]
    rw [List.set_cons_succ, valL, valL, e, Nat.pow_succ, Nat.mul_comm (65536 ^ j) 65536, Nat.mul_assoc, Nat.mul_assoc]
    omega
theorem digL_set {l : List Int} {j : Nat} {d : Int} (h : digL l) (h0 : 0 ≤ d) (h1 : d < 65536) : digL (l.set j d) := fun x hx => by
  rcases List.mem_or_eq_of_mem_set hx with e | e
  · exact h x e
  · subst e; exact ⟨h0, h1⟩
theorem valL_take_succ (l : List Int) (i : Nat) (hd : digL l) : valL (l.take (i + 1)) = valL (l.take i) + 65536 ^ i * (lb l i).toNat := by
  have h1 := (valL_take l i hd).1
  have h2 := (valL_take l (i + 1) hd).1
  have h3 := valL_drop l i
  rw [h3, Nat.mul_add, ← Nat.mul_assoc, ← Nat.pow_succ] at h1
  generalize 65536 ^ (i + 1) * valL (l.drop (i + 1)) = Z at h1 h2
  omega
theorem valL_take_all {l : List Int} {k : Nat} (h : l.length ≤ k) : valL (l.take k) = valL l := by rw [List.take_of_length_le h]
theorem valL_zeros : ∀ (n : Nat), valL (List.replicate n 0) = 0
  | 0 => rfl
  | n + 1 => by rw [List.replicate_succ, valL, valL_zeros n]; rfl
/-- How far a row of a product has come. -/
structure MulI (a b : List Int) (i k : Nat) (c : Int) (out : List Int) : Prop where
  len : out.length = a.length + b.length + 1
  dig : digL out
  c0 : 0 ≤ c
  c1 : c ≤ 65535
  val : valL out + 65536 ^ (i + k) * c.toNat = valL (a.take i) * valL b + 65536 ^ i * (lb a i).toNat * valL (b.take k)
theorem MulI.idx {a b : List Int} {i k : Nat} {c : Int} {out : List Int} (I : MulI a b i k c out) (da : digL a) (db : digL b) (hi : i < a.length) (h : k < b.length ∨ 0 < c) : i + k < out.length := by
  rw [I.len]
  rcases h with h | h
  · omega
  · have hv := I.val
    have t1 := (valL_take b k db).1
    have t2 := (valL_take b b.length db).2
    have t3 := valL_take_succ a i da
    have t4 := (valL_take a (i + 1) da).2
    rw [List.take_length] at t2
    have hle : valL (b.take k) ≤ valL b := by rw [t1]; exact Nat.le_add_right _ _
    have h1 : valL (a.take i) * valL b + 65536 ^ i * (lb a i).toNat * valL (b.take k) ≤ valL (a.take (i + 1)) * valL b := by
      rw [t3, Nat.add_mul]
      exact Nat.add_le_add_left (Nat.mul_le_mul_left _ hle) _
    have h2 : valL (a.take (i + 1)) * valL b < 65536 ^ (i + 1 + b.length) := by
      rw [Nat.pow_add]
      exact Nat.mul_lt_mul'' t4 t2
    have h3 : 65536 ^ (i + k) * 1 ≤ 65536 ^ (i + k) * c.toNat := Nat.mul_le_mul_left _ (by omega)
    have h4 : (65536 : Nat) ^ (i + k) < 65536 ^ (i + 1 + b.length) := by omega
    have := (Nat.pow_lt_pow_iff_right (by omega : 1 < 65536)).1 h4
    omega
theorem MulI.next {a b : List Int} {i k : Nat} {c : Int} {out : List Int} (I : MulI a b i k c out) (da : digL a) (db : digL b) (hx : i + k < out.length) :
    MulI a b i (k + 1) ((c + (lb out (i + k) + lb a i * lb b k)) / 65536) (out.set (i + k) ((c + (lb out (i + k) + lb a i * lb b k)) % 65536)) := by
  have ha := lb_dig da i
  have hb := lb_dig db k
  have ho := lb_dig I.dig (i + k)
  have h0 := I.c0
  have h1 := I.c1
  have hm : lb a i * lb b k ≤ 65535 * 65535 := Int.mul_le_mul (by omega) (by omega) (by omega) (by omega)
  have hm0 : 0 ≤ lb a i * lb b k := Int.mul_nonneg ha.1 hb.1
  have hmt : (lb a i * lb b k).toNat = (lb a i).toNat * (lb b k).toNat := Int.toNat_mul ha.1 hb.1
  have hv := I.val
  have hs := valL_set out (i + k) ((c + (lb out (i + k) + lb a i * lb b k)) % 65536) hx
  have ht := valL_take_succ b k db
  refine ⟨by rw [List.length_set]; exact I.len, digL_set I.dig (by omega) (by omega), by omega, by omega, ?_⟩
  rw [ht]
  generalize hp : lb a i * lb b k = p at *
  have e1 : ((c + (lb out (i + k) + p)) / 65536).toNat * 65536 + ((c + (lb out (i + k) + p)) % 65536).toNat = c.toNat + (lb out (i + k)).toNat + p.toNat := by omega
  generalize ((c + (lb out (i + k) + p)) / 65536).toNat = q at *
  generalize hr : ((c + (lb out (i + k) + p)) % 65536) = r at *
  rw [← Nat.add_assoc i k 1, Nat.pow_succ, Nat.mul_assoc, Nat.mul_comm 65536 q]
  have e2 : 65536 ^ (i + k) * (q * 65536) + 65536 ^ (i + k) * r.toNat = 65536 ^ (i + k) * c.toNat + 65536 ^ (i + k) * (lb out (i + k)).toNat + 65536 ^ (i + k) * p.toNat := by
    rw [← Nat.mul_add, e1, Nat.mul_add, Nat.mul_add]
  have e3 : 65536 ^ i * (lb a i).toNat * (valL (b.take k) + 65536 ^ k * (lb b k).toNat) = 65536 ^ i * (lb a i).toNat * valL (b.take k) + 65536 ^ (i + k) * p.toNat := by
    rw [Nat.mul_add, hmt, Nat.pow_add]
    congr 1
    rw [Nat.mul_assoc, Nat.mul_assoc, Nat.mul_left_comm (lb a i).toNat]
  rw [e3]
  omega
theorem MulI.fin {a b : List Int} {i k : Nat} {c : Int} {out : List Int} (I : MulI a b i k c out) (da : digL a) (hk : b.length ≤ k) (hc : c ≤ 0) : valL out = valL (a.take (i + 1)) * valL b := by
  have hv := I.val
  rw [show c = 0 by have := I.c0; omega, valL_take_all hk] at hv
  rw [valL_take_succ a i da, Nat.add_mul]
  simpa using hv
theorem mul_num {k : Nat} {x y : Int} (hk : k ≤ 1000) (hx : few k x) (hy : few k y) : Sat Try.prog 110 [.d (numD x), .d (numD y)] [] (.d (numD (x * y))) [] := by
  have lx := few_len hx
  have ly := few_len hy
  have da := canL_dig x.natAbs
  have db := canL_dig y.natAbs
  have va := canL_val x.natAbs
  have vb := canL_val y.natAbs
  generalize hA : canL x.natAbs = A at *
  generalize hB : canL y.natAbs = B at *
  unfold numD
  rw [hA, hB]
  have hlen : IntKind.i64.wrap (IntKind.i64.wrap (((A.map lR).length : Int) + ((B.map lR).length : Int)) + 1) = ((A.length + B.length + 1 : Nat) : Int) := by
    rw [List.length_map, List.length_map, wi (n := (A.length : Int) + B.length) (by omega) (by omega), wi (by omega) (by omega)]; push_cast; rfl
  have hlA : (A.map lR).length = A.length := List.length_map _
  have hlB : (B.map lR).length = B.length := List.length_map _
  refine sat_of_vc (T := tiOf Try.prog) (E := E0) Try.func110 rfl rfl hE0 hm0 rfl ?_
  conv => whnf
  repeat (any_goals (first
    | exact True.intro
    | (refine And.intro (fun _ => ?_) tf; conv => whnf)
    | (refine And.intro ft (fun _ => ?_); conv => whnf)
    | (refine And.intro (by kernel_rfl) ?_; conv => whnf)
    | (refine And.intro (by decide) ?_; conv => whnf)
    | (refine And.intro (fun _ => ?_) (fun h => absurd h (by decide)); conv => whnf)
    | (refine And.intro (fun h => absurd h (by decide)) (fun _ => ?_); conv => whnf)
    | (refine And.intro (fun _ => ?_) (fun _ => ?_) <;> conv => whnf)))
  all_goals try (refine Or.inl ?_; conv => whnf)
  rw [hlen]
  repeat (any_goals (first
    | exact True.intro
    | (refine And.intro (fun _ => ?_) tf; conv => whnf)
    | (refine And.intro ft (fun _ => ?_); conv => whnf)
    | (refine And.intro (by kernel_rfl) ?_; conv => whnf)
    | (refine And.intro (by decide) ?_; conv => whnf)
    | (refine And.intro (fun _ => ?_) (fun h => absurd h (by decide)); conv => whnf)
    | (refine And.intro (fun h => absurd h (by decide)) (fun _ => ?_); conv => whnf)
    | (refine And.intro (fun _ => ?_) (fun _ => ?_) <;> conv => whnf)
    | (refine ⟨_, _, mkf 1 8 (by kernel_rfl) (by omega) (by unfold maxLen; omega), ?_⟩; conv => whnf)))
  all_goals try (refine Or.inl ?_; conv => whnf)
  repeat (any_goals (first
    | exact True.intro
    | (refine And.intro (fun _ => ?_) tf; conv => whnf)
    | (refine And.intro ft (fun _ => ?_); conv => whnf)
    | (refine And.intro (by kernel_rfl) ?_; conv => whnf)
    | (refine And.intro (by decide) ?_; conv => whnf)
    | (refine And.intro (fun _ => ?_) (fun h => absurd h (by decide)); conv => whnf)
    | (refine And.intro (fun h => absurd h (by decide)) (fun _ => ?_); conv => whnf)
    | (refine And.intro (fun _ => ?_) (fun _ => ?_) <;> conv => whnf)
    | (refine ⟨_, _, mkf 1 8 (by kernel_rfl) (by omega) (by unfold maxLen; omega), ?_⟩; conv => whnf)))
  refine ⟨Nat × List Int, fun z => z.1 ≤ A.length ∧ z.2.length = A.length + B.length + 1 ∧ digL z.2 ∧ valL z.2 = valL (A.take z.1) * valL B, fun z => ([(6, iA z.1), (5, .own 3), (2, .ptr 0 0), (3, .ptr 1 0), (4, .ptr 2 0)], [.cells [bA (decide (x < 0)), .d (lD A)], .cells [bA (decide (y < 0)), .d (lD B)], .cells [bA false, .d (.v (.slice none 0 0))], .sl 1 (z.2.map lR)]), fun z => A.length - z.1, ⟨(0, List.replicate (A.length + B.length + 1) 0), ⟨Nat.zero_le _, by simp, fun d hd => by rw [List.eq_of_mem_replicate hd]; omega, by rw [valL_zeros]; simp [valL]⟩, ?_⟩, ?_⟩
  · all_goals refine ⟨[], ?_⟩
    repeat (any_goals (first | exact True.intro | exact rfl | with_reducible_and_instances rfl | exact (by kernel_rfl) | refine And.intro ?_ ?_))
    all_goals conv => whnf
    rw [List.map_replicate]; rfl
  rintro ⟨i, out⟩ ⟨hi, hol, hod, hov⟩
  have hi : i ≤ A.length := hi
  have hol : out.length = A.length + B.length + 1 := hol
  have hod : digL out := hod
  have hov : valL out = valL (A.take i) * valL B := hov
  conv => whnf
  by_cases hlt : i < A.length
  · have hxi : A[i]? = some (lb A i) := by unfold lb; rw [List.getElem?_eq_getElem hlt]; rfl
    repeat (any_goals (first
      | exact True.intro
      | (refine And.intro (fun _ => ?_) tf; conv => whnf)
      | (refine And.intro ft (fun _ => ?_); conv => whnf)
      | (refine And.intro (by kernel_rfl) ?_; conv => whnf)
      | (refine And.intro (by decide) ?_; conv => whnf)
      | (refine And.intro (fun _ => ?_) (fun h => absurd h (by decide)); conv => whnf)
      | (refine And.intro (fun h => absurd h (by decide)) (fun _ => ?_); conv => whnf)
      | (refine And.intro (fun _ => ?_) (fun _ => ?_) <;> conv => whnf)))
    all_goals try (refine Or.inl ?_; conv => whnf)
    repeat (any_goals (first
      | exact True.intro
      | (refine And.intro (fun _ => ?_) tf; conv => whnf)
      | (refine And.intro ft (fun _ => ?_); conv => whnf)
      | (refine And.intro (by kernel_rfl) ?_; conv => whnf)
      | (refine And.intro (by decide) ?_; conv => whnf)
      | (refine And.intro (fun _ => ?_) (fun h => absurd h (by decide)); conv => whnf)
      | (refine And.intro (fun h => absurd h (by decide)) (fun _ => ?_); conv => whnf)
      | (refine And.intro (fun _ => ?_) (fun _ => ?_) <;> conv => whnf)))
    all_goals try (exfalso; simp only [decide_eq_true_eq, decide_eq_false_iff_not, Bool.not_eq_true', Bool.not_eq_false', Bool.not_eq_true, Bool.not_eq_false, beq_iff_eq, bne_iff_ne, beq_eq_false_iff_ne, bne_eq_false_iff_eq, ne_eq, Decidable.not_not] at *; first | omega | contradiction | (simp_all; done) | (simp_all; omega))
    all_goals try (refine Or.inl ?_; conv => whnf)
    repeat (any_goals (first
      | exact True.intro
      | (refine And.intro (fun _ => ?_) tf; conv => whnf)
      | (refine And.intro ft (fun _ => ?_); conv => whnf)
      | (refine And.intro (by kernel_rfl) ?_; conv => whnf)
      | (refine And.intro (by decide) ?_; conv => whnf)
      | (refine And.intro (fun _ => ?_) (fun h => absurd h (by decide)); conv => whnf)
      | (refine And.intro (fun h => absurd h (by decide)) (fun _ => ?_); conv => whnf)
      | (refine And.intro (fun _ => ?_) (fun _ => ?_) <;> conv => whnf)))
    refine ⟨Nat × Int × List Int, fun z => MulI A B i z.1 z.2.1 z.2.2, fun z => ([(8, iA z.1), (7, iA z.2.1), (6, iA i), (5, .own 3), (2, .ptr 0 0), (3, .ptr 1 0), (4, .ptr 2 0)], [.cells [bA (decide (x < 0)), .d (lD A)], .cells [bA (decide (y < 0)), .d (lD B)], .cells [bA false, .d (.v (.slice none 0 0))], .sl 1 (z.2.2.map lR)]), fun z => A.length + B.length + 1 - (i + z.1), ⟨(0, 0, out), ⟨hol, hod, Int.le_refl _, show (0 : Int) ≤ 65535 by decide, by simpa [valL] using hov⟩, ?_⟩, ?_⟩
    · all_goals refine ⟨[], ?_⟩
      repeat (any_goals (first | exact True.intro | exact rfl | with_reducible_and_instances rfl | exact (by kernel_rfl) | refine And.intro ?_ ?_))
      all_goals conv => whnf
    rintro ⟨k1, c, row⟩ I
    have I : MulI A B i k1 c row := I
    have hv1 := I.len
    conv => whnf
    by_cases hgo : k1 < B.length ∨ 0 < c
    · have hix := I.idx da db hlt hgo
      have hwi : IntKind.i64.wrap ((i : Int) + (k1 : Int)) = ((i + k1 : Nat) : Int) := by rw [wi (by omega) (by omega)]; rfl
      have hro : row[i + k1]? = some (lb row (i + k1)) := by unfold lb; rw [List.getElem?_eq_getElem hix]; rfl
      have lim := limb_sat B k1
      have stepw : IntKind.i64.wrap (c + IntKind.i64.wrap (lb row (i + k1) + IntKind.i64.wrap (lb A i * (B[k1]?).getD 0))) = c + (lb row (i + k1) + lb A i * lb B k1) := by
        have ha := lb_dig da i
        have hb := lb_dig db k1
        have ho := lb_dig I.dig (i + k1)
        have h0 := I.c0
        have h1 := I.c1
        have hm : lb A i * lb B k1 ≤ 65535 * 65535 := Int.mul_le_mul (by omega) (by omega) (by omega) (by omega)
        have hm0 : 0 ≤ lb A i * lb B k1 := Int.mul_nonneg ha.1 hb.1
        show IntKind.i64.wrap (c + IntKind.i64.wrap (lb row (i + k1) + IntKind.i64.wrap (lb A i * lb B k1))) = _
        generalize lb A i * lb B k1 = p at *
        rw [wi (n := p) (by omega) (by omega), wi (n := lb row (i + k1) + p) (by omega) (by omega), wi (by omega) (by omega)]
      repeat (any_goals (first
        | exact True.intro
        | (refine And.intro (fun _ => ?_) tf; conv => whnf)
        | (refine And.intro ft (fun _ => ?_); conv => whnf)
        | (refine And.intro (by kernel_rfl) ?_; conv => whnf)
        | (refine And.intro (by decide) ?_; conv => whnf)
        | (refine And.intro (fun _ => ?_) (fun h => absurd h (by decide)); conv => whnf)
        | (refine And.intro (fun h => absurd h (by decide)) (fun _ => ?_); conv => whnf)
        | (refine And.intro (fun _ => ?_) (fun _ => ?_) <;> conv => whnf)))
      all_goals try (refine Or.inl ?_; conv => whnf)
      repeat (any_goals (first
        | exact True.intro
        | (refine And.intro (fun _ => ?_) tf; conv => whnf)
        | (refine And.intro ft (fun _ => ?_); conv => whnf)
        | (refine And.intro (by kernel_rfl) ?_; conv => whnf)
        | (refine And.intro (by decide) ?_; conv => whnf)
        | (refine And.intro (fun _ => ?_) (fun h => absurd h (by decide)); conv => whnf)
        | (refine And.intro (fun h => absurd h (by decide)) (fun _ => ?_); conv => whnf)
        | (refine And.intro (fun _ => ?_) (fun _ => ?_) <;> conv => whnf)))
      all_goals try (exfalso; simp only [decide_eq_true_eq, decide_eq_false_iff_not, Bool.not_eq_true', Bool.not_eq_false', Bool.not_eq_true, Bool.not_eq_false, beq_iff_eq, bne_iff_ne, beq_eq_false_iff_ne, bne_eq_false_iff_eq, ne_eq, Decidable.not_not] at *; first | omega | contradiction | (simp_all; done) | (simp_all; omega))
      · all_goals try (refine Or.inl ?_; conv => whnf)
        repeat (any_goals (first
          | exact True.intro
          | (refine And.intro (fun _ => ?_) tf; conv => whnf)
          | (refine And.intro ft (fun _ => ?_); conv => whnf)
          | (refine And.intro (by kernel_rfl) ?_; conv => whnf)
          | (refine And.intro (by decide) ?_; conv => whnf)
          | (refine And.intro (fun _ => ?_) (fun h => absurd h (by decide)); conv => whnf)
          | (refine And.intro (fun h => absurd h (by decide)) (fun _ => ?_); conv => whnf)
          | (refine ⟨i + k1, hwi, by rw [List.length_map]; exact hix, ?_⟩; conv => whnf)
          | (refine ⟨_, map_get hro, ?_⟩; conv => whnf)
          | (refine ⟨i, _, rfl, map_get hxi, ?_⟩; conv => whnf)
          | (refine ⟨Nat.le_refl _, _, _, map_get hro, rfl, ?_⟩; conv => whnf)
          | (refine And.intro (fun _ => ?_) (fun _ => ?_) <;> conv => whnf)
          | (refine ⟨_, _, lim.pu rfl rfl, ?_⟩; conv => whnf)))
        have hin := I.next da db hix
        have hin0 := hin.c0
        have hin1 := hin.c1
        have hs0 : 0 ≤ c + (lb row (i + k1) + lb A i * lb B k1) := by omega
        refine ⟨(k1 + 1, (c + (lb row (i + k1) + lb A i * lb B k1)) / 65536, row.set (i + k1) ((c + (lb row (i + k1) + lb A i * lb B k1)) % 65536)), hin, show A.length + B.length + 1 - (i + (k1 + 1)) < A.length + B.length + 1 - (i + k1) by omega, ?_⟩
        all_goals refine ⟨[], ?_⟩
        repeat (any_goals (first | exact True.intro | exact rfl | with_reducible_and_instances rfl | exact (by kernel_rfl) | refine And.intro ?_ ?_))
        all_goals conv => whnf
        · exact wk1 (show k1 ≤ _ by omega)
        · show iA (IntKind.i64.wrap ((IntKind.i64.wrap (c + IntKind.i64.wrap (lb row (i + k1) + IntKind.i64.wrap (lb A i * (B[k1]?).getD 0)))).tdiv 65536)) = iA ((c + (lb row (i + k1) + lb A i * lb B k1)) / 65536)
          rw [stepw, Int.tdiv_eq_ediv_of_nonneg hs0, wi (by omega) (by omega)]
        · show AObj.sl 1 ((row.map lR).set (i + k1) [iD ((IntKind.i64.wrap (c + IntKind.i64.wrap (lb row (i + k1) + IntKind.i64.wrap (lb A i * (B[k1]?).getD 0)))).tmod 65536)]) = .sl 1 ((row.set (i + k1) ((c + (lb row (i + k1) + lb A i * lb B k1)) % 65536)).map lR)
          rw [stepw, Int.tmod_eq_emod_of_nonneg hs0, List.map_set]
      · all_goals try (refine Or.inl ?_; conv => whnf)
        repeat (any_goals (first
          | exact True.intro
          | (refine And.intro (fun _ => ?_) tf; conv => whnf)
          | (refine And.intro ft (fun _ => ?_); conv => whnf)
          | (refine And.intro (by kernel_rfl) ?_; conv => whnf)
          | (refine And.intro (by decide) ?_; conv => whnf)
          | (refine And.intro (fun _ => ?_) (fun h => absurd h (by decide)); conv => whnf)
          | (refine And.intro (fun h => absurd h (by decide)) (fun _ => ?_); conv => whnf)
          | (refine ⟨i + k1, hwi, by rw [List.length_map]; exact hix, ?_⟩; conv => whnf)
          | (refine ⟨_, map_get hro, ?_⟩; conv => whnf)
          | (refine ⟨i, _, rfl, map_get hxi, ?_⟩; conv => whnf)
          | (refine ⟨Nat.le_refl _, _, _, map_get hro, rfl, ?_⟩; conv => whnf)
          | (refine And.intro (fun _ => ?_) (fun _ => ?_) <;> conv => whnf)
          | (refine ⟨_, _, lim.pu rfl rfl, ?_⟩; conv => whnf)))
        have hin := I.next da db hix
        have hin0 := hin.c0
        have hin1 := hin.c1
        have hs0 : 0 ≤ c + (lb row (i + k1) + lb A i * lb B k1) := by omega
        refine ⟨(k1 + 1, (c + (lb row (i + k1) + lb A i * lb B k1)) / 65536, row.set (i + k1) ((c + (lb row (i + k1) + lb A i * lb B k1)) % 65536)), hin, show A.length + B.length + 1 - (i + (k1 + 1)) < A.length + B.length + 1 - (i + k1) by omega, ?_⟩
        all_goals refine ⟨[], ?_⟩
        repeat (any_goals (first | exact True.intro | exact rfl | with_reducible_and_instances rfl | exact (by kernel_rfl) | refine And.intro ?_ ?_))
        all_goals conv => whnf
        · exact wk1 (show k1 ≤ _ by omega)
        · show iA (IntKind.i64.wrap ((IntKind.i64.wrap (c + IntKind.i64.wrap (lb row (i + k1) + IntKind.i64.wrap (lb A i * (B[k1]?).getD 0)))).tdiv 65536)) = iA ((c + (lb row (i + k1) + lb A i * lb B k1)) / 65536)
          rw [stepw, Int.tdiv_eq_ediv_of_nonneg hs0, wi (by omega) (by omega)]
        · show AObj.sl 1 ((row.map lR).set (i + k1) [iD ((IntKind.i64.wrap (c + IntKind.i64.wrap (lb row (i + k1) + IntKind.i64.wrap (lb A i * (B[k1]?).getD 0)))).tmod 65536)]) = .sl 1 ((row.set (i + k1) ((c + (lb row (i + k1) + lb A i * lb B k1)) % 65536)).map lR)
          rw [stepw, Int.tmod_eq_emod_of_nonneg hs0, List.map_set]
    · repeat (any_goals (first
        | exact True.intro
        | (refine And.intro (fun _ => ?_) tf; conv => whnf)
        | (refine And.intro ft (fun _ => ?_); conv => whnf)
        | (refine And.intro (by kernel_rfl) ?_; conv => whnf)
        | (refine And.intro (by decide) ?_; conv => whnf)
        | (refine And.intro (fun _ => ?_) (fun h => absurd h (by decide)); conv => whnf)
        | (refine And.intro (fun h => absurd h (by decide)) (fun _ => ?_); conv => whnf)
        | (refine And.intro (fun _ => ?_) (fun _ => ?_) <;> conv => whnf)))
      all_goals try (refine Or.inl ?_; conv => whnf)
      repeat (any_goals (first
        | exact True.intro
        | (refine And.intro (fun _ => ?_) tf; conv => whnf)
        | (refine And.intro ft (fun _ => ?_); conv => whnf)
        | (refine And.intro (by kernel_rfl) ?_; conv => whnf)
        | (refine And.intro (by decide) ?_; conv => whnf)
        | (refine And.intro (fun _ => ?_) (fun h => absurd h (by decide)); conv => whnf)
        | (refine And.intro (fun h => absurd h (by decide)) (fun _ => ?_); conv => whnf)
        | (refine And.intro (fun _ => ?_) (fun _ => ?_) <;> conv => whnf)))
      all_goals try (exfalso; simp only [decide_eq_true_eq, decide_eq_false_iff_not, Bool.not_eq_true', Bool.not_eq_false', Bool.not_eq_true, Bool.not_eq_false, beq_iff_eq, bne_iff_ne, beq_eq_false_iff_ne, bne_eq_false_iff_eq, ne_eq, Decidable.not_not] at *; first | omega | contradiction | (simp_all; done) | (simp_all; omega))
      have hf := I.fin da (by omega) (by omega)
      refine ⟨(i + 1, row), ⟨hlt, hv1, I.dig, hf⟩, show A.length - (i + 1) < A.length - i by omega, ?_⟩
      all_goals refine ⟨[], ?_⟩
      repeat (any_goals (first | exact True.intro | exact rfl | with_reducible_and_instances rfl | exact (by kernel_rfl) | refine And.intro ?_ ?_))
      all_goals conv => whnf
      exact wk1 (by omega)
  · have hie : i = A.length := by omega
    subst hie
    rw [List.take_length] at hov
    have m1 := made_num (decide (x < 0) != decide (y < 0)) out hod (by omega)
    repeat (any_goals (first
      | exact True.intro
      | (refine And.intro (fun _ => ?_) tf; conv => whnf)
      | (refine And.intro ft (fun _ => ?_); conv => whnf)
      | (refine And.intro (by kernel_rfl) ?_; conv => whnf)
      | (refine And.intro (by decide) ?_; conv => whnf)
      | (refine And.intro (fun _ => ?_) (fun h => absurd h (by decide)); conv => whnf)
      | (refine And.intro (fun h => absurd h (by decide)) (fun _ => ?_); conv => whnf)
      | (refine And.intro (fun _ => ?_) (fun _ => ?_) <;> conv => whnf)))
    all_goals try (refine Or.inl ?_; conv => whnf)
    repeat (any_goals (first
      | exact True.intro
      | (refine And.intro (fun _ => ?_) tf; conv => whnf)
      | (refine And.intro ft (fun _ => ?_); conv => whnf)
      | (refine And.intro (by kernel_rfl) ?_; conv => whnf)
      | (refine And.intro (by decide) ?_; conv => whnf)
      | (refine And.intro (fun _ => ?_) (fun h => absurd h (by decide)); conv => whnf)
      | (refine And.intro (fun h => absurd h (by decide)) (fun _ => ?_); conv => whnf)
      | (refine And.intro (fun _ => ?_) (fun _ => ?_) <;> conv => whnf)))
    all_goals try (exfalso; simp only [decide_eq_true_eq, decide_eq_false_iff_not, Bool.not_eq_true', Bool.not_eq_false', Bool.not_eq_true, Bool.not_eq_false, beq_iff_eq, bne_iff_ne, beq_eq_false_iff_ne, bne_eq_false_iff_eq, ne_eq, Decidable.not_not] at *; first | omega | contradiction | (simp_all; done) | (simp_all; omega))
    have e : (if (decide (x < 0) != decide (y < 0)) = true then -((valL out : Nat) : Int) else ((valL out : Nat) : Int)) = x * y := by
      rw [hov, va, vb]
      push_cast
      have ax : (x.natAbs : Int) = if x < 0 then -x else x := by split <;> omega
      have ay : (y.natAbs : Int) = if y < 0 then -y else y := by split <;> omega
      rw [ax, ay]
      by_cases hx0 : x < 0 <;> by_cases hy0 : y < 0 <;> simp [hx0, hy0, Int.neg_mul, Int.mul_neg]
    rw [e] at m1
    repeat (any_goals (first
      | exact True.intro
      | (refine And.intro (fun _ => ?_) tf; conv => whnf)
      | (refine And.intro ft (fun _ => ?_); conv => whnf)
      | (refine And.intro (by kernel_rfl) ?_; conv => whnf)
      | (refine And.intro (by decide) ?_; conv => whnf)
      | (refine And.intro (fun _ => ?_) (fun h => absurd h (by decide)); conv => whnf)
      | (refine And.intro (fun h => absurd h (by decide)) (fun _ => ?_); conv => whnf)
      | (refine ⟨_, _, neB (by kernel_rfl), ?_⟩; conv => whnf)
      | (refine And.intro (fun _ => ?_) (fun _ => ?_) <;> conv => whnf)
      | (refine ⟨_, _, frz_b m1 rfl rfl, ?_⟩; conv => whnf)))
    all_goals refine ⟨[], ?_⟩
    repeat (any_goals (first | exact True.intro | exact rfl | with_reducible_and_instances rfl | exact (by kernel_rfl) | refine And.intro ?_ ?_))
    all_goals conv => whnf
end Go.Proofs.Ytgidaifoiljgoaa
/- Numbers of any length: Ratio, Total, Sum, Plus, Minus, Times. -/
namespace Go.Proofs.Ytgidaifoiljgoaa
set_option linter.unusedSimpArgs false
set_option linter.unusedVariables false
open Go.RowKit
set_option maxRecDepth 100000
theorem few_mono {j k : Nat} {z : Int} (h : few j z) (hk : j ≤ k) : few k z := Nat.lt_of_lt_of_le h (Nat.pow_le_pow_right (by omega) hk)
theorem few_mul {j k : Nat} {x y : Int} (hx : few j x) (hy : few k y) : few (j + k) (x * y) := by
  unfold few at *
  rw [Int.natAbs_mul, Nat.pow_add]
  exact Nat.mul_lt_mul'' hx hy
theorem divZ_abs (a c : Int) (up : Bool) (hc : 0 < c) : (divZ a c up).natAbs ≤ a.natAbs + 1 := by
  rw [← quoN_div a c up hc]
  have : quoN a.natAbs c.natAbs (up != decide (a < 0)) ≤ a.natAbs + 1 := by
    have := Nat.div_le_self a.natAbs c.natAbs
    unfold quoN
    split <;> omega
  split <;> omega
theorem few_div {k : Nat} {a c : Int} {up : Bool} (ha : few k a) (hc : 0 < c) : few (k + 1) (divZ a c up) := by
  have h := divZ_abs a c up hc
  have hp : (65536 : Nat) ^ (k + 1) = 65536 ^ k * 65536 := Nat.pow_succ ..
  unfold few at *
  omega
theorem toldZ_in {z : Int} (h : -9223372036854775808 ≤ z ∧ z ≤ 9223372036854775807) : toldZ z = (z, 0) := if_pos h
theorem ratio_num (a b c : Int) (up : Bool) (ha : -9223372036854775808 ≤ a ∧ a ≤ 9223372036854775807) (hb : -9223372036854775808 ≤ b ∧ b ≤ 9223372036854775807) (hc : 1 ≤ c ∧ c ≤ 9223372036854775807) :
    Sat Try.prog 96 [iA a, iA b, iA c, bA up] [] (.tup [iA (toldZ (divZ (a * b) c up)).1, iA (toldZ (divZ (a * b) c up)).2]) [] := by
  have fm := few_mul (few_i64 ha) (few_i64 hb)
  have fd := few_div (up := up) fm (show 0 < c by omega)
  have mu := mul_num (by omega) (few_i64 ha) (few_i64 hb)
  have di := div_num (k := 8) (a * b) c up (by omega) fm (few_mono (few_i64 (z := c) (by omega)) (by omega)) (by omega)
  have tz := told_num (divZ (a * b) c up) (by have := few_len fd; omega)
  have oa := of_num a ha
  have ob := of_num b hb
  have oc := of_num c (by omega)
  refine sat_of_vc (T := tiOf Try.prog) (E := E0) Try.func96 rfl rfl hE0 hm0 rfl ?_
  conv => whnf
  repeat (any_goals (first
    | exact True.intro
    | (refine Or.inl ?_; conv => whnf)
    | (refine And.intro (fun _ => ?_) tf; conv => whnf)
    | (refine And.intro ft (fun _ => ?_); conv => whnf)
    | (refine And.intro (by kernel_rfl) ?_; conv => whnf)
    | (refine And.intro (by decide) ?_; conv => whnf)
    | (refine And.intro (fun _ => ?_) (fun h => absurd h (by decide)); conv => whnf)
    | (refine And.intro (fun h => absurd h (by decide)) (fun _ => ?_); conv => whnf)
    | (refine And.intro (fun _ => ?_) (fun _ => ?_) <;> conv => whnf)
    | (refine ⟨_, _, oa.pu rfl rfl, ?_⟩; conv => whnf)
    | (refine ⟨_, _, ob.pu rfl rfl, ?_⟩; conv => whnf)
    | (refine ⟨_, _, oc.pu rfl rfl, ?_⟩; conv => whnf)
    | (refine ⟨_, _, mu.pu rfl rfl, ?_⟩; conv => whnf)
    | (refine ⟨_, _, di.pu rfl rfl, ?_⟩; conv => whnf)
    | (refine ⟨_, _, tz.pu rfl rfl, ?_⟩; conv => whnf)))
  all_goals try (exfalso; simp only [decide_eq_true_eq, decide_eq_false_iff_not, Bool.not_eq_true', Bool.not_eq_false', Bool.not_eq_true, Bool.not_eq_false, beq_iff_eq, bne_iff_ne, beq_eq_false_iff_ne, bne_eq_false_iff_eq, ne_eq, Decidable.not_not] at *; first | omega | contradiction | (simp_all; done) | (simp_all; omega))
  all_goals refine ⟨[], ?_⟩
  repeat (any_goals (first | exact True.intro | exact rfl | with_reducible_and_instances rfl | exact (by kernel_rfl) | refine And.intro ?_ ?_))
  all_goals conv => whnf
end Go.Proofs.Ytgidaifoiljgoaa
/- Division of 128 bits by 64, digit by digit: the plain laws. No program is named here. -/
namespace Go.Proofs.Ytgidaifoiljgoaa
set_option linter.unusedSimpArgs false
set_option linter.unusedVariables false
/-- The digit: u and w by y. -/
def dgt (u w y : Nat) : Nat := (u * 4294967296 + w) / y
def dgr (u w y : Nat) : Nat := (u * 4294967296 + w) % y
section
variable {u w y h o q r : Nat}
theorem dgt_lt (hy : 0 < y) (hu : u < y) (hw : w < 4294967296) : dgt u w y < 4294967296 := by
  unfold dgt
  rw [Nat.div_lt_iff_lt_mul hy]
  have : u * 4294967296 + 4294967296 ≤ y * 4294967296 := by omega
  rw [Nat.mul_comm 4294967296 y]
  omega
theorem mul_split (hyo : y = h * 4294967296 + o) (q : Nat) : q * y = q * h * 4294967296 + q * o := by rw [hyo, Nat.mul_add, Nat.mul_assoc]
/-- The guess is too great just where the test says so. -/
theorem guess_gt (hy : 0 < y) (hyo : y = h * 4294967296 + o) (hq : u = q * h + r) : r * 4294967296 + w < q * o ↔ dgt u w y < q := by
  unfold dgt
  rw [Nat.div_lt_iff_lt_mul hy, mul_split hyo q, hq]
  generalize q * h = a
  generalize q * o = b
  omega
theorem guess_far (hy : 0 < y) (hyo : y = h * 4294967296 + o) (ho : o < 4294967296) (hq : u = q * h + r) (hr : 4294967296 ≤ r) (hq1 : q ≤ 4294967296) : q ≤ dgt u w y := by
  refine Nat.le_of_not_lt fun hlt => ?_
  rw [← guess_gt hy hyo hq] at hlt
  have h1 : q * o ≤ 4294967296 * 4294967295 := Nat.mul_le_mul hq1 (by omega)
  omega
theorem guess_first (hh : 0 < h) (hyo : y = h * 4294967296 + o) (hn : 2147483648 ≤ h) (ho : o < 4294967296) (hu : u < y) : u / h ≤ 4294967297 := by
  refine Nat.le_of_lt_succ ((Nat.div_lt_iff_lt_mul hh).2 ?_)
  have : (4294967297 + 1) * h = 4294967298 * h := rfl
  omega
theorem guess_ge (hy : 0 < y) (hyo : y = h * 4294967296 + o) (hh : 0 < h) (hw : w < 4294967296) : dgt u w y ≤ u / h := by
  unfold dgt
  rw [Nat.le_div_iff_mul_le hh]
  have h1 : (u * 4294967296 + w) / y * y ≤ u * 4294967296 + w := Nat.div_mul_le_self _ _
  rw [mul_split hyo] at h1
  generalize (u * 4294967296 + w) / y * h = a at h1 ⊢
  generalize (u * 4294967296 + w) / y * o = b at h1
  omega
theorem dgr_lt (hy : 0 < y) : dgr u w y < y := Nat.mod_lt _ hy
theorem dgt_mul (u w y : Nat) : dgt u w y * y + dgr u w y = u * 4294967296 + w := by
  unfold dgt dgr
  rw [Nat.mul_comm]
  exact Nat.div_add_mod _ _
set_option maxRecDepth 100000 in
theorem two_digits (hy : 0 < y) (u a b U : Nat) (hU : U = (u * 4294967296 + a) * 4294967296 + b) : U / y = dgt u a y * 4294967296 + dgt (dgr u a y) b y ∧ U % y = dgr (dgr u a y) b y := by
  have h1 := dgt_mul u a y
  have h2 := dgt_mul (dgr u a y) b y
  have h3 := dgr_lt (u := dgr u a y) (w := b) hy
  have e : U = y * (dgt u a y * 4294967296 + dgt (dgr u a y) b y) + dgr (dgr u a y) b y := by
    rw [hU, ← h1, Nat.add_mul, Nat.add_assoc, ← h2, Nat.mul_add, Nat.mul_comm y (dgt (dgr u a y) b y), ← Nat.mul_assoc, Nat.mul_comm y (dgt u a y)]
    omega
  rw [e]
  exact ⟨by rw [Nat.mul_add_div hy, Nat.div_eq_of_lt h3, Nat.add_zero], by rw [Nat.mul_add_mod, Nat.mod_eq_of_lt h3]⟩
/-- What is shifted. -/
theorem shift_div (N y s : Nat) : N * 2 ^ s / (y * 2 ^ s) = N / y ∧ N * 2 ^ s % (y * 2 ^ s) = N % y * 2 ^ s :=
  ⟨Nat.mul_div_mul_right _ _ (Nat.two_pow_pos s), Nat.mul_mod_mul_right _ _ _⟩
theorem shift_parts (hi lo s : Nat) (hs : s < 64) (hlo : lo < 18446744073709551616) (hh : hi * 2 ^ s < 18446744073709551616) :
    (hi * 18446744073709551616 + lo) * 2 ^ s = (hi * 2 ^ s + lo / 2 ^ (64 - s)) * 18446744073709551616 + lo * 2 ^ s % 18446744073709551616 := by
  have hp : 2 ^ (64 - s) * 2 ^ s = 18446744073709551616 := by rw [← Nat.pow_add, show 64 - s + s = 64 by omega]
  have h1 : lo * 2 ^ s / 18446744073709551616 = lo / 2 ^ (64 - s) := by rw [← hp, Nat.mul_div_mul_right _ _ (Nat.two_pow_pos s)]
  have h2 := Nat.div_add_mod (lo * 2 ^ s) 18446744073709551616
  rw [h1] at h2
  rw [Nat.add_mul, Nat.mul_right_comm, Nat.add_mul, ← h2]
  omega
theorem or_parts (a s b : Nat) (hb : b < 2 ^ s) : a * 2 ^ s ||| b = a * 2 ^ s + b := by
  rw [← Nat.shiftLeft_eq, Nat.shiftLeft_add_eq_or_of_lt hb]
end
end Go.Proofs.Ytgidaifoiljgoaa
/- bits.Div64. -/
namespace Go.Proofs.Ytgidaifoiljgoaa
open Go.RowKit
set_option linter.unusedVariables false
set_option linter.unusedSimpArgs false
theorem w64_nat (a : Nat) (h : a < 18446744073709551616) : IntKind.u64.wrap (a : Int) = (a : Int) := by rw [IntKind.wrap_u64]; omega
theorem w64_mod (a : Nat) : IntKind.u64.wrap (a : Int) = ((a % 18446744073709551616 : Nat) : Int) := by rw [IntKind.wrap_u64]; omega
theorem spell_shl (a s : Nat) : (a : Int) * 2 ^ s = ((a * 2 ^ s : Nat) : Int) := by rw [Int.natCast_mul, Int.natCast_pow]; rfl
theorem spell_shr (a s : Nat) : (a : Int) / 2 ^ s = ((a / 2 ^ s : Nat) : Int) := by rw [Int.natCast_ediv, Int.natCast_pow]; rfl
theorem spell_and (a : Nat) (h : a < 18446744073709551616) : bits BinOp.and IntKind.u64 (a : Int) 4294967295 = ((a % 4294967296 : Nat) : Int) := by
  have := bits_and_u64_nat a 4294967295 h (by omega)
  rw [show (4294967295 : Nat) = 2 ^ 32 - 1 from rfl, Nat.and_two_pow_sub_one_eq_mod] at this
  exact this
theorem spell_or (a b s : Nat) (ha : a * 2 ^ s < 18446744073709551616) (hb : b < 2 ^ s) (hs : 2 ^ s ≤ 18446744073709551616) : bits BinOp.or IntKind.u64 ((a * 2 ^ s : Nat) : Int) (b : Int) = ((a * 2 ^ s + b : Nat) : Int) := by
  rw [bits_or_u64_nat _ _ ha (by omega), or_parts a s b hb]
theorem spell_quo (a b : Nat) (ha : a < 18446744073709551616) : IntKind.u64.wrap ((a : Int).tdiv (b : Int)) = ((a / b : Nat) : Int) := by
  rw [show (a : Int).tdiv (b : Int) = ((a / b : Nat) : Int) from rfl]
  exact w64_nat _ (Nat.lt_of_le_of_lt (Nat.div_le_self _ _) ha)
theorem spell_quo2 (a b : Nat) (ha : a < 18446744073709551616) : IntKind.u64.wrap ((a : Int) / (b : Int)) = ((a / b : Nat) : Int) := by
  rw [show (a : Int) / (b : Int) = ((a / b : Nat) : Int) from rfl]
  exact w64_nat _ (Nat.lt_of_le_of_lt (Nat.div_le_self _ _) ha)
theorem spell_mul (a b : Nat) (h : a * b < 18446744073709551616) : IntKind.u64.wrap ((a : Int) * (b : Int)) = ((a * b : Nat) : Int) := by
  rw [← Int.natCast_mul, w64_nat _ h]
theorem spell_two (r w : Nat) (h : r < 4294967296) (hw : w < 4294967296) : IntKind.u64.wrap (IntKind.u64.wrap (4294967296 * (r : Int)) + (w : Int)) = ((r * 4294967296 + w : Nat) : Int) := by
  rw [show (4294967296 : Int) * (r : Int) = ((r * 4294967296 : Nat) : Int) by omega, w64_nat _ (by omega), ← Int.natCast_add, w64_nat _ (by omega)]
theorem spell_un (u w d y r : Nat) (h : d * y + r = u * 4294967296 + w) (hr : r < 18446744073709551616) :
    IntKind.u64.wrap (IntKind.u64.wrap (IntKind.u64.wrap ((u : Int) * 4294967296) + (w : Int)) - IntKind.u64.wrap ((d : Int) * (y : Int))) = ((r : Nat) : Int) := by
  rw [← Int.natCast_mul]
  generalize d * y = p at h
  simp only [IntKind.wrap_u64]
  omega
theorem spell_rest (a b : Nat) (ha : a < 18446744073709551616) : IntKind.u64.wrap ((a : Int) - IntKind.u64.wrap (((a / b : Nat) : Int) * (b : Int))) = ((a % b : Nat) : Int) := by
  have h1 : a / b * b ≤ a := Nat.div_mul_le_self _ _
  have h2 := Nat.div_add_mod a b
  rw [Nat.mul_comm] at h2
  rw [← Int.natCast_mul, w64_nat _ (by omega), show (a : Int) - ((a / b * b : Nat) : Int) = ((a % b : Nat) : Int) by omega]
  exact w64_nat _ (by omega)
set_option maxRecDepth 100000 in
theorem div64_zero (lo y : Nat) (w : World) (hlo : lo < 18446744073709551616) (hy0 : 0 < y) (hy : y < 18446744073709551616) :
    Calls Try.prog 83 #[.int .u64 0, .int .u64 lo, .int .u64 y] w fun e w' => e = .returned (.tuple #[.int .u64 ((lo / y : Nat) : Int), .int .u64 ((lo % y : Nat) : Int)]) ∧ Below w.heap.size w w' := by
  have h1 : ((y : Int) == 0) = false := by rw [beq_eq_false_iff_ne]; omega
  have h2 : decide ((y : Int) ≤ 0) = false := decide_eq_false (by omega)
  go_enter Try.func83, Try.ntmps83
  go_wp2_with fail
  go_quiet (fail)
  go_wp2_with fail
  go_ret2
  have hd : lo / y ≤ lo := Nat.div_le_self _ _
  refine ⟨?_, below_drewN (Below.refl _ _) _⟩
  rw [show (lo : Int) / (y : Int) = ((lo / y : Nat) : Int) from rfl, w64_nat _ (by omega)]
  rfl
set_option maxHeartbeats 1000000 in
set_option maxRecDepth 100000 in
theorem div64_pos (hi lo y : Nat) (w : World) (hlo : lo < 18446744073709551616) (h0 : 0 < hi) (hhi : hi < y) (hy : y < 18446744073709551616) :
    Calls Try.prog 83 #[.int .u64 hi, .int .u64 lo, .int .u64 y] w fun e w' => e = .returned (.tuple #[.int .u64 (((hi * 18446744073709551616 + lo) / y : Nat) : Int), .int .u64 (((hi * 18446744073709551616 + lo) % y : Nat) : Int)]) ∧ Below w.heap.size w w' := by
  have h1 : ((y : Int) == 0) = false := by rw [beq_eq_false_iff_ne]; omega
  have h2 : decide (y ≤ hi) = false := decide_eq_false (by omega)
  have h3 : ((hi : Int) == 0) = false := by rw [beq_eq_false_iff_ne]; omega
  go_enter Try.func83, Try.ntmps83
  go_wp2_with fail
  refine (Try.bits_LeadingZeros64 y w (by omega) (by omega)).mono ?_
  rintro e w' ⟨rfl, rfl⟩
  rw [Int.toNat_natCast]
  obtain ⟨s, hs⟩ : ∃ s, s = 64 - Lib.bitLen y := ⟨_, rfl⟩
  have hbl : Lib.bitLen y ≤ 64 := Lib.bitLen_le y 64 (by omega) (by omega)
  have HS := hide hs
  rw [show (64 : Int) - (Lib.bitLen y : Int) = (s : Int) by omega]
  have hs64 : s ≤ 64 := by omega
  clear hs hbl
  have hy0 : 0 < y := by omega
  -- normalized
  obtain ⟨hsl, hsg, hs63⟩ : y * 2 ^ s < 18446744073709551616 ∧ 9223372036854775808 ≤ y * 2 ^ s ∧ s < 64 := by
    obtain ⟨a1, a2, a3⟩ := Lib.bitLenAux_bounds 64 y (by omega) (by omega)
    have hs := HS.out
    have hbl : Lib.bitLen y ≤ 64 := Lib.bitLen_le y 64 (by omega) (by omega)
    change 1 ≤ Lib.bitLen y at a1
    change 2 ^ (Lib.bitLen y - 1) ≤ y at a2
    change y < 2 ^ Lib.bitLen y at a3
    generalize Lib.bitLen y = L at *
    have e1 : 2 ^ L * 2 ^ s = 18446744073709551616 := by rw [← Nat.pow_add, show L + s = 64 by omega]
    have e2 : 2 ^ (L - 1) * 2 ^ s = 9223372036854775808 := by rw [← Nat.pow_add, show L - 1 + s = 63 by omega]
    have hp := Nat.two_pow_pos s
    refine ⟨?_, ?_, by omega⟩
    · rw [← e1]; exact Nat.mul_lt_mul_of_pos_right a3 hp
    · rw [← e2]; exact Nat.mul_le_mul_right _ a2
  have hhs : hi * 2 ^ s < 18446744073709551616 := Nat.lt_of_lt_of_le (Nat.mul_lt_mul_of_pos_right hhi (Nat.two_pow_pos s)) (Nat.le_of_lt hsl)
  have hle : 2 ^ s ≤ 18446744073709551616 := by
    have := Nat.pow_le_pow_right (n := 2) (by omega) (show s ≤ 64 by omega)
    exact this
  have hlp : lo / 2 ^ (64 - s) < 2 ^ s := by
    rw [Nat.div_lt_iff_lt_mul (Nat.two_pow_pos _), ← Nat.pow_add, show s + (64 - s) = 64 by omega]
    exact hlo
  have hparts := shift_parts hi lo s hs63 hlo hhs
  have hlt : hi * 2 ^ s + lo / 2 ^ (64 - s) < y * 2 ^ s := by
    have h5 : hi * 2 ^ s + 2 ^ s ≤ y * 2 ^ s := by
      have := Nat.mul_le_mul_right (2 ^ s) (show hi + 1 ≤ y by omega)
      rw [Nat.add_mul, Nat.one_mul] at this
      exact this
    omega
  have E1 : IntKind.u64.wrap ((y : Int) * 2 ^ s) = ((y * 2 ^ s : Nat) : Int) := by rw [spell_shl, w64_nat _ hsl]
  have E2 : bits BinOp.or IntKind.u64 (IntKind.u64.wrap ((hi : Int) * 2 ^ s)) ((lo : Int) / 2 ^ (64 - s)) = ((hi * 2 ^ s + lo / 2 ^ (64 - s) : Nat) : Int) := by
    rw [spell_shl, w64_nat _ hhs, spell_shr, spell_or hi _ s hhs hlp hle]
  have E3 : IntKind.u64.wrap ((lo : Int) * 2 ^ s) = ((lo * 2 ^ s % 18446744073709551616 : Nat) : Int) := by rw [spell_shl, w64_mod]
  have E1 := hide E1
  have E2 := hide E2
  have E3 := hide E3
  have HP := hide hparts
  have HSG := hide hsg
  have HLT := hide hlt
  have HSD := hide (shift_div (hi * 18446744073709551616 + lo) y s)
  clear hsg hhs hle hlp hparts hlt HS
  have e1 := E1.out
  have e2 := E2.out
  have e3 := E3.out
  have hsg := HSG.out
  have hlt := HLT.out
  have hparts := HP.out
  have hsd := HSD.out
  clear E1 E2 E3 HSG HLT HP HSD
  generalize hY : y * 2 ^ s = Y at *
  generalize hU : hi * 2 ^ s + lo / 2 ^ (64 - s) = U at *
  generalize hL : lo * 2 ^ s % 18446744073709551616 = L at *
  have hYl : Y < 18446744073709551616 := by omega
  have hLl : L < 18446744073709551616 := by omega
  have HE1 := hide e1
  have HE2 := hide e2
  have HE3 := hide e3
  have HP := hide hparts
  have HSD := hide hsd
  have HYY := hide hY
  clear e1 e2 e3 hparts hsd hY hU hL
  go_upto_region 15 with (fail)
  clear E1 E2 E3 HE1 HE2 HE3
  have EH : (Y : Int) / 4294967296 = ((Y / 4294967296 : Nat) : Int) := rfl
  have EO := spell_and Y hYl
  have EW : (L : Int) / 4294967296 = ((L / 4294967296 : Nat) : Int) := rfl
  have EV := spell_and L hLl
  rw [EH, EO, EW, EV]
  have hyo : Y = Y / 4294967296 * 4294967296 + Y % 4294967296 := by omega
  have hlw : L = L / 4294967296 * 4294967296 + L % 4294967296 := by omega
  have hh1 : 2147483648 ≤ Y / 4294967296 := by omega
  have hh2 : Y / 4294967296 < 4294967296 := by omega
  have ho : Y % 4294967296 < 4294967296 := by omega
  have hw1 : L / 4294967296 < 4294967296 := by omega
  have hw0 : L % 4294967296 < 4294967296 := by omega
  clear EH EO EW EV
  generalize Y / 4294967296 = h at *
  generalize Y % 4294967296 = o at *
  generalize L / 4294967296 = w1 at *
  generalize L % 4294967296 = w0 at *
  have hU : U < 18446744073709551616 := by omega
  have EQ := spell_quo U h hU
  have ER := spell_rest U h hU
  have HYO := hide hyo
  have HLW := hide hlw
  have hYp : 0 < Y := by omega
  have hhz : ((h : Int) == 0) = false := by rw [beq_eq_false_iff_ne]; omega
  have hhn : ¬ (h : Int) = 0 := by omega
  clear hyo hlw h1 h2 h3
  go_upto_block 0 with (fail)
  clear EQ ER
  have EQ := spell_quo2 U h hU
  have ER := spell_rest U h hU
  rw [EQ, ER]
  clear EQ ER
  go_cut [15] from 19 (fun q wc => q = .int .u64 ((dgt U w1 Y : Nat) : Int) ∧ wc = w')
  case first =>
    have hwB := hw1
    have hUY := hlt
    go_wp2_with fail
    go_loop [15, 16] (fun a b => ∃ q r : Nat, a = .int .u64 q ∧ b = .int .u64 r ∧ Hid (U = q * h + r) ∧ dgt U w1 Y ≤ q ∧ q ≤ 4294967297 ∧ r < 4294967296) (fun a _ => (intOf a).toNat)
    case atStart => exact ⟨U / h, U % h, rfl, rfl, hide (by have := Nat.div_add_mod U h; rw [Nat.mul_comm] at this; exact this.symm), guess_ge hYp HYO.out (by omega) hwB, guess_first (by omega) HYO.out hh1 ho hUY, Nat.lt_trans (Nat.mod_lt _ (by omega)) hh2⟩
    case round =>
      obtain ⟨q, r, rfl, rfl, HQ, hge, hle, hr⟩ := hrel
      have HG := hide (guess_gt (w := w1) hYp HYO.out HQ.out)
      by_cases c : dgt U w1 Y < q
      · have hq1 : IntKind.u64.wrap ((q : Int) - 1) = ((q - 1 : Nat) : Int) := by rw [show (q : Int) - 1 = ((q - 1 : Nat) : Int) by omega, w64_nat _ (by omega)]
        have hr1 : IntKind.u64.wrap ((r : Int) + (h : Int)) = ((r + h : Nat) : Int) := by rw [← Int.natCast_add, w64_nat _ (by omega)]
        have HQ2 := hide (show U = (q - 1) * h + (r + h) by
          have := HQ.out
          obtain ⟨k, rfl⟩ : ∃ k, q = k + 1 := ⟨q - 1, by omega⟩
          rw [Nat.add_mul] at this
          rw [Nat.add_sub_cancel]
          omega)
        have hgt : dgt U w1 Y ≤ q - 1 := by omega
        have hfar : 4294967296 ≤ r + h → q - 1 ≤ dgt U w1 Y := fun h5 => guess_far hYp HYO.out ho HQ2.out h5 (by omega)
        have HFAR := hide hfar
        have HC : Hid (w1 + r * 4294967296 < q * o) := hide (by have := HG.out.2 c; omega)
        have hqp : 1 ≤ q := by omega
        clear hfar c hge HQ HG
        generalize hd : dgt U w1 Y = d at *
        clear hd
        by_cases c3 : 4294967296 ≤ r + h
        · have t3 : decide ((4294967296 : Int) ≤ (r : Int) + (h : Int)) = true := decide_eq_true (by omega)
          have t3' : decide (4294967296 ≤ r + h) = true := decide_eq_true c3
          have hdq := HFAR.out c3
          have hfin : d = q - 1 := by omega
          clear c3 hdq HFAR
          by_cases c2 : 4294967296 ≤ q
          · have t2 : decide ((4294967296 : Int) ≤ (q : Int)) = true := decide_eq_true (by omega)
            have HF := hide hfin
            clear hfin c2
            go_wp2_with fail
            go_meet
            case rel => exact ⟨by rw [HF.out], rfl⟩
          · have t2 : decide ((4294967296 : Int) ≤ (q : Int)) = false := decide_eq_false (by omega)
            have hm := spell_mul q o (Nat.lt_of_le_of_lt (Nat.mul_le_mul (show q ≤ 4294967295 by omega) (show o ≤ 4294967295 by omega)) (by omega))
            have ht := spell_two r w1 hr hwB
            have hcc := HC.out
            generalize q * o = p at hm hcc
            have t4 : decide ((r : Int) * 4294967296 + (w1 : Int) < (p : Int)) = true := decide_eq_true (by omega)
            have t4' : decide (r * 4294967296 + w1 < p) = true := decide_eq_true (by omega)
            have t5 : decide (4294967296 * (r : Int) + (w1 : Int) < (p : Int)) = true := decide_eq_true (by omega)
            have HF := hide hfin
            clear hfin c2 hcc
            go_wp2_with fail
            go_meet
            case rel => exact ⟨by rw [HF.out], rfl⟩
        · have t3 : decide ((4294967296 : Int) ≤ (r : Int) + (h : Int)) = false := decide_eq_false (by omega)
          have t3' : decide (4294967296 ≤ r + h) = false := decide_eq_false c3
          by_cases c2 : 4294967296 ≤ q
          · have t2 : decide ((4294967296 : Int) ≤ (q : Int)) = true := decide_eq_true (by omega)
            go_wp2_with fail
            go_round
            case rel => exact ⟨q - 1, r + h, by first | rfl | exact congrArg _ hq1, by first | rfl | exact congrArg _ hr1, HQ2, hgt, by omega, by omega⟩
            case measure => simp [intOf]; omega
          · have t2 : decide ((4294967296 : Int) ≤ (q : Int)) = false := decide_eq_false (by omega)
            have hm := spell_mul q o (Nat.lt_of_le_of_lt (Nat.mul_le_mul (show q ≤ 4294967295 by omega) (show o ≤ 4294967295 by omega)) (by omega))
            have ht := spell_two r w1 hr hwB
            have hcc := HC.out
            generalize q * o = p at hm hcc
            have t4 : decide ((r : Int) * 4294967296 + (w1 : Int) < (p : Int)) = true := decide_eq_true (by omega)
            have t4' : decide (r * 4294967296 + w1 < p) = true := decide_eq_true (by omega)
            have t5 : decide (4294967296 * (r : Int) + (w1 : Int) < (p : Int)) = true := decide_eq_true (by omega)
            clear hcc
            go_wp2_with fail
            go_round
            case rel => exact ⟨q - 1, r + h, by first | rfl | exact congrArg _ hq1, by first | rfl | exact congrArg _ hr1, HQ2, hgt, by omega, by omega⟩
            case measure => simp [intOf]; omega
      · have hqd : dgt U w1 Y = q := by omega
        have hqB : q < 4294967296 := by rw [← hqd]; exact dgt_lt hYp hUY hwB
        have t2 : decide ((4294967296 : Int) ≤ (q : Int)) = false := decide_eq_false (by omega)
        have hm := spell_mul q o (Nat.lt_of_le_of_lt (Nat.mul_le_mul (show q ≤ 4294967295 by omega) (show o ≤ 4294967295 by omega)) (by omega))
        have ht := spell_two r w1 hr hwB
        have hcc : ¬ (r * 4294967296 + w1 < q * o) := fun h5 => c (HG.out.1 h5)
        generalize q * o = p at hm hcc
        have t4 : decide ((r : Int) * 4294967296 + (w1 : Int) < (p : Int)) = false := decide_eq_false (by omega)
        have t4' : decide (r * 4294967296 + w1 < p) = false := decide_eq_false (by omega)
        have t5 : decide (4294967296 * (r : Int) + (w1 : Int) < (p : Int)) = false := decide_eq_false (by omega)
        have HF := hide hqd
        clear hqd hcc c hge HG HQ
        go_wp2_with fail
        go_meet
        case rel => exact ⟨by rw [HF.out], rfl⟩
  case rest =>
    obtain ⟨rfl, rfl⟩ := hcut
    have HV := hide (dgt_mul U w1 Y)
    have hVY := dgr_lt (u := U) (w := w1) hYp
    generalize hq1v : dgt U w1 Y = q1 at *
    generalize hVv : dgr U w1 Y = V at *
    have HQV := hide hq1v
    have HVV := hide hVv
    have EU := spell_un U w1 q1 Y V HV.out (by omega)
    clear hq1v hVv
    have hVl : V < 18446744073709551616 := by omega
    have EUH := hide EU
    clear EU
    go_upto_region 22 with (fail)
    rw [EUH.out]
    have EQ := spell_quo2 V h hVl
    have ER := spell_rest V h hVl
    go_upto_block 2 with (fail)
    clear EQ ER
    go_cut [18] from 19 (fun q w2 => q = .int .u64 ((dgt V w0 Y : Nat) : Int) ∧ w2 = wc)
    case first =>
      have hwB := hw0
      have hUY := hVY
      go_wp2_with fail
      go_loop [18, 16] (fun a b => ∃ q r : Nat, a = .int .u64 q ∧ b = .int .u64 r ∧ Hid (V = q * h + r) ∧ dgt V w0 Y ≤ q ∧ q ≤ 4294967297 ∧ r < 4294967296) (fun a _ => (intOf a).toNat)
      case atStart => exact ⟨V / h, V % h, by first | rfl | exact congrArg (Value.int .u64) (spell_quo2 V h hVl), by first | rfl | exact congrArg (Value.int .u64) (spell_rest V h hVl), hide (by have := Nat.div_add_mod V h; rw [Nat.mul_comm] at this; exact this.symm), guess_ge hYp HYO.out (by omega) hwB, guess_first (by omega) HYO.out hh1 ho hUY, Nat.lt_trans (Nat.mod_lt _ (by omega)) hh2⟩
      case round =>
        obtain ⟨q, r, rfl, rfl, HQ, hge, hle, hr⟩ := hrel
        have HG := hide (guess_gt (w := w0) hYp HYO.out HQ.out)
        by_cases c : dgt V w0 Y < q
        · have hq1 : IntKind.u64.wrap ((q : Int) - 1) = ((q - 1 : Nat) : Int) := by rw [show (q : Int) - 1 = ((q - 1 : Nat) : Int) by omega, w64_nat _ (by omega)]
          have hr1 : IntKind.u64.wrap ((r : Int) + (h : Int)) = ((r + h : Nat) : Int) := by rw [← Int.natCast_add, w64_nat _ (by omega)]
          have HQ2 := hide (show V = (q - 1) * h + (r + h) by
            have := HQ.out
            obtain ⟨k, rfl⟩ : ∃ k, q = k + 1 := ⟨q - 1, by omega⟩
            rw [Nat.add_mul] at this
            rw [Nat.add_sub_cancel]
            omega)
          have hgt : dgt V w0 Y ≤ q - 1 := by omega
          have hfar : 4294967296 ≤ r + h → q - 1 ≤ dgt V w0 Y := fun h5 => guess_far hYp HYO.out ho HQ2.out h5 (by omega)
          have HFAR := hide hfar
          have HC : Hid (w0 + r * 4294967296 < q * o) := hide (by have := HG.out.2 c; omega)
          have hqp : 1 ≤ q := by omega
          clear hfar c hge HQ HG
          generalize hd : dgt V w0 Y = d at *
          clear hd
          by_cases c3 : 4294967296 ≤ r + h
          · have t3 : decide ((4294967296 : Int) ≤ (r : Int) + (h : Int)) = true := decide_eq_true (by omega)
            have t3' : decide (4294967296 ≤ r + h) = true := decide_eq_true c3
            have hdq := HFAR.out c3
            have hfin : d = q - 1 := by omega
            clear c3 hdq HFAR
            by_cases c2 : 4294967296 ≤ q
            · have t2 : decide ((4294967296 : Int) ≤ (q : Int)) = true := decide_eq_true (by omega)
              have HF := hide hfin
              clear hfin c2
              go_wp2_with fail
              go_meet
              case rel => exact ⟨by rw [HF.out], rfl⟩
            · have t2 : decide ((4294967296 : Int) ≤ (q : Int)) = false := decide_eq_false (by omega)
              have hm := spell_mul q o (Nat.lt_of_le_of_lt (Nat.mul_le_mul (show q ≤ 4294967295 by omega) (show o ≤ 4294967295 by omega)) (by omega))
              have ht := spell_two r w0 hr hwB
              have hcc := HC.out
              generalize q * o = p at hm hcc
              have t4 : decide ((r : Int) * 4294967296 + (w0 : Int) < (p : Int)) = true := decide_eq_true (by omega)
              have t4' : decide (r * 4294967296 + w0 < p) = true := decide_eq_true (by omega)
              have t5 : decide (4294967296 * (r : Int) + (w0 : Int) < (p : Int)) = true := decide_eq_true (by omega)
              have HF := hide hfin
              clear hfin c2 hcc
              go_wp2_with fail
              go_meet
              case rel => exact ⟨by rw [HF.out], rfl⟩
          · have t3 : decide ((4294967296 : Int) ≤ (r : Int) + (h : Int)) = false := decide_eq_false (by omega)
            have t3' : decide (4294967296 ≤ r + h) = false := decide_eq_false c3
            by_cases c2 : 4294967296 ≤ q
            · have t2 : decide ((4294967296 : Int) ≤ (q : Int)) = true := decide_eq_true (by omega)
              go_wp2_with fail
              go_round
              case rel => exact ⟨q - 1, r + h, by first | rfl | exact congrArg _ hq1, by first | rfl | exact congrArg _ hr1, HQ2, hgt, by omega, by omega⟩
              case measure => simp [intOf]; omega
            · have t2 : decide ((4294967296 : Int) ≤ (q : Int)) = false := decide_eq_false (by omega)
              have hm := spell_mul q o (Nat.lt_of_le_of_lt (Nat.mul_le_mul (show q ≤ 4294967295 by omega) (show o ≤ 4294967295 by omega)) (by omega))
              have ht := spell_two r w0 hr hwB
              have hcc := HC.out
              generalize q * o = p at hm hcc
              have t4 : decide ((r : Int) * 4294967296 + (w0 : Int) < (p : Int)) = true := decide_eq_true (by omega)
              have t4' : decide (r * 4294967296 + w0 < p) = true := decide_eq_true (by omega)
              have t5 : decide (4294967296 * (r : Int) + (w0 : Int) < (p : Int)) = true := decide_eq_true (by omega)
              clear hcc
              go_wp2_with fail
              go_round
              case rel => exact ⟨q - 1, r + h, by first | rfl | exact congrArg _ hq1, by first | rfl | exact congrArg _ hr1, HQ2, hgt, by omega, by omega⟩
              case measure => simp [intOf]; omega
        · have hqd : dgt V w0 Y = q := by omega
          have hqB : q < 4294967296 := by rw [← hqd]; exact dgt_lt hYp hUY hwB
          have t2 : decide ((4294967296 : Int) ≤ (q : Int)) = false := decide_eq_false (by omega)
          have hm := spell_mul q o (Nat.lt_of_le_of_lt (Nat.mul_le_mul (show q ≤ 4294967295 by omega) (show o ≤ 4294967295 by omega)) (by omega))
          have ht := spell_two r w0 hr hwB
          have hcc : ¬ (r * 4294967296 + w0 < q * o) := fun h5 => c (HG.out.1 h5)
          generalize q * o = p at hm hcc
          have t4 : decide ((r : Int) * 4294967296 + (w0 : Int) < (p : Int)) = false := decide_eq_false (by omega)
          have t4' : decide (r * 4294967296 + w0 < p) = false := decide_eq_false (by omega)
          have t5 : decide (4294967296 * (r : Int) + (w0 : Int) < (p : Int)) = false := decide_eq_false (by omega)
          have HF := hide hqd
          clear hqd hcc c hge HG HQ
          go_wp2_with fail
          go_meet
          case rel => exact ⟨by rw [HF.out], rfl⟩
    case rest =>
      obtain ⟨rfl, rfl⟩ := hcut
      have HV2 := hide (dgt_mul V w0 Y)
      have hRY := dgr_lt (u := V) (w := w0) hYp
      have HTD := hide (two_digits hYp U w1 w0 ((hi * 18446744073709551616 + lo) * 2 ^ s) (by rw [HP.out, HLW.out]; omega))
      have hd0 := dgt_lt (u := V) (w := w0) hYp hVY hw0
      have hd1 := dgt_lt (u := U) (w := w1) hYp hlt hw1
      rw [HQV.out, HVV.out] at HTD
      rw [HQV.out] at hd1
      generalize hq0v : dgt V w0 Y = q0 at *
      generalize hRv : dgr V w0 Y = R at *
      clear hq0v hRv
      have EU := spell_un V w0 q0 Y R HV2.out (by omega)
      have EUH := hide EU
      clear EU
      go_wp2_with fail
      go_ret2
      refine ⟨?_, Below.refl _ _⟩
      rw [EUH.out, spell_shr]
      obtain ⟨e1, e2⟩ := HTD.out
      obtain ⟨e3, e4⟩ := HSD.out
      rw [e3] at e1
      rw [e4] at e2
      rw [e1, ← e2, Nat.mul_div_cancel _ (Nat.two_pow_pos s)]
      rw [show (q1 : Int) * 4294967296 + (q0 : Int) = ((q1 * 4294967296 + q0 : Nat) : Int) by omega]
      rfl
theorem div64_any (hi lo y : Nat) (w : World) (hlo : lo < 18446744073709551616) (hhi : hi < y) (hy : y < 18446744073709551616) :
    Calls Try.prog 83 #[.int .u64 hi, .int .u64 lo, .int .u64 y] w fun e w' => e = .returned (.tuple #[.int .u64 (((hi * 18446744073709551616 + lo) / y : Nat) : Int), .int .u64 (((hi * 18446744073709551616 + lo) % y : Nat) : Int)]) ∧ Below w.heap.size w w' := by
  rcases Nat.eq_zero_or_pos hi with h | h
  · subst h
    rw [Nat.zero_mul, Nat.zero_add]
    exact div64_zero lo y w hlo hhi hy
  · exact div64_pos hi lo y w hlo h hhi hy
end Go.Proofs.Ytgidaifoiljgoaa
/- safe.Ratio of numbers that are not negative; drift.Low, High, Slack. -/
namespace Go.Proofs.Ytgidaifoiljgoaa
open Go.RowKit
set_option linter.unusedVariables false
set_option linter.unusedSimpArgs false
set_option maxRecDepth 100000 in
theorem sizeN_any (a : Nat) (w : World) (h : a ≤ 9223372036854775807) : Calls Try.prog 82 #[.int .i64 a] w fun e w' => e = .returned (.int .u64 a) ∧ w = w' := by
  have h1 : decide ((a : Int) < 0) = false := decide_eq_false (by omega)
  have h2 := w64_nat a (by omega)
  go_enter Try.func82, Try.ntmps82
  go_wp2
  go_ret
  exact ⟨rfl, rfl⟩
set_option maxRecDepth 100000 in
theorem signedN_any (a : Nat) (w : World) (h : a ≤ 9223372036854775807) : Calls Try.prog 84 #[.int .u64 a, .bool false] w fun e w' => e = .returned (.tuple #[.int .i64 a, .int .i64 0]) ∧ w = w' := by
  have h1 : decide (9223372036854775807 < (a : Int)) = false := decide_eq_false (by omega)
  have h2 : wrap64 (a : Int) = (a : Int) := IntWalk.wrap64_in _ (by constructor <;> omega)
  go_enter Try.func84, Try.ntmps84
  go_wp2
  go_ret2
  exact ⟨rfl, rfl⟩
/-- The ratio, down or up. -/
def ratN (a b c : Nat) (up : Bool) : Nat := if up = true ∧ a * b % c ≠ 0 then a * b / c + 1 else a * b / c
set_option maxHeartbeats 1000000 in
set_option maxRecDepth 100000 in
theorem ratioN_any (a b c : Nat) (up : Bool) (w : World) (ha : a ≤ 9223372036854775807) (hb : b ≤ 9223372036854775807) (hc0 : 1 ≤ c) (hc : c ≤ 9223372036854775807) (hq : a * b / c < 9223372036854775807) :
    Calls Try.prog 65 #[.int .i64 a, .int .i64 b, .int .i64 c, .bool up] w fun e w' => e = .returned (.tuple #[.int .i64 (ratN a b c up), .int .i64 0]) ∧ Below w.heap.size w w' := by
  have h1 : decide ((a : Int) < 0) = false := decide_eq_false (by omega)
  have h2 : decide ((b : Int) < 0) = false := decide_eq_false (by omega)
  have h3 : decide ((c : Int) < 1) = false := decide_eq_false (by omega)
  have hw := w64_nat c (by omega)
  have HM := hide (Try.bits_Mul64 a b (by omega) (by omega))
  have hpq := (Nat.div_lt_iff_lt_mul (show 0 < c by omega)).1 hq
  have hhi : a * b / 18446744073709551616 < c := by rw [Nat.div_lt_iff_lt_mul (by omega)]; omega
  have HD := hide (fun w => div64_any (a * b / 18446744073709551616) (a * b % 18446744073709551616) c w (by omega) hhi (by omega))
  rw [show a * b / 18446744073709551616 * 18446744073709551616 + a * b % 18446744073709551616 = a * b by omega] at HD
  have HR : Hid (ratN a b c up = if up = true ∧ a * b % c ≠ 0 then a * b / c + 1 else a * b / c) := hide rfl
  generalize ratN a b c up = R at *
  have hrest : a * b % c < 18446744073709551616 := Nat.lt_trans (Nat.mod_lt _ (by omega)) (by omega)
  generalize a * b / 18446744073709551616 = H at *
  generalize a * b % 18446744073709551616 = L at *
  generalize a * b / c = Q at *
  generalize a * b % c = T at *
  have h4 : decide (c ≤ H) = false := decide_eq_false (by omega)
  have h5 : decide (9223372036854775808 < (Q : Int)) = false := decide_eq_false (by omega)
  clear hpq
  cases up with
  | false =>
    have hR := HR.out
    rw [if_neg (by simp)] at hR
    subst hR
    clear HR
    have HS := hide (fun w => signedN_any R w (by omega))
    go_enter Try.func65, Try.ntmps65
    go_wp2_with (first
      | (go_at_call 82; refine (sizeN_any _ _ (by assumption)).mono ?_; rintro e w' ⟨rfl, rfl⟩)
      | (go_at_call 81; refine (HM.out _).mono ?_; rintro e w' ⟨rfl, rfl⟩)
      | (go_at_call 83; refine (HD.out _).mono ?_; rintro e w1 ⟨rfl, hb1⟩)
      | (go_at_call 84; refine (HS.out _).mono ?_; rintro e w' ⟨rfl, rfl⟩))
    all_goals (go_ret2; exact ⟨rfl, hb1⟩)
  | true =>
    by_cases hT : T = 0
    · subst hT
      have hR := HR.out
      rw [if_neg (by simp)] at hR
      subst hR
      clear HR
      have HS := hide (fun w => signedN_any R w (by omega))
      go_enter Try.func65, Try.ntmps65
      go_wp2_with (first
      | (go_at_call 82; refine (sizeN_any _ _ (by assumption)).mono ?_; rintro e w' ⟨rfl, rfl⟩)
      | (go_at_call 81; refine (HM.out _).mono ?_; rintro e w' ⟨rfl, rfl⟩)
      | (go_at_call 83; refine (HD.out _).mono ?_; rintro e w1 ⟨rfl, hb1⟩)
      | (go_at_call 84; refine (HS.out _).mono ?_; rintro e w' ⟨rfl, rfl⟩))
      all_goals (go_ret2; exact ⟨rfl, hb1⟩)
    · have hR := HR.out
      rw [if_pos ⟨rfl, hT⟩] at hR
      have h6 : ((T : Int) == 0) = false := by rw [beq_eq_false_iff_ne]; omega
      have h7 : ((T : Int) != 0) = true := by rw [bne_iff_ne]; omega
      have hq1 : IntKind.u64.wrap ((Q : Int) + 1) = (R : Int) := by rw [hR, show (Q : Int) + 1 = ((Q + 1 : Nat) : Int) by omega, w64_nat _ (by omega)]
      have HS := hide (fun w => signedN_any R w (by omega))
      have HR2 := hide hR
      clear HR hT hR
      go_enter Try.func65, Try.ntmps65
      go_wp2_with (first
      | (go_at_call 82; refine (sizeN_any _ _ (by assumption)).mono ?_; rintro e w' ⟨rfl, rfl⟩)
      | (go_at_call 81; refine (HM.out _).mono ?_; rintro e w' ⟨rfl, rfl⟩)
      | (go_at_call 83; refine (HD.out _).mono ?_; rintro e w1 ⟨rfl, hb1⟩))
      refine (HS.out _).mono ?_
      rintro e w' ⟨rfl, rfl⟩
      go_wp2_with fail
      go_ret2
      exact ⟨rfl, hb1⟩
def okRate (r : Int) : Bool := decide (0 ≤ r ∧ r ≤ 100000)
theorem rate_any (r : Int) (w : World) : Calls Try.prog 64 #[.int .i64 r] w fun e w' => e = .returned (.bool (okRate r)) ∧ w = w' := by
  by_cases h : 0 ≤ r
  · have h1 : decide (0 ≤ r) = true := decide_eq_true h
    have HE := hide (show okRate r = decide (r ≤ 100000) by unfold okRate; simp [h])
    go_enter Try.func64, Try.ntmps64
    go_wp2
    go_ret
    exact ⟨ret_bool HE.out.symm, rfl⟩
  · have h1 : decide (0 ≤ r) = false := decide_eq_false h
    have HE := hide (show okRate r = false by unfold okRate; simp [h])
    go_enter Try.func64, Try.ntmps64
    go_wp2
    go_ret
    exact ⟨ret_bool HE.out.symm, rfl⟩
def lowZ (x r : Int) : Int := if 0 < x then max 1 (ratN (x - 1).toNat 1000000 (1000000 + r).toNat true : Int) else -(ratN (1 - x).toNat 1000000 (1000000 - r).toNat false : Int)
def slackZ (a r : Int) : Int := ratN a.toNat r.toNat (1000000 - r).toNat true
def nearX (x : Int) : Bool := decide (-4611686018427387904 ≤ x ∧ x ≤ 4611686018427387904)
theorem low_bound1 (x r : Int) (hx : 0 < x) (hx2 : x ≤ 4611686018427387904) (hr : 0 ≤ r) : (x - 1).toNat * 1000000 / (1000000 + r).toNat < 9223372036854775807 := by
  rw [Nat.div_lt_iff_lt_mul (by omega)]
  have h1 : 9223372036854775807 * 1000000 ≤ 9223372036854775807 * (1000000 + r).toNat := Nat.mul_le_mul_left _ (by omega)
  omega
theorem low_bound2 (x r : Int) (hx : x ≤ 0) (hx2 : -4611686018427387904 ≤ x) (hr : 0 ≤ r) (hr2 : r ≤ 100000) : (1 - x).toNat * 1000000 / (1000000 - r).toNat ≤ 5124095576030431006 := by
  refine Nat.le_of_lt_succ ((Nat.div_lt_iff_lt_mul (by omega)).2 ?_)
  have h1 : (5124095576030431006 + 1) * 900000 ≤ (5124095576030431006 + 1) * (1000000 - r).toNat := Nat.mul_le_mul_left _ (by omega)
  omega
theorem ratN_bounds (a b c : Nat) (up : Bool) : a * b / c ≤ ratN a b c up ∧ ratN a b c up ≤ a * b / c + 1 := by
  unfold ratN; split <;> omega
set_option maxHeartbeats 1000000 in
set_option maxRecDepth 100000 in
theorem low_ok (x r : Int) (w : World) (hx : nearX x = true) (hr : okRate r = true) :
    Calls Try.prog 34 #[.int .i64 x, .int .i64 r] w fun e w' => e = .returned (.tuple #[.int .i64 (lowZ x r), .int .i64 0]) ∧ Below w.heap.size w w' := by
  have hx' := of_decide_eq_true hx
  have hr' := of_decide_eq_true hr
  have HRT := hide (fun w => rate_any r w)
  rw [hr] at HRT
  have h1 : decide (x < -4611686018427387904) = false := decide_eq_false (by omega)
  have h2 : decide (4611686018427387904 < x) = false := decide_eq_false (by omega)
  clear hx hr
  by_cases h0 : 0 < x
  · have h3 : decide (0 < x) = true := decide_eq_true h0
    have HL : Hid (lowZ x r = max 1 (ratN (x - 1).toNat 1000000 (1000000 + r).toNat true : Int)) := hide (if_pos h0)
    have HRA := hide (fun w => ratioN_any (x - 1).toNat 1000000 (1000000 + r).toNat true w (by omega) (by omega) (by omega) (by omega) (low_bound1 x r h0 hx'.2 hr'.1))
    rw [show (((x - 1).toNat : Nat) : Int) = x - 1 by omega, show (((1000000 + r).toNat : Nat) : Int) = 1000000 + r by omega] at HRA
    generalize ratN (x - 1).toNat 1000000 (1000000 + r).toNat true = q at *
    have hle : -4611686018427387904 ≤ x ∧ x ≤ 4611686018427387904 := hx'
    have hl1 := hle.1
    have hl2 := hle.2
    have hr1 := hr'.1
    have hr2 := hr'.2
    clear hx' hr' hle
    go_enter Try.func34, Try.ntmps34
    go_wp2_with (first
      | (go_at_call 64; refine (HRT.out _).mono ?_; rintro e w' ⟨rfl, rfl⟩)
      | (go_at_call 65; refine (HRA.out _).mono ?_; rintro e w1 ⟨rfl, hb1⟩))
    go_ret2
    refine ⟨?_, hb1⟩
    rw [HL.out]
    rfl
  · have h3 : decide (0 < x) = false := decide_eq_false h0
    have HL : Hid (lowZ x r = -(ratN (1 - x).toNat 1000000 (1000000 - r).toNat false : Int)) := hide (if_neg h0)
    have hb := low_bound2 x r (by omega) hx'.1 hr'.1 hr'.2
    have hq := ratN_bounds (1 - x).toNat 1000000 (1000000 - r).toNat false
    have HRA := hide (fun w => ratioN_any (1 - x).toNat 1000000 (1000000 - r).toNat false w (by omega) (by omega) (by omega) (by omega) (by omega))
    rw [show (((1 - x).toNat : Nat) : Int) = 1 - x by omega, show (((1000000 - r).toNat : Nat) : Int) = 1000000 - r by omega] at HRA
    generalize (1 - x).toNat * 1000000 / (1000000 - r).toNat = d at *
    generalize ratN (1 - x).toNat 1000000 (1000000 - r).toNat false = q at *
    have hl1 := hx'.1
    have hl2 := hx'.2
    have hr1 := hr'.1
    have hr2 := hr'.2
    have hq2 : q ≤ 5124095576030431007 := by omega
    clear hx' hr' hb hq
    go_enter Try.func34, Try.ntmps34
    go_wp2_with (first
      | (go_at_call 64; refine (HRT.out _).mono ?_; rintro e w' ⟨rfl, rfl⟩)
      | (go_at_call 65; refine (HRA.out _).mono ?_; rintro e w1 ⟨rfl, hb1⟩))
    go_ret2
    refine ⟨?_, hb1⟩
    rw [HL.out]
    rfl
theorem lowZ_bounds (x r : Int) (hx : nearX x = true) (hr : okRate r = true) : -5124095576030431007 ≤ lowZ x r ∧ lowZ x r ≤ 4611686018427387904 := by
  have hx' := of_decide_eq_true hx
  have hr' := of_decide_eq_true hr
  unfold lowZ
  split
  · rename_i h
    have h1 : (x - 1).toNat * 1000000 / (1000000 + r).toNat ≤ (x - 1).toNat := by
      refine Nat.div_le_of_le_mul ?_
      rw [Nat.mul_comm]
      exact Nat.mul_le_mul_right _ (by omega)
    have h2 := ratN_bounds (x - 1).toNat 1000000 (1000000 + r).toNat true
    omega
  · have h1 := low_bound2 x r (by omega) hx'.1 hr'.1 hr'.2
    have h2 := ratN_bounds (1 - x).toNat 1000000 (1000000 - r).toNat false
    omega
set_option maxHeartbeats 1000000 in
set_option maxRecDepth 100000 in
theorem low_err (x r : Int) (w : World) (hx1 : -9223372036854775808 ≤ x) (hx2 : x ≤ 9223372036854775807) (h : nearX x = false ∨ okRate r = false) :
    Calls Try.prog 34 #[.int .i64 x, .int .i64 r] w fun e w' => e = .returned (.tuple #[.int .i64 0, .int .i64 11]) ∧ Below w.heap.size w w' := by
  by_cases c1 : x < -4611686018427387904
  · have h1 : decide (x < -4611686018427387904) = true := decide_eq_true c1
    go_enter Try.func34, Try.ntmps34
    go_wp2_with fail
    go_ret2
    exact ⟨rfl, Below.refl _ _⟩
  have h1 : decide (x < -4611686018427387904) = false := decide_eq_false c1
  by_cases c2 : 4611686018427387904 < x
  · have h2 : decide (4611686018427387904 < x) = true := decide_eq_true c2
    go_enter Try.func34, Try.ntmps34
    go_wp2_with fail
    go_ret2
    exact ⟨rfl, Below.refl _ _⟩
  have h2 : decide (4611686018427387904 < x) = false := decide_eq_false c2
  have hr : okRate r = false := h.resolve_left (by unfold nearX; simp; omega)
  have HRT := hide (fun w => rate_any r w)
  rw [hr] at HRT
  clear h hr
  go_enter Try.func34, Try.ntmps34
  go_wp2_with (go_at_call 64; refine (HRT.out _).mono ?_; rintro e w' ⟨rfl, rfl⟩)
  go_ret2
  exact ⟨rfl, Below.refl _ _⟩
def highZ (x r : Int) : Int := -lowZ (-x) r
set_option maxHeartbeats 1000000 in
set_option maxRecDepth 100000 in
theorem high_ok (x r : Int) (w : World) (hx : nearX x = true) (hr : okRate r = true) :
    Calls Try.prog 35 #[.int .i64 x, .int .i64 r] w fun e w' => e = .returned (.tuple #[.int .i64 (highZ x r), .int .i64 0]) ∧ Below w.heap.size w w' := by
  have hx' := of_decide_eq_true hx
  have h1 : decide (x < -4611686018427387904) = false := decide_eq_false (by omega)
  have h2 : decide (4611686018427387904 < x) = false := decide_eq_false (by omega)
  have hnx : nearX (-x) = true := by unfold nearX; rw [decide_eq_true_eq]; omega
  have HLO := hide (fun w => low_ok (-x) r w hnx hr)
  have hbd := lowZ_bounds (-x) r hnx hr
  have HH : Hid (highZ x r = -lowZ (-x) r) := hide rfl
  generalize highZ x r = H at *
  generalize lowZ (-x) r = L at *
  have hb1 := hbd.1
  have hb2 := hbd.2
  have hl1 := hx'.1
  have hl2 := hx'.2
  clear hbd hx hr hnx hx'
  go_enter Try.func35, Try.ntmps35
  go_wp2_with (go_at_call 34; refine (HLO.out _).mono ?_; rintro e w1 ⟨rfl, hbw⟩)
  go_ret2
  exact ⟨by rw [HH.out]; rfl, hbw⟩
set_option maxHeartbeats 1000000 in
set_option maxRecDepth 100000 in
theorem high_err (x r : Int) (w : World) (hx1 : -9223372036854775808 ≤ x) (hx2 : x ≤ 9223372036854775807) (h : nearX x = false ∨ okRate r = false) :
    Calls Try.prog 35 #[.int .i64 x, .int .i64 r] w fun e w' => e = .returned (.tuple #[.int .i64 0, .int .i64 11]) ∧ Below w.heap.size w w' := by
  by_cases c1 : x < -4611686018427387904
  · have h1 : decide (x < -4611686018427387904) = true := decide_eq_true c1
    go_enter Try.func35, Try.ntmps35
    go_wp2_with fail
    go_ret2
    exact ⟨rfl, Below.refl _ _⟩
  have h1 : decide (x < -4611686018427387904) = false := decide_eq_false c1
  by_cases c2 : 4611686018427387904 < x
  · have h2 : decide (4611686018427387904 < x) = true := decide_eq_true c2
    go_enter Try.func35, Try.ntmps35
    go_wp2_with fail
    go_ret2
    exact ⟨rfl, Below.refl _ _⟩
  have h2 : decide (4611686018427387904 < x) = false := decide_eq_false c2
  have hr : okRate r = false := h.resolve_left (by unfold nearX; simp; omega)
  have HLO := hide (fun w => low_err (-x) r w (by omega) (by omega) (.inr hr))
  clear h hr
  go_enter Try.func35, Try.ntmps35
  go_wp2_with (go_at_call 34; refine (HLO.out _).mono ?_; rintro e w1 ⟨rfl, hbw⟩)
  go_ret2
  exact ⟨rfl, hbw⟩
def farA (a : Int) : Bool := decide (0 ≤ a ∧ a ≤ 4611686018427387904)
set_option maxHeartbeats 1000000 in
set_option maxRecDepth 100000 in
theorem slack_ok (a r : Int) (w : World) (ha : farA a = true) (hr : okRate r = true) :
    Calls Try.prog 31 #[.int .i64 a, .int .i64 r] w fun e w' => e = .returned (.tuple #[.int .i64 (slackZ a r), .int .i64 0]) ∧ Below w.heap.size w w' := by
  have ha' := of_decide_eq_true ha
  have hr' := of_decide_eq_true hr
  have HRT := hide (fun w => rate_any r w)
  rw [hr] at HRT
  have h1 : decide (a < 0) = false := decide_eq_false (by omega)
  have h2 : decide (4611686018427387904 < a) = false := decide_eq_false (by omega)
  have hbd : a.toNat * r.toNat / (1000000 - r).toNat < 9223372036854775807 := by
    rw [Nat.div_lt_iff_lt_mul (by omega)]
    have h5 : a.toNat * r.toNat ≤ 4611686018427387904 * 100000 := Nat.mul_le_mul (by omega) (by omega)
    have h6 : 9223372036854775807 * 900000 ≤ 9223372036854775807 * (1000000 - r).toNat := Nat.mul_le_mul_left _ (by omega)
    omega
  have HRA := hide (fun w => ratioN_any a.toNat r.toNat (1000000 - r).toNat true w (by omega) (by omega) (by omega) (by omega) hbd)
  rw [show ((a.toNat : Nat) : Int) = a by omega, show ((r.toNat : Nat) : Int) = r by omega, show (((1000000 - r).toNat : Nat) : Int) = 1000000 - r by omega] at HRA
  have HL : Hid (slackZ a r = (ratN a.toNat r.toNat (1000000 - r).toNat true : Int)) := hide rfl
  generalize ratN a.toNat r.toNat (1000000 - r).toNat true = q at *
  generalize slackZ a r = sl at *
  have hr1 := hr'.1
  have hr2 := hr'.2
  clear ha ha' hr hr' hbd
  go_enter Try.func31, Try.ntmps31
  go_wp2_with (first
    | (go_at_call 64; refine (HRT.out _).mono ?_; rintro e w' ⟨rfl, rfl⟩)
    | (go_at_call 65; refine (HRA.out _).mono ?_; rintro e w1 ⟨rfl, hb1⟩))
  go_ret2
  exact ⟨by rw [HL.out]; rfl, hb1⟩
end Go.Proofs.Ytgidaifoiljgoaa
/- safe.Add. -/
namespace Go.Proofs.Ytgidaifoiljgoaa
open Go.RowKit
set_option linter.unusedVariables false
set_option linter.unusedSimpArgs false
theorem toInt_i64 (x : BitVec 64) : IntKind.i64.wrap (x.toNat : Int) = x.toInt := by
  have h := x.isLt
  rw [IntKind.wrap_i64, BitVec.toInt_eq_toNat_cond]
  split <;> omega
theorem xor_toInt (a b : Int) : bits .xor .i64 a b = (BitVec.ofInt 64 a ^^^ BitVec.ofInt 64 b).toInt := by
  rw [← toInt_i64]; rfl
theorem and_toInt (a b : Int) : bits .and .i64 a b = (BitVec.ofInt 64 a &&& BitVec.ofInt 64 b).toInt := by
  rw [← toInt_i64]; rfl
theorem msb_in (a : Int) (h1 : -9223372036854775808 ≤ a) (h2 : a ≤ 9223372036854775807) : (BitVec.ofInt 64 a).msb = decide (a < 0) := by
  rw [BitVec.msb_eq_toInt, BitVec.toInt_ofInt]
  have : a.bmod (2 ^ 64) = a := by
    unfold Int.bmod
    simp only []
    split <;> omega
  rw [this]
theorem over_sign (a b s : Int) (a1 : -9223372036854775808 ≤ a) (a2 : a ≤ 9223372036854775807) (b1 : -9223372036854775808 ≤ b) (b2 : b ≤ 9223372036854775807) (s1 : -9223372036854775808 ≤ s) (s2 : s ≤ 9223372036854775807) :
    decide (bits .and .i64 (bits .xor .i64 a s) (bits .xor .i64 b s) < 0) = ((decide (a < 0) ^^ decide (s < 0)) && (decide (b < 0) ^^ decide (s < 0))) := by
  rw [and_toInt, ← BitVec.msb_eq_toInt, BitVec.msb_and, xor_toInt, xor_toInt, BitVec.ofInt_toInt, BitVec.ofInt_toInt, BitVec.msb_xor, BitVec.msb_xor, msb_in a a1 a2, msb_in b b1 b2, msb_in s s1 s2]
theorem over_add (a b : Int) (a1 : -9223372036854775808 ≤ a) (a2 : a ≤ 9223372036854775807) (b1 : -9223372036854775808 ≤ b) (b2 : b ≤ 9223372036854775807) :
    decide (bits .and .i64 (bits .xor .i64 a (wrap64 (a + b))) (bits .xor .i64 b (wrap64 (a + b))) < 0) = decide (a + b < -9223372036854775808 ∨ 9223372036854775807 < a + b) := by
  have hw : wrap64 (a + b) = (a + b + 9223372036854775808) % 18446744073709551616 - 9223372036854775808 := by unfold wrap64; omega
  generalize wrap64 (a + b) = s at *
  rw [over_sign a b s a1 a2 b1 b2 (by omega) (by omega)]
  by_cases h1 : a < 0 <;> by_cases h2 : b < 0 <;> by_cases h3 : s < 0 <;> simp [h1, h2, h3] <;> omega
def addR (a b : Int) : Int × Nat := if a + b < -9223372036854775808 ∨ 9223372036854775807 < a + b then (0, 12) else (a + b, 0)
set_option maxRecDepth 100000 in
theorem safeAdd_any (a b : Int) (w : World) (a1 : -9223372036854775808 ≤ a) (a2 : a ≤ 9223372036854775807) (b1 : -9223372036854775808 ≤ b) (b2 : b ≤ 9223372036854775807) :
    Calls Try.prog 60 #[.int .i64 a, .int .i64 b] w fun e w' => e = .returned (.tuple #[.int .i64 (addR a b).1, .int .i64 (addR a b).2]) ∧ w = w' := by
  have HO := over_add a b a1 a2 b1 b2
  have HR : Hid (addR a b = if a + b < -9223372036854775808 ∨ 9223372036854775807 < a + b then (0, 12) else (a + b, 0)) := hide rfl
  generalize addR a b = R at *
  by_cases c : a + b < -9223372036854775808 ∨ 9223372036854775807 < a + b
  · rw [decide_eq_true c] at HO
    rw [if_pos c] at HR
    clear c
    go_enter Try.func60, Try.ntmps60
    go_wp2
    go_ret2
    exact ⟨by rw [HR.out]; rfl, rfl⟩
  · rw [decide_eq_false c] at HO
    rw [if_neg c] at HR
    have hw : wrap64 (a + b) = a + b := IntWalk.wrap64_in _ (by constructor <;> omega)
    have HW := hide hw
    clear c hw
    go_enter Try.func60, Try.ntmps60
    go_wp2
    go_ret2
    refine ⟨?_, rfl⟩
    rw [HR.out]
    show Ending.returned (.tuple #[.int .i64 (wrap64 (a + b)), .int .i64 0]) = _
    rw [HW.out]
    rfl
end Go.Proofs.Ytgidaifoiljgoaa
/- Gaps: Right, Has. -/
namespace Go.Proofs.Ytgidaifoiljgoaa
open Go.RowKit
set_option linter.unusedVariables false
set_option linter.unusedSimpArgs false
def gv (lo hi : Int) : Array Value := #[.int .i64 lo, .int .i64 hi]
theorem info100 : (Try.prog.info? 39).map (·.size) = some 2 := by kernel_rfl
theorem gv_one (lo hi : Int) : (gv lo hi).all (·.oneCell') = true := by
  rw [Array.all_eq_true_iff_forall_mem]
  intro v hv
  simp only [gv, List.mem_toArray, List.mem_cons, List.not_mem_nil, or_false] at hv
  rcases hv with rfl | rfl <;> rfl
theorem gapRight_any (lo hi : Int) (w : World) : Calls Try.prog 46 #[.agg (gv lo hi)] w fun e w' => e = .returned (.bool (decide (lo ≤ hi))) ∧ Below w.heap.size w w' := by
  unfold gv
  go_enter Try.func46, Try.ntmps46
  go_wp2
  go_ret
  exact ⟨rfl, (Below.refl _ _).alloc (Nat.le_refl _) _⟩
theorem gapHas_any (lo hi x : Int) (w : World) : Calls Try.prog 39 #[.agg (gv lo hi), .int .i64 x] w fun e w' => e = .returned (.bool (decide (lo ≤ x ∧ x ≤ hi))) ∧ Below w.heap.size w w' := by
  unfold gv
  by_cases h : lo ≤ x
  · have hb : decide (lo ≤ x) = true := decide_eq_true h
    go_enter Try.func39, Try.ntmps39
    go_wp2
    go_ret
    exact ⟨ret_bool (by simp [h]), (Below.refl _ _).alloc (Nat.le_refl _) _⟩
  · have hb : decide (lo ≤ x) = false := decide_eq_false h
    go_enter Try.func39, Try.ntmps39
    go_wp2
    go_ret
    exact ⟨ret_bool (by simp [h]), (Below.refl _ _).alloc (Nat.le_refl _) _⟩
end Go.Proofs.Ytgidaifoiljgoaa
/- clock.Sample: Right, Trip, At. -/
namespace Go.Proofs.Ytgidaifoiljgoaa
open Go.RowKit
set_option linter.unusedVariables false
set_option linter.unusedSimpArgs false
structure Smp where
  asked : Int
  got : Int
  sent : Int
  came : Int
deriving DecidableEq
def smv (s : Smp) : Array Value := #[.int .i64 s.asked, .int .i64 s.got, .int .i64 s.sent, .int .i64 s.came]
def isT (t : Int) : Bool := decide (0 ≤ t ∧ t ≤ 4611686018427387903)
def okS (s : Smp) : Bool := isT s.asked && isT s.got && isT s.sent && isT s.came && decide (s.asked ≤ s.came) && decide (s.got ≤ s.sent)
theorem isTime_any (t : Int) (w : World) : Calls Try.prog 51 #[.int .i64 t] w fun e w' => e = .returned (.bool (isT t)) ∧ w = w' := by
  by_cases h : 0 ≤ t
  · have h1 : decide (0 ≤ t) = true := decide_eq_true h
    have HE := hide (show isT t = decide (t ≤ 4611686018427387903) by unfold isT; simp [h])
    go_enter Try.func51, Try.ntmps51
    go_wp2
    go_ret
    exact ⟨ret_bool HE.out.symm, rfl⟩
  · have h1 : decide (0 ≤ t) = false := decide_eq_false h
    have HE := hide (show isT t = false by unfold isT; simp [h])
    go_enter Try.func51, Try.ntmps51
    go_wp2
    go_ret
    exact ⟨ret_bool HE.out.symm, rfl⟩
theorem isRate_any (r : Int) (w : World) : Calls Try.prog 42 #[.int .i64 r] w fun e w' => e = .returned (.bool (okRate r)) ∧ w = w' := by
  by_cases h : 0 ≤ r
  · have h1 : decide (0 ≤ r) = true := decide_eq_true h
    have HE := hide (show okRate r = decide (r ≤ 100000) by unfold okRate; simp [h])
    go_enter Try.func42, Try.ntmps42
    go_wp2
    go_ret
    exact ⟨ret_bool HE.out.symm, rfl⟩
  · have h1 : decide (0 ≤ r) = false := decide_eq_false h
    have HE := hide (show okRate r = false by unfold okRate; simp [h])
    go_enter Try.func42, Try.ntmps42
    go_wp2
    go_ret
    exact ⟨ret_bool HE.out.symm, rfl⟩
set_option maxHeartbeats 1000000 in
set_option maxRecDepth 100000 in
theorem right_any (s : Smp) (w : World) : Calls Try.prog 25 #[.agg (smv s)] w fun e w' => e = .returned (.bool (okS s)) ∧ Below w.heap.size w w' := by
  obtain ⟨a, g, t, c⟩ := s
  have HO : Hid (okS ⟨a, g, t, c⟩ = (isT a && isT g && isT t && isT c && decide (a ≤ c) && decide (g ≤ t))) := hide rfl
  have HA := hide (fun w => isTime_any a w)
  have HG := hide (fun w => isTime_any g w)
  have HT := hide (fun w => isTime_any t w)
  have HC := hide (fun w => isTime_any c w)
  generalize okS ⟨a, g, t, c⟩ = r at *
  generalize isT a = ta at *
  generalize isT g = tg at *
  generalize isT t = tt at *
  generalize isT c = tc at *
  unfold smv
  simp only []
  cases ta with
  | false =>
    go_enter Try.func25, Try.ntmps25
    go_wp2_with fail
    refine (HA.out _).mono ?_
    rintro e w' ⟨rfl, hw⟩
    subst hw
    go_wp2_with fail
    go_ret
    exact ⟨ret_bool (by rw [HO.out]; simp), (Below.refl _ _).alloc (Nat.le_refl _) _⟩
  | true =>
    cases tg with
    | false =>
      go_enter Try.func25, Try.ntmps25
      go_wp2_with fail
      refine (HA.out _).mono ?_
      rintro e w' ⟨rfl, hw⟩
      subst hw
      go_wp2_with fail
      refine (HG.out _).mono ?_
      rintro e w' ⟨rfl, hw⟩
      subst hw
      go_wp2_with fail
      go_ret
      exact ⟨ret_bool (by rw [HO.out]; simp), (Below.refl _ _).alloc (Nat.le_refl _) _⟩
    | true =>
      cases tt with
      | false =>
        go_enter Try.func25, Try.ntmps25
        go_wp2_with fail
        refine (HA.out _).mono ?_
        rintro e w' ⟨rfl, hw⟩
        subst hw
        go_wp2_with fail
        refine (HG.out _).mono ?_
        rintro e w' ⟨rfl, hw⟩
        subst hw
        go_wp2_with fail
        refine (HT.out _).mono ?_
        rintro e w' ⟨rfl, hw⟩
        subst hw
        go_wp2_with fail
        go_ret
        exact ⟨ret_bool (by rw [HO.out]; simp), (Below.refl _ _).alloc (Nat.le_refl _) _⟩
      | true =>
        cases tc with
        | false =>
          go_enter Try.func25, Try.ntmps25
          go_wp2_with fail
          refine (HA.out _).mono ?_
          rintro e w' ⟨rfl, hw⟩
          subst hw
          go_wp2_with fail
          refine (HG.out _).mono ?_
          rintro e w' ⟨rfl, hw⟩
          subst hw
          go_wp2_with fail
          refine (HT.out _).mono ?_
          rintro e w' ⟨rfl, hw⟩
          subst hw
          go_wp2_with fail
          refine (HC.out _).mono ?_
          rintro e w' ⟨rfl, hw⟩
          subst hw
          go_wp2_with fail
          go_ret
          exact ⟨ret_bool (by rw [HO.out]; simp), (Below.refl _ _).alloc (Nat.le_refl _) _⟩
        | true =>
          by_cases h0 : a ≤ c
          · have d0 : decide (a ≤ c) = true := decide_eq_true h0
            rw [d0] at HO
            have d1 : Hid (r = decide (g ≤ t)) := hide (by rw [HO.out]; simp)
            go_enter Try.func25, Try.ntmps25
            go_wp2_with fail
            refine (HA.out _).mono ?_
            rintro e w' ⟨rfl, hw⟩
            subst hw
            go_wp2_with fail
            refine (HG.out _).mono ?_
            rintro e w' ⟨rfl, hw⟩
            subst hw
            go_wp2_with fail
            refine (HT.out _).mono ?_
            rintro e w' ⟨rfl, hw⟩
            subst hw
            go_wp2_with fail
            refine (HC.out _).mono ?_
            rintro e w' ⟨rfl, hw⟩
            subst hw
            go_wp2_with fail
            go_ret
            exact ⟨ret_bool (by rw [d1.out]), (Below.refl _ _).alloc (Nat.le_refl _) _⟩
          · have d0 : decide (a ≤ c) = false := decide_eq_false h0
            rw [d0] at HO
            go_enter Try.func25, Try.ntmps25
            go_wp2_with fail
            refine (HA.out _).mono ?_
            rintro e w' ⟨rfl, hw⟩
            subst hw
            go_wp2_with fail
            refine (HG.out _).mono ?_
            rintro e w' ⟨rfl, hw⟩
            subst hw
            go_wp2_with fail
            refine (HT.out _).mono ?_
            rintro e w' ⟨rfl, hw⟩
            subst hw
            go_wp2_with fail
            refine (HC.out _).mono ?_
            rintro e w' ⟨rfl, hw⟩
            subst hw
            go_wp2_with fail
            go_ret
            exact ⟨ret_bool (by rw [HO.out]; simp), (Below.refl _ _).alloc (Nat.le_refl _) _⟩
/-- The sample's interval at a stamp. -/
def atLo (s : Smp) (stamp rho : Int) : Int := max (s.asked + lowZ (stamp - s.got) rho) 0
def atHi (s : Smp) (stamp rho : Int) : Int := min (s.came + highZ (stamp - s.sent) rho) 4611686018427387903
def atR (s : Smp) (stamp rho : Int) : (Int × Int) × Nat :=
  if okS s = false then ((0, 0), 10) else if isT stamp = false ∨ okRate rho = false then ((0, 0), 11) else if atHi s stamp rho < atLo s stamp rho then ((0, 0), 13) else ((atLo s stamp rho, atHi s stamp rho), 0)
end Go.Proofs.Ytgidaifoiljgoaa
/- clock.Sample.At. -/
namespace Go.Proofs.Ytgidaifoiljgoaa
open Go.RowKit
set_option linter.unusedVariables false
set_option linter.unusedSimpArgs false
theorem infoS : (Try.prog.info? 33).map (·.size) = some 4 := by kernel_rfl
theorem lowIn (s : Smp) (stamp rho : Int) (hs : okS s = true) (ht : isT stamp = true) (hr : okRate rho = true) : nearX (stamp - s.got) = true ∧ nearX (stamp - s.sent) = true := by
  unfold okS isT at hs
  unfold isT at ht
  simp only [Bool.and_eq_true, decide_eq_true_eq] at hs ht
  unfold nearX
  rw [decide_eq_true_eq, decide_eq_true_eq]
  omega
set_option maxHeartbeats 1000000 in
set_option maxRecDepth 100000 in
theorem at_any (s : Smp) (stamp rho : Int) (w : World) (hst1 : -9223372036854775808 ≤ stamp) (hst2 : stamp ≤ 9223372036854775807) :
    Calls Try.prog 24 #[.agg (smv s), .int .i64 stamp, .int .i64 rho] w fun e w' => e = .returned (.tuple #[.agg (gv (atR s stamp rho).1.1 (atR s stamp rho).1.2), .int .i64 (atR s stamp rho).2]) ∧ Below w.heap.size w w' := by
  have K0 := hide (((Blks.nil w).new 33 (smv s)).new 39 (gv 0 0))
  rw [World.size_alloc] at K0
  have B0 := hide (show Below w.heap.size w ((w.alloc (.cells (smv s) 33)).alloc (.cells (gv 0 0) 39)) from ((Below.refl _ _).alloc (Nat.le_refl _) _).alloc (by simp) _)
  have HS := hide (fun w => right_any s w)
  have HRr : Hid (atR s stamp rho = if okS s = false then ((0, 0), 10) else if isT stamp = false ∨ okRate rho = false then ((0, 0), 11) else if atHi s stamp rho < atLo s stamp rho then ((0, 0), 13) else ((atLo s stamp rho, atHi s stamp rho), 0)) := hide rfl
  have HR := HRr
  clear HRr
  cases hs : okS s with
  | false =>
    rw [hs] at HS
    rw [if_pos hs] at HR
    generalize atR s stamp rho = R at *
    clear hs
    go_enter Try.func24, Try.ntmps24
    go_wp2_with (refine pause (.load 33 _) rfl ?_)
    refine unpause ?_
    refine wpList_load_blk rfl 33 (.tmp 3) rfl w.heap.size rfl (smv s) _ (K0.out.get 1 rfl) Try.underlying33 rfl infoS ?_
    go_wp2_with fail
    refine (HS.out _).mono ?_
    rintro e w1 ⟨rfl, hb1⟩
    have K1 := hide (K0.out.next hb1)
    have B1 := hide (B0.out.trans (hb1.mono B0.out.size))
    clear hb1 K0 B0
    go_wp2_with (refine pause (.store 39 _ _) rfl ?_)
    refine unpause ?_
    refine wpList_store_blk rfl 39 (.tmp 6) (.tmp 18) rfl (w.heap.size + 1) rfl (gv 0 0) (gv 0 0) rfl (K1.out.get 0 rfl) rfl info100 (gv_one _ _) ?_
    go_wp2_with fail
    refine bodyPost_ret_by (results_cell2 rfl _ (w.heap.size + 1) rfl (gv 0 0) _ ((K1.out.get 0 rfl).setRow _) Try.underlying39 rfl info100) rfl ⟨?_, below_setRow B1.out (by omega) _⟩
    rw [HR.out]
    rfl
  | true =>
    rw [hs] at HS
    rw [if_neg (by rw [hs]; simp)] at HR
    have HT := hide (fun w => isTime_any stamp w)
    have HRT := hide (fun w => isRate_any rho w)
    have hin := lowIn s stamp rho hs
    have hsb := hs
    unfold okS isT at hsb
    simp only [Bool.and_eq_true, decide_eq_true_eq] at hsb
    clear hs
    cases ht : isT stamp with
    | false =>
      rw [ht] at HT
      rw [if_pos (.inl ht)] at HR
      generalize atR s stamp rho = R at *
      clear ht hin
      go_enter Try.func24, Try.ntmps24
      go_wp2_with (refine pause (.load 33 _) rfl ?_)
      refine unpause ?_
      refine wpList_load_blk rfl 33 (.tmp 3) rfl w.heap.size rfl (smv s) _ (K0.out.get 1 rfl) Try.underlying33 rfl infoS ?_
      go_wp2_with fail
      refine (HS.out _).mono ?_
      rintro e w1 ⟨rfl, hb1⟩
      have K1 := hide (K0.out.next hb1)
      have B1 := hide (B0.out.trans (hb1.mono B0.out.size))
      clear hb1 K0 B0
      go_wp2_with fail
      refine (HT.out _).mono ?_
      rintro e w' ⟨rfl, hw⟩
      subst hw
      go_wp2_with (refine pause (.store 39 _ _) rfl ?_)
      refine unpause ?_
      refine wpList_store_blk rfl 39 (.tmp 6) (.tmp 27) rfl (w.heap.size + 1) rfl (gv 0 0) (gv 0 0) rfl (K1.out.get 0 rfl) rfl info100 (gv_one _ _) ?_
      go_wp2_with fail
      refine bodyPost_ret_by (results_cell2 rfl _ (w.heap.size + 1) rfl (gv 0 0) _ ((K1.out.get 0 rfl).setRow _) Try.underlying39 rfl info100) rfl ⟨?_, below_setRow B1.out (by omega) _⟩
      rw [HR.out]
      rfl
    | true =>
      rw [ht] at HT
      cases hr : okRate rho with
      | false =>
        rw [hr] at HRT
        rw [if_pos (.inr hr)] at HR
        generalize atR s stamp rho = R at *
        clear ht hin hr
        go_enter Try.func24, Try.ntmps24
        go_wp2_with (refine pause (.load 33 _) rfl ?_)
        refine unpause ?_
        refine wpList_load_blk rfl 33 (.tmp 3) rfl w.heap.size rfl (smv s) _ (K0.out.get 1 rfl) Try.underlying33 rfl infoS ?_
        go_wp2_with fail
        refine (HS.out _).mono ?_
        rintro e w1 ⟨rfl, hb1⟩
        have K1 := hide (K0.out.next hb1)
        have B1 := hide (B0.out.trans (hb1.mono B0.out.size))
        clear hb1 K0 B0
        go_wp2_with fail
        refine (HT.out _).mono ?_
        rintro e w' ⟨rfl, hw⟩
        subst hw
        go_wp2_with fail
        refine (HRT.out _).mono ?_
        rintro e w' ⟨rfl, hw⟩
        subst hw
        go_wp2_with (refine pause (.store 39 _ _) rfl ?_)
        refine unpause ?_
        refine wpList_store_blk rfl 39 (.tmp 6) (.tmp 27) rfl (w.heap.size + 1) rfl (gv 0 0) (gv 0 0) rfl (K1.out.get 0 rfl) rfl info100 (gv_one _ _) ?_
        go_wp2_with fail
        refine bodyPost_ret_by (results_cell2 rfl _ (w.heap.size + 1) rfl (gv 0 0) _ ((K1.out.get 0 rfl).setRow _) Try.underlying39 rfl info100) rfl ⟨?_, below_setRow B1.out (by omega) _⟩
        rw [HR.out]
        rfl
      | true =>
        rw [hr] at HRT
        rw [if_neg (by rw [ht, hr]; simp)] at HR
        obtain ⟨hn1, hn2⟩ := hin ht hr
        have HLO := hide (fun w => low_ok (stamp - s.got) rho w hn1 hr)
        have HHI := hide (fun w => high_ok (stamp - s.sent) rho w hn2 hr)
        have hlb := lowZ_bounds (stamp - s.got) rho hn1 hr
        have hhb := lowZ_bounds (-(stamp - s.sent)) rho (by unfold nearX at hn2 ⊢; rw [decide_eq_true_eq] at hn2 ⊢; omega) hr
        have hhb2 : -4611686018427387904 ≤ highZ (stamp - s.sent) rho ∧ highZ (stamp - s.sent) rho ≤ 5124095576030431007 := by unfold highZ; omega
        have hL : Hid (atLo s stamp rho = max (s.asked + lowZ (stamp - s.got) rho) 0) := hide rfl
        have hH : Hid (atHi s stamp rho = min (s.came + highZ (stamp - s.sent) rho) 4611686018427387903) := hide rfl
        have htb := of_decide_eq_true ht
        generalize atR s stamp rho = R at *
        generalize atLo s stamp rho = lo at *
        generalize atHi s stamp rho = hi at *
        generalize lowZ (stamp - s.got) rho = L at *
        generalize highZ (stamp - s.sent) rho = H at *
        have HA := hide (fun w => safeAdd_any s.came H w (by omega) (by omega) (by omega) (by omega))
        obtain ⟨⟨⟨⟨⟨⟨a1, a2⟩, g1, g2⟩, t1, t2⟩, c1, c2⟩, hac⟩, hgt⟩ := hsb
        have hl1 := hlb.1
        have hl2 := hlb.2
        have hh1 := hhb2.1
        have hh2 := hhb2.2
        have ht1 := htb.1
        have ht2 := htb.2
        clear hn1 hn2 hlb hhb hhb2 ht hr htb hac hgt hin
        go_enter Try.func24, Try.ntmps24
        go_wp2_with (refine pause (.load 33 _) rfl ?_)
        refine unpause ?_
        refine wpList_load_blk rfl 33 (.tmp 3) rfl w.heap.size rfl (smv s) _ (K0.out.get 1 rfl) Try.underlying33 rfl infoS ?_
        go_wp2_with fail
        refine (HS.out _).mono ?_
        rintro e w1 ⟨rfl, hb1⟩
        have K1 := hide (K0.out.next hb1)
        have B1 := hide (B0.out.trans (hb1.mono B0.out.size))
        clear hb1 K0 B0
        go_wp2_with fail
        refine (HT.out _).mono ?_
        rintro e w' ⟨rfl, hw⟩
        subst hw
        go_wp2_with fail
        refine (HRT.out _).mono ?_
        rintro e w' ⟨rfl, hw⟩
        subst hw
        have k0 := K1.out.get 1 rfl
        have d0 := k0.cell 0
        have d1 := k0.cell 1
        have d2 := k0.cell 2
        have d3 := k0.cell 3
        simp only [smv, List.getElem?_toArray, List.getElem?_cons_zero, List.getElem?_cons_succ] at d0 d1 d2 d3
        clear k0
        go_wp2_with fail
        refine (HLO.out _).mono ?_
        rintro e w2 ⟨rfl, hb2⟩
        have K2 := hide (K1.out.next hb2)
        have B2 := hide (B1.out.trans (hb2.mono B1.out.size))
        clear hb2 K1 B1
        clear d0 d1 d2 d3
        have k0 := K2.out.get 1 rfl
        have d0 := k0.cell 0
        have d1 := k0.cell 1
        have d2 := k0.cell 2
        have d3 := k0.cell 3
        simp only [smv, List.getElem?_toArray, List.getElem?_cons_zero, List.getElem?_cons_succ] at d0 d1 d2 d3
        clear k0
        go_wp2_with fail
        refine (HHI.out _).mono ?_
        rintro e w3 ⟨rfl, hb3⟩
        have K3 := hide (K2.out.next hb3)
        have B3 := hide (B2.out.trans (hb3.mono B2.out.size))
        clear hb3 K2 B2
        clear d0 d1 d2 d3
        have k0 := K3.out.get 1 rfl
        have d0 := k0.cell 0
        have d1 := k0.cell 1
        have d2 := k0.cell 2
        have d3 := k0.cell 3
        simp only [smv, List.getElem?_toArray, List.getElem?_cons_zero, List.getElem?_cons_succ] at d0 d1 d2 d3
        clear k0
        go_wp2_with fail
        rw [← hL.out]
        by_cases ov : 9223372036854775807 < s.came + H
        · rw [show addR s.came H = (0, 12) from if_pos (.inr ov)] at HA
          have hhi : hi = 4611686018427387903 := by rw [hH.out]; omega
          subst hhi
          refine (HA.out _).mono ?_
          rintro e w' ⟨rfl, hw⟩
          subst hw
          go_upto_region 12 with (fail)
          have hlt2 : (4611686018427387903 : Int) < lo → R = ((0, 0), 13) := fun h => by rw [HR.out, if_pos h]
          have hge2 : ¬ (4611686018427387903 : Int) < lo → R = ((lo, (4611686018427387903 : Int)), 0) := fun h => by rw [HR.out, if_neg h]
          clear HR
          by_cases hc : (4611686018427387903 : Int) < lo
          · have HR := hide (hlt2 hc)
            have hd : decide ((4611686018427387903 : Int) < lo) = true := decide_eq_true hc
            clear hlt2 hge2 hc d0 d1 d2 d3
            go_wp2_with (refine pause (.store 39 _ _) rfl ?_)
            refine unpause ?_
            refine wpList_store_blk rfl 39 (.tmp 6) (.tmp 65) rfl (w.heap.size + 1) rfl (gv 0 0) (gv 0 0) rfl (K3.out.get 0 rfl) rfl info100 (gv_one _ _) ?_
            go_wp2_with fail
            refine bodyPost_ret_by (results_cell2 rfl _ (w.heap.size + 1) rfl (gv 0 0) _ ((K3.out.get 0 rfl).setRow _) Try.underlying39 rfl info100) rfl ⟨?_, below_setRow B3.out (by omega) _⟩
            rw [HR.out]
            rfl
          · have HR := hide (hge2 hc)
            have hd : decide ((4611686018427387903 : Int) < lo) = false := decide_eq_false hc
            clear hlt2 hge2 hc d0 d1 d2 d3
            go_wp2_with (refine pause (.store 39 _ _) rfl ?_)
            refine unpause ?_
            refine wpList_store_blk rfl 39 (.tmp 6) (.tmp 68) rfl (w.heap.size + 1) rfl (gv 0 0) (gv lo (4611686018427387903 : Int)) rfl (K3.out.get 0 rfl) rfl info100 (gv_one _ _) ?_
            go_wp2_with fail
            refine bodyPost_ret_by (results_cell2 rfl _ (w.heap.size + 1) rfl (gv lo (4611686018427387903 : Int)) _ ((K3.out.get 0 rfl).setRow _) Try.underlying39 rfl info100) rfl ⟨?_, below_setRow B3.out (by omega) _⟩
            rw [HR.out]
            rfl
        · rw [show addR s.came H = (s.came + H, 0) from if_neg (by omega)] at HA
          refine (HA.out _).mono ?_
          rintro e w' ⟨rfl, hw⟩
          subst hw
          go_upto_region 12 with (fail)
          rw [← hH.out]
          have hlt2 : hi < lo → R = ((0, 0), 13) := fun h => by rw [HR.out, if_pos h]
          have hge2 : ¬ hi < lo → R = ((lo, hi), 0) := fun h => by rw [HR.out, if_neg h]
          clear HR
          by_cases hc : hi < lo
          · have HR := hide (hlt2 hc)
            have hd : decide (hi < lo) = true := decide_eq_true hc
            clear hlt2 hge2 hc d0 d1 d2 d3
            go_wp2_with (refine pause (.store 39 _ _) rfl ?_)
            refine unpause ?_
            refine wpList_store_blk rfl 39 (.tmp 6) (.tmp 65) rfl (w.heap.size + 1) rfl (gv 0 0) (gv 0 0) rfl (K3.out.get 0 rfl) rfl info100 (gv_one _ _) ?_
            go_wp2_with fail
            refine bodyPost_ret_by (results_cell2 rfl _ (w.heap.size + 1) rfl (gv 0 0) _ ((K3.out.get 0 rfl).setRow _) Try.underlying39 rfl info100) rfl ⟨?_, below_setRow B3.out (by omega) _⟩
            rw [HR.out]
            rfl
          · have HR := hide (hge2 hc)
            have hd : decide (hi < lo) = false := decide_eq_false hc
            clear hlt2 hge2 hc d0 d1 d2 d3
            go_wp2_with (refine pause (.store 39 _ _) rfl ?_)
            refine unpause ?_
            refine wpList_store_blk rfl 39 (.tmp 6) (.tmp 68) rfl (w.heap.size + 1) rfl (gv 0 0) (gv lo hi) rfl (K3.out.get 0 rfl) rfl info100 (gv_one _ _) ?_
            go_wp2_with fail
            refine bodyPost_ret_by (results_cell2 rfl _ (w.heap.size + 1) rfl (gv lo hi) _ ((K3.out.get 0 rfl).setRow _) Try.underlying39 rfl info100) rfl ⟨?_, below_setRow B3.out (by omega) _⟩
            rw [HR.out]
            rfl
end Go.Proofs.Ytgidaifoiljgoaa
