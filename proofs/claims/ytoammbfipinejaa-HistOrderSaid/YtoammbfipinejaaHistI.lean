/- Histograms, the plain laws: counts, running sums, ranks, parts; the document's Bucket; arrays compared. -/
import Derived.Test.YtoammbfipinejaaHistF
import Derived.ChangeKeysEq
namespace Go.Proofs.Ytoammbfipinejaa
open Go.RowKit
set_option linter.unusedVariables false
set_option linter.unusedSimpArgs false
def inL (xs : List Int) : Prop := ∀ x ∈ xs, -9223372036854775808 ≤ x ∧ x ≤ 9223372036854775807
theorem foldBump_len : ∀ (xs l : List Int), (xs.foldl (fun l v => bump l (bkt v)) l).length = l.length
  | [], l => rfl
  | x :: r, l => by rw [List.foldl_cons, foldBump_len r, bump_len]
theorem histL_len (xs : List Int) : (histL xs).length = 65 := by unfold histL; rw [foldBump_len]; rfl
theorem foldBump_get : ∀ (xs l : List Int) (b : Nat), l.length = 65 → b < 65 → (xs.foldl (fun l v => bump l (bkt v)) l)[b]?.getD 0 = l[b]?.getD 0 + (xs.countP (fun v => bkt v == b) : Nat)
  | [], l, b, _, _ => by simp
  | x :: r, l, b, hl, hb => by
    rw [List.foldl_cons, foldBump_get r _ b (by rw [bump_len]; exact hl) hb, List.countP_cons]
    unfold bump
    rw [List.getElem?_set]
    by_cases h : bkt x = b
    · subst h; simp [hl, hb]; omega
    · simp [h]
theorem histL_get (xs : List Int) (b : Nat) (hb : b < 65) : (histL xs)[b]?.getD 0 = (xs.countP (fun v => bkt v == b) : Nat) := by
  unfold histL
  rw [foldBump_get xs z65 b rfl hb]
  have : z65[b]?.getD 0 = 0 := by
    unfold z65
    rw [List.getElem?_replicate, if_pos hb]; rfl
  rw [this]; omega
theorem ext65 {l l' : List Int} (h : l.length = 65) (h' : l'.length = 65) (he : ∀ b, b < 65 → l[b]?.getD 0 = l'[b]?.getD 0) : l = l' := by
  refine List.ext_getElem? fun b => ?_
  by_cases hb : b < 65
  · have := he b hb
    rw [List.getElem?_eq_getElem (by omega), List.getElem?_eq_getElem (by omega)] at this ⊢
    simpa using this
  · rw [List.getElem?_eq_none (by omega), List.getElem?_eq_none (by omega)]
theorem histL_mem (xs : List Int) (x : Int) (h : x ∈ histL xs) : 0 ≤ x ∧ x ≤ xs.length := by
  obtain ⟨b, hb, he⟩ := List.getElem_of_mem h
  have h1 := histL_get xs b (by rw [histL_len] at hb; exact hb)
  rw [List.getElem?_eq_getElem hb, he] at h1
  simp at h1
  have := List.countP_le_length (p := fun v => bkt v == b) (l := xs)
  omega
theorem histL_ok (xs : List Int) : okH (histL xs) = true := by
  unfold okH
  rw [List.all_eq_true]
  intro x hx
  exact decide_eq_true (histL_mem xs x hx).1
theorem countP_lt_succ (xs : List Int) (j : Nat) : xs.countP (fun v => decide (bkt v < j + 1)) = xs.countP (fun v => decide (bkt v < j)) + xs.countP (fun v => bkt v == j) := by
  induction xs with
  | nil => rfl
  | cons x r ih =>
    simp only [List.countP_cons, ih, decide_eq_true_eq, beq_iff_eq]
    rcases Nat.lt_trichotomy (bkt x) j with h | h | h
    · rw [if_pos (by omega), if_pos h, if_neg (by omega)]; omega
    · rw [if_pos (by omega), if_neg (by omega), if_pos h]; omega
    · rw [if_neg (by omega), if_neg (by omega), if_neg (by omega)]; omega
theorem histL_cum (xs : List Int) : ∀ j, j ≤ 65 → ((histL xs).take j).sum = (xs.countP (fun v => decide (bkt v < j)) : Nat)
  | 0, _ => by simp
  | j + 1, hj => by
    have hx : (histL xs)[j]? = some ((histL xs)[j]'(by rw [histL_len]; omega)) := List.getElem?_eq_getElem _
    have h1 := histL_get xs j (by omega)
    rw [hx] at h1
    rw [List.take_add_one, List.sum_append, histL_cum xs j (by omega), countP_lt_succ, hx]
    simp at h1 ⊢
    omega
theorem countP_all65 (xs : List Int) (hx : inL xs) : xs.countP (fun v => decide (bkt v < 65)) = xs.length := by
  rw [List.countP_eq_length]
  intro x h
  exact decide_eq_true (bkt_lt x (hx x h).2)
theorem histL_sum (xs : List Int) (hx : inL xs) : (histL xs).sum = xs.length := by
  have h := histL_cum xs 65 (Nat.le_refl _)
  rw [List.take_of_length_le (by rw [histL_len]; exact Nat.le_refl _), countP_all65 xs hx] at h
  exact h
theorem histL_rank (xs : List Int) (hx : inL xs) (k : Nat) (hk : k < xs.length) :
    ∃ b, b < 65 ∧ rankF (histL xs) k = some b ∧ xs.countP (fun v => decide (bkt v < b)) ≤ k ∧ k < xs.countP (fun v => decide (bkt v < b)) + xs.countP (fun v => bkt v == b) := by
  unfold rankF
  rw [if_neg (by rw [histL_ok]; simp)]
  cases h : (List.range 65).find? fun b => decide ((k : Int) < ((histL xs).take (b + 1)).sum) with
  | none =>
    rw [List.find?_eq_none] at h
    have := h 64 (List.mem_range.2 (by omega))
    rw [histL_cum xs 65 (Nat.le_refl _), countP_all65 xs hx] at this
    simp at this
    omega
  | some b =>
    rw [List.find?_range_eq_some] at h
    obtain ⟨h1, h2, h3⟩ := h
    have hb : b < 65 := List.mem_range.1 h2
    rw [histL_cum xs (b + 1) (by omega), countP_lt_succ] at h1
    refine ⟨b, hb, rfl, ?_, by have := of_decide_eq_true h1; omega⟩
    cases b with
    | zero => rw [show xs.countP (fun v => decide (bkt v < 0)) = 0 by simp]; omega
    | succ c =>
      have := h3 c (by omega)
      rw [histL_cum xs (c + 1) (by omega)] at this
      simpa using this
theorem histL_beyond (xs : List Int) (hx : inL xs) : rankF (histL xs) xs.length = none := by
  unfold rankF
  rw [if_neg (by rw [histL_ok]; simp), List.find?_eq_none]
  intro b hb
  have hb : b < 65 := List.mem_range.1 hb
  rw [histL_cum xs (b + 1) (by omega)]
  have := List.countP_le_length (p := fun v => decide (bkt v < b + 1)) (l := xs)
  simp
  omega
theorem histL_snoc (xs : List Int) (v : Int) : histL (xs ++ [v]) = bump (histL xs) (bkt v) := by unfold histL; rw [List.foldl_append]; rfl
theorem histL_add (xs : List Int) (v : Int) (hv : v ≤ 9223372036854775807) (hn : xs.length < 9223372036854775807) : addE (histL xs) v = 0 ∧ addL (histL xs) v = histL (xs ++ [v]) := by
  have h : addE (histL xs) v = 0 := by
    unfold addE
    rw [if_neg (by rw [histL_ok]; simp), if_neg]
    intro h
    have := (histL_mem xs _ (List.mem_of_getElem? h)).2
    omega
  exact ⟨h, by unfold addL; rw [if_pos h, histL_snoc]⟩
theorem sumAt_hists (a b : List Int) (j : Nat) (hj : j < 65) : sumAt [histL a, histL b] j = (histL (a ++ b))[j]?.getD 0 := by
  unfold sumAt
  rw [histL_get (a ++ b) j hj, List.countP_append]
  simp [histL_get a j hj, histL_get b j hj]
theorem merge_hists (a b : List Int) (hn : a.length + b.length < 9223372036854775807) : mergeE [histL a, histL b] = 0 ∧ mergeR [histL a, histL b] = histL (a ++ b) := by
  have h : mergeE [histL a, histL b] = 0 := by
    unfold mergeE
    rw [if_neg (by simp [histL_ok]), if_neg]
    rw [Bool.not_eq_true, List.any_eq_false]
    intro j hj
    have hj := List.mem_range.1 hj
    rw [sumAt_hists a b j hj, histL_get _ j hj]
    have := List.countP_le_length (p := fun v => bkt v == j) (l := a ++ b)
    rw [List.length_append] at this
    have h3 : ¬ (9223372036854775807 < ((List.countP (fun v => bkt v == j) (a ++ b) : Nat) : Int)) := by omega
    rw [decide_eq_false h3]
    simp
  refine ⟨h, ?_⟩
  unfold mergeR
  rw [if_pos h]
  refine ext65 (by simp [mergeL]) (histL_len _) fun j hj => ?_
  unfold mergeL
  rw [List.getElem?_map, List.getElem?_range hj]
  simpa using sumAt_hists a b j hj
/-! ### arrays compared -/
theorem part_h (l : List Int) (k : Nat) (w : World) (x : Int) (hx : l[k]? = some x) : (part 2 (hc l) k).run Try.prog w = .ok (.int .i64 x) w := by
  have hp : (hc l)[k]? = some (.int .i64 x) := by rw [hc_get, hx]; rfl
  have hagg : (isAgg 2).run Try.prog w = .ok false w := by kernel_rfl
  unfold part
  simp [Sem.run_bind, hagg, hp, Result.andThen]
theorem eqItems_h (l l' : List Int) (hl : l.length = 65) (hl' : l'.length = 65) (w : World) : ∀ (is : List Nat), (∀ i ∈ is, i < 65) →
    (Op.eqItems 9999 2 1 (hc l) (hc l') is).run Try.prog w = .ok (is.all fun i => decide (l[i]? = l'[i]?)) w
  | [], _ => by simp [Op.eqItems]
  | i :: is, h => by
    have hi := h i (by simp)
    have h1 : l[i]? = some (l[i]'(by omega)) := List.getElem?_eq_getElem _
    have h2 : l'[i]? = some (l'[i]'(by omega)) := List.getElem?_eq_getElem _
    have ih := eqItems_h l l' hl hl' w is (fun j hj => h j (by simp [hj]))
    simp only [Op.eqItems, Sem.run_bind, Nat.mul_one, part_h l i w _ h1, part_h l' i w _ h2, Result.andThen_ok, run_equalIn_int w 9998 2 .i64 .i64 _ _ Try.underlying2, List.all_cons, h1, h2]
    by_cases he : l[i] = l'[i]
    · simp [he, ih]
    · simp [he]
theorem eql_h (l l' : List Int) (hl : l.length = 65) (hl' : l'.length = 65) (w : World) : (binOp .eql 69 (.agg (hc l)) (.agg (hc l'))).run Try.prog w = .ok (.bool (decide (l = l'))) w := by
  obtain ⟨i, hi, _⟩ : ∃ i, Try.prog.info? 2 = some i ∧ True := by
    have : (Try.prog.info? 2).isSome = true := by kernel_rfl
    obtain ⟨i, hi⟩ := Option.isSome_iff_exists.1 this
    exact ⟨i, hi, trivial⟩
  have hc1 : Try.prog.cellsOf 2 = 1 := by kernel_rfl
  rw [run_eql_struct, run_equalIn_array w 9999 (hc l) (hc l') Try.underlying69 hi, hc1, eqItems_h l l' hl hl' w _ (fun i hi => List.mem_range.1 hi)]
  have : ((List.range 65).all fun i => decide (l[i]? = l'[i]?)) = decide (l = l') := by
    rw [Bool.eq_iff_iff, List.all_eq_true, decide_eq_true_eq]
    refine ⟨fun h => ext65 hl hl' fun b hb => ?_, fun h => by subst h; simp⟩
    have := h b (List.mem_range.2 hb)
    rw [of_decide_eq_true this]
  rw [this]
  rfl
/-! ### the document's Bucket -/
theorem bitLen_pos {x : Nat} (h0 : x ≠ 0) (h : x < 9223372036854775808) : Lib.bitLen x = Lib.bitLen (x / 2) + 1 := by
  unfold Lib.bitLen
  rw [show (64 : Nat) = 63 + 1 from rfl, Lib.bitLenAux, if_neg h0, ← Lib.bitLenAux_fuel 63 (x / 2) (by omega) (63 + 1) (by omega)]
  omega
set_option maxRecDepth 100000 in
theorem refBucket_any (v : Int) (w : World) (h1 : -9223372036854775808 ≤ v) (h2 : v ≤ 9223372036854775807) :
    Calls Try.prog 53 #[.int .i64 v] w fun e w' => e = .returned (.int .i64 (bkt v)) ∧ w = w' := by
  by_cases c1 : v < 0
  · have HE := hide (show bkt v = 0 from if_pos c1)
    go_enter Try.func53, Try.ntmps53
    go_wp2
    go_ret
    exact ⟨ret_int (by rw [HE.out]; rfl), rfl⟩
  have HE : Hid ((bkt v : Int) = Lib.bitLen v.toNat + 1) := hide (by
    unfold bkt
    rw [if_neg c1]
    by_cases c2 : v = 0
    · subst c2; rfl
    · rw [if_neg c2]; simp)
  have hb := bitLen63 v.toNat (by omega)
  go_enter Try.func53, Try.ntmps53
  go_wp2
  go_loop [0, 3] (fun v' n => ∃ (x : Int) (k : Nat), v' = .int .i64 x ∧ n = .int .i64 k ∧ 0 ≤ x ∧ x ≤ 9223372036854775807 ∧ 1 ≤ k ∧ Lib.bitLen x.toNat + k = Lib.bitLen v.toNat + 1) (fun v' _ => (intOf v').toNat)
  case atStart => exact ⟨v, 1, rfl, rfl, by omega, h2, by omega, rfl⟩
  case round =>
    obtain ⟨x, k, rfl, rfl, hx0, hx1, hk, hr⟩ := hrel
    have HR := hide hr
    clear hr
    by_cases hx : 0 < x
    · have hk2 : k ≤ 64 := by have := HR.out; omega
      go_wp2
      go_round
      case rel =>
        refine ⟨x / 2, k + 1, rfl, by go_num, by omega, by omega, by omega, ?_⟩
        have := HR.out
        rw [bitLen_pos (by omega) (by omega)] at this
        rw [show (x / 2).toNat = x.toNat / 2 by omega]
        omega
      case measure => simp [intOf]; omega
    · have hk2 : Lib.bitLen x.toNat = 0 := by rw [show x.toNat = 0 by omega]; decide
      have hk3 : k ≤ 64 := by have := HR.out; omega
      have HK := hide hk2
      clear hk2
      go_wp2
      go_ret
      exact ⟨ret_int (by rw [HE.out]; have := HR.out; have := HK.out; omega), rfl⟩
end Go.Proofs.Ytoammbfipinejaa
