/- Parts DrC, VcZ, DrD, DrE, DrF, DrG, DrH, Kb of the proof, put together. -/
import Derived.Test.YtgidaifoiljgoaaM7
import Derived.Shelf.SlSortCmp.NoneTotal
import Derived.Test.YtgidaifoiljgoaaSrt
import Derived.Lib.QuietBelow
/- drift.near. -/
namespace Go.Proofs.Ytgidaifoiljgoaa
set_option linter.unusedSimpArgs false
set_option linter.unusedVariables false
open Go.RowKit
set_option maxRecDepth 100000
def ahZ (rho : Int) (p : Int × Int) : Int := p.2 * 1000000 - p.1 * (1000000 + rho)
def beZ (rho : Int) (p : Int × Int) : Int := p.1 * (1000000 - rho) - p.2 * 1000000
def okP (rho : Int) (p q : Int × Int) : Prop := ahZ rho q - ahZ rho p ≤ 1000000 ∧ beZ rho q - beZ rho p ≤ 1000000
instance (rho : Int) (p q : Int × Int) : Decidable (okP rho p q) := inferInstanceAs (Decidable (_ ∧ _))
def nearB (rho : Int) (l : List (Int × Int)) : Bool := decide (l.Pairwise (okP rho))
def inT (p : Int × Int) : Prop := 0 ≤ p.1 ∧ p.1 ≤ 4611686018427387903 ∧ 0 ≤ p.2 ∧ p.2 ≤ 4611686018427387903
/-- The least yet. -/
def isMin (f : Int × Int → Int) (l : List (Int × Int)) (m : Int) : Prop := (∀ p ∈ l, m ≤ f p) ∧ ∃ p ∈ l, m = f p
theorem isMin.one (f : Int × Int → Int) (p : Int × Int) : isMin f [p] (f p) := ⟨fun q hq => by rw [List.mem_singleton.1 hq]; exact Int.le_refl _, p, List.mem_singleton.2 rfl, rfl⟩
theorem isMin.snoc {f : Int × Int → Int} {l : List (Int × Int)} {m : Int} (h : isMin f l m) (p : Int × Int) : isMin f (l ++ [p]) (min m (f p)) := by
  obtain ⟨h1, q, hq, h2⟩ := h
  refine ⟨fun y hy => ?_, ?_⟩
  · rcases List.mem_append.1 hy with r | r
    · have := h1 y r; omega
    · rw [List.mem_singleton.1 r]; omega
  · by_cases r : m ≤ f p
    · exact ⟨q, List.mem_append_left _ hq, by omega⟩
    · exact ⟨p, List.mem_append_right _ (List.mem_singleton.2 rfl), by omega⟩
theorem zbound (rho : Int) (h0 : 0 ≤ rho) (h1 : rho ≤ 100000) (p : Int × Int) (h : inT p) : (0 ≤ p.1 * (1000000 + rho) ∧ p.1 * (1000000 + rho) ≤ 4611686018427387903 * 1100000) ∧ (0 ≤ p.1 * (1000000 - rho) ∧ p.1 * (1000000 - rho) ≤ 4611686018427387903 * 1000000) := by
  obtain ⟨a, b, _, _⟩ := h
  exact ⟨⟨Int.mul_nonneg a (by omega), Int.mul_le_mul b (by omega) (by omega) (by omega)⟩, Int.mul_nonneg a (by omega), Int.mul_le_mul b (by omega) (by omega) (by omega)⟩
structure NI (rho : Int) (l : List (Int × Int)) (k : Nat) (fa sl : Int) : Prop where
  kl : k ≤ l.length
  pw : (l.take k).Pairwise (okP rho)
  fa : 0 < k → isMin (ahZ rho) (l.take k) fa
  sl : 0 < k → isMin (beZ rho) (l.take k) sl
theorem near_sat (rho : Int) (l : List (Int × Int)) (h0 : 0 ≤ rho) (h1 : rho ≤ 100000) (hl : ∀ p ∈ l, inT p) (hn : l.length ≤ 1000) : Sat Try.prog 67 [iA rho, .d (.sl 2 (l.map gR))] [] (bA (nearB rho l)) [] := by
  have hm : (l.map gR).length = l.length := List.length_map _
  have hw1 : IntKind.i64.wrap (1000000 + rho) = 1000000 + rho := wi (by omega) (by omega)
  have hw2 : IntKind.i64.wrap (1000000 - rho) = 1000000 - rho := wi (by omega) (by omega)
  refine sat_of_vc (T := tiOf Try.prog) (E := E0) Try.func67 rfl rfl hE0 hm0 rfl ?_
  conv => whnf
  repeat (any_goals (first
    | exact True.intro
    | (refine Or.inl ?_; conv => whnf)
    | (refine And.intro (fun _ => ?_) tf; conv => whnf)
    | (refine And.intro ft (fun _ => ?_); conv => whnf)
    | (refine And.intro (by kernel_rfl) ?_; conv => whnf)
    | (refine And.intro (by decide) ?_; conv => whnf)
    | (refine And.intro (fun _ => ?_) (fun h => absurd h (by decide)); conv => whnf)
    | (refine And.intro (fun h => absurd h (by decide)) (fun _ => ?_); conv => whnf)
    | (refine And.intro (fun _ => ?_) (fun _ => ?_) <;> conv => whnf)))
  refine ⟨Nat × Int × Int, fun y => NI rho l y.1 y.2.1 y.2.2, fun y => ([(14, iA y.1), (13, iA l.length), (12, .d (.sl 2 (l.map gR))), (6, .ptr 1 0), (5, .ptr 0 0), (0, iA rho)], [.cells [iA (y.2.1 / 18446744073709551616), uA (y.2.1 % 18446744073709551616)], .cells [iA (y.2.2 / 18446744073709551616), uA (y.2.2 % 18446744073709551616)]]), fun y => l.length - y.1, ⟨(0, 0, 0), ⟨Nat.zero_le _, .nil, fun h => absurd h (by decide), fun h => absurd h (by decide)⟩, ?_⟩, ?_⟩
  · all_goals refine ⟨[], ?_⟩
    repeat (any_goals (first | exact True.intro | exact rfl | with_reducible_and_instances rfl | exact (by kernel_rfl) | refine And.intro ?_ ?_))
    all_goals conv => whnf
    rw [hm]
  rintro ⟨k, fa, sl⟩ I
  have I : NI rho l k fa sl := I
  conv => whnf
  by_cases hlt : k < l.length
  · have hx : l[k]? = some l[k] := List.getElem?_eq_getElem hlt
    have hp := hl l[k] (List.getElem_mem hlt)
    generalize l[k] = p at hx hp
    obtain ⟨⟨z1, z2⟩, z3, z4⟩ := zbound rho h0 h1 p hp
    have hst : l.take (k + 1) = l.take k ++ [p] := by rw [List.take_add_one, hx]; rfl
    have t1 := times_sat p.2 1000000 hp.2.2.1 (by have := hp.2.2.2; omega) (by omega) (by omega)
    have t2 : Sat Try.prog 90 [iA p.1, iA (IntKind.i64.wrap (1000000 + rho))] [] (wA (p.1 * (1000000 + rho))) [] := by
      rw [hw1]; exact times_sat p.1 (1000000 + rho) hp.1 (by have := hp.2.1; omega) (by omega) (by omega)
    have t3 : Sat Try.prog 90 [iA p.1, iA (IntKind.i64.wrap (1000000 - rho))] [] (wA (p.1 * (1000000 - rho))) [] := by
      rw [hw2]; exact times_sat p.1 (1000000 - rho) hp.1 (by have := hp.2.1; omega) (by omega) (by omega)
    have m1 : Sat Try.prog 91 [wA (p.2 * 1000000), wA (p.1 * (1000000 + rho))] [] (wA (ahZ rho p)) [] := minus_sat _ _ (by unfold inW; have := hp.2.2; omega) (by unfold inW; omega) (by unfold inW; have := hp.2.2; omega)
    have m2 : Sat Try.prog 91 [wA (p.1 * (1000000 - rho)), wA (p.2 * 1000000)] [] (wA (beZ rho p)) [] := minus_sat _ _ (by unfold inW; omega) (by unfold inW; have := hp.2.2; omega) (by unfold inW; have := hp.2.2; omega)
    have bnd : ∀ q, inT q → (-10000000000000000000000000 ≤ ahZ rho q ∧ ahZ rho q ≤ 10000000000000000000000000) ∧ (-10000000000000000000000000 ≤ beZ rho q ∧ beZ rho q ≤ 10000000000000000000000000) := fun q hq => by
      obtain ⟨⟨y1, y2⟩, y3, y4⟩ := zbound rho h0 h1 q hq
      obtain ⟨_, _, y5, y6⟩ := hq
      unfold ahZ beZ
      omega
    have bp := bnd p hp
    by_cases hk0 : k = 0
    · subst hk0
      have hI : NI rho l 1 (ahZ rho p) (beZ rho p) := by
        have e : l.take 1 = [p] := by rw [hst]; rfl
        exact ⟨hlt, by rw [e]; exact List.pairwise_singleton _ _, fun _ => by rw [e]; exact isMin.one _ p, fun _ => by rw [e]; exact isMin.one _ p⟩
      clear bnd
      generalize ahZ rho p = a at *
      generalize beZ rho p = b at *
      repeat (any_goals (first
        | exact True.intro
        | (refine Or.inl ?_; conv => whnf)
        | (refine And.intro (fun _ => ?_) tf; conv => whnf)
        | (refine And.intro ft (fun _ => ?_); conv => whnf)
        | (refine And.intro (by kernel_rfl) ?_; conv => whnf)
        | (refine And.intro (by decide) ?_; conv => whnf)
        | (refine And.intro (fun _ => ?_) (fun h => absurd h (by decide)); conv => whnf)
        | (refine And.intro (fun h => absurd h (by decide)) (fun _ => ?_); conv => whnf)
        | (refine ⟨0, _, rfl, map_get hx, ?_⟩; conv => whnf)
        | (refine And.intro (fun _ => ?_) (fun _ => ?_) <;> conv => whnf)
        | (refine ⟨_, _, t1.pu rfl rfl, ?_⟩; conv => whnf)
        | (refine ⟨_, _, t2.pu rfl rfl, ?_⟩; conv => whnf)
        | (refine ⟨_, _, t3.pu rfl rfl, ?_⟩; conv => whnf)
        | (refine ⟨_, _, m1.pu rfl rfl, ?_⟩; conv => whnf)
        | (refine ⟨_, _, m2.pu rfl rfl, ?_⟩; conv => whnf)))
      · refine ⟨(1, a, b), hI, show l.length - 1 < l.length - 0 by omega, ?_⟩
        all_goals refine ⟨[], ?_⟩
        repeat (any_goals (first | exact True.intro | exact rfl | with_reducible_and_instances rfl | exact (by kernel_rfl) | refine And.intro ?_ ?_))
        all_goals conv => whnf
      · exact absurd ‹decide (((0 : Nat) : Int) < (l.length : Int)) = false› (by rw [decide_eq_true (by omega)]; decide)
    · have hkp : 0 < k := by omega
      have f1 := I.fa hkp
      have f2 := I.sl hkp
      have bf : -10000000000000000000000000 ≤ fa ∧ fa ≤ 10000000000000000000000000 := by
        obtain ⟨_, q, hq, e⟩ := f1
        have := (bnd q (hl q (List.mem_of_mem_take hq))).1
        omega
      have bs : -10000000000000000000000000 ≤ sl ∧ sl ≤ 10000000000000000000000000 := by
        obtain ⟨_, q, hq, e⟩ := f2
        have := (bnd q (hl q (List.mem_of_mem_take hq))).2
        omega
      have ab1 := above_sat (ahZ rho p) fa (by unfold inW; omega) (by unfold inW; omega) (by unfold inW; omega)
      have ab2 := above_sat (beZ rho p) sl (by unfold inW; omega) (by unfold inW; omega) (by unfold inW; omega)
      have le1 := least_sat fa (ahZ rho p)
      have le2 := least_sat sl (beZ rho p)
      have hbad : 1000000 < ahZ rho p - fa ∨ 1000000 < beZ rho p - sl → nearB rho l = false := fun h => by
        refine decide_eq_false fun hpw => ?_
        have hpw : (l.take (k + 1)).Pairwise (okP rho) := hpw.sublist (List.take_sublist _ _)
        rw [hst, List.pairwise_append] at hpw
        rcases h with h | h
        · obtain ⟨_, q, hq, e⟩ := f1
          have := (hpw.2.2 q hq p (List.mem_singleton.2 rfl)).1
          omega
        · obtain ⟨_, q, hq, e⟩ := f2
          have := (hpw.2.2 q hq p (List.mem_singleton.2 rfl)).2
          omega
      have hgood : ¬ 1000000 < ahZ rho p - fa → ¬ 1000000 < beZ rho p - sl → NI rho l (k + 1) (min fa (ahZ rho p)) (min sl (beZ rho p)) := fun g1 g2 => by
        refine ⟨hlt, ?_, fun _ => ?_, fun _ => ?_⟩
        · rw [hst, List.pairwise_append]
          refine ⟨I.pw, List.pairwise_singleton _ _, fun q hq r hr => ?_⟩
          rw [List.mem_singleton.1 hr]
          have := f1.1 q hq
          have := f2.1 q hq
          exact ⟨by omega, by omega⟩
        · rw [hst]; exact f1.snoc p
        · rw [hst]; exact f2.snoc p
      clear bnd f1 f2
      generalize nearB rho l = R at *
      generalize ahZ rho p = a at *
      generalize beZ rho p = b at *
      repeat (any_goals (first
        | exact True.intro
        | (refine Or.inl ?_; conv => whnf)
        | (refine And.intro (fun _ => ?_) tf; conv => whnf)
        | (refine And.intro ft (fun _ => ?_); conv => whnf)
        | (refine And.intro (by kernel_rfl) ?_; conv => whnf)
        | (refine And.intro (by decide) ?_; conv => whnf)
        | (refine And.intro (fun _ => ?_) (fun h => absurd h (by decide)); conv => whnf)
        | (refine And.intro (fun h => absurd h (by decide)) (fun _ => ?_); conv => whnf)
        | (refine ⟨k, _, rfl, map_get hx, ?_⟩; conv => whnf)
        | (refine And.intro (fun _ => ?_) (fun _ => ?_) <;> conv => whnf)
        | (refine ⟨_, _, t1.pu rfl rfl, ?_⟩; conv => whnf)
        | (refine ⟨_, _, t2.pu rfl rfl, ?_⟩; conv => whnf)
        | (refine ⟨_, _, t3.pu rfl rfl, ?_⟩; conv => whnf)
        | (refine ⟨_, _, m1.pu rfl rfl, ?_⟩; conv => whnf)
        | (refine ⟨_, _, m2.pu rfl rfl, ?_⟩; conv => whnf)
        | (refine ⟨_, _, ab1.pu rfl rfl, ?_⟩; conv => whnf)
        | (refine ⟨_, _, ab2.pu rfl rfl, ?_⟩; conv => whnf)
        | (refine ⟨_, _, le1.pu rfl rfl, ?_⟩; conv => whnf)
        | (refine ⟨_, _, le2.pu rfl rfl, ?_⟩; conv => whnf)))
      · exfalso
        have h : ((k : Int) == 0) = true := by assumption
        rw [beq_iff_eq] at h
        omega
      · rw [hbad (.inr (of_decide_eq_true ‹decide (1000000 < b - sl) = true›))]
        all_goals refine ⟨[], ?_⟩
        repeat (any_goals (first | exact True.intro | exact rfl | with_reducible_and_instances rfl | exact (by kernel_rfl) | refine And.intro ?_ ?_))
        all_goals conv => whnf
      · refine ⟨(k + 1, min fa a, min sl b), hgood (of_decide_eq_false ‹decide (1000000 < a - fa) = false›) (of_decide_eq_false ‹decide (1000000 < b - sl) = false›), show l.length - (k + 1) < l.length - k by omega, ?_⟩
        all_goals refine ⟨[], ?_⟩
        repeat (any_goals (first | exact True.intro | exact rfl | with_reducible_and_instances rfl | exact (by kernel_rfl) | refine And.intro ?_ ?_))
        all_goals conv => whnf
        exact wk1 (show k ≤ _ by omega)
      · rw [hbad (.inl (of_decide_eq_true ‹decide (1000000 < a - fa) = true›))]
        all_goals refine ⟨[], ?_⟩
        repeat (any_goals (first | exact True.intro | exact rfl | with_reducible_and_instances rfl | exact (by kernel_rfl) | refine And.intro ?_ ?_))
        all_goals conv => whnf
      · exact absurd ‹decide ((k : Int) < (l.length : Int)) = false› (by rw [decide_eq_true (by omega)]; decide)
  · have hke : k = l.length := by have := I.kl; omega
    subst hke
    have hpw := I.pw
    rw [List.take_length] at hpw
    rw [show nearB rho l = true from decide_eq_true hpw]
    repeat (any_goals (first
      | exact True.intro
      | (refine Or.inl ?_; conv => whnf)
      | (refine And.intro (fun _ => ?_) tf; conv => whnf)
      | (refine And.intro ft (fun _ => ?_); conv => whnf)
      | (refine And.intro (by kernel_rfl) ?_; conv => whnf)
      | (refine And.intro (by decide) ?_; conv => whnf)
      | (refine And.intro (fun _ => ?_) (fun h => absurd h (by decide)); conv => whnf)
      | (refine And.intro (fun h => absurd h (by decide)) (fun _ => ?_); conv => whnf)
      | (refine And.intro (fun _ => ?_) (fun _ => ?_) <;> conv => whnf)))
    all_goals try (exfalso; simp only [decide_eq_true_eq, decide_eq_false_iff_not, Bool.not_eq_true', Bool.not_eq_false', Bool.not_eq_true, Bool.not_eq_false, beq_iff_eq, bne_iff_ne, beq_eq_false_iff_ne, bne_eq_false_iff_eq, ne_eq, Decidable.not_not] at *; first | omega | contradiction | (simp_all; done) | (simp_all; omega))
    all_goals refine ⟨[], ?_⟩
    repeat (any_goals (first | exact True.intro | exact rfl | with_reducible_and_instances rfl | exact (by kernel_rfl) | refine And.intro ?_ ?_))
    all_goals conv => whnf
end Go.Proofs.Ytgidaifoiljgoaa
/- slices.SortFunc over a slice of the call's own, by a comparison that tells all apart. No program is named here. -/
namespace Go.Proofs.Ytgidaifoiljgoaa
set_option linter.unusedSimpArgs false
set_option linter.unusedVariables false
open Go.RowKit Go.Sort Go.Shelf Go.Lib
/-- A comparison: two blocks at most are laid, nothing else. -/
def CmpAt {α : Type} (P : Program) (g : Nat) (enc : α → List Value) (cf : α → α → Int) : Prop := ∀ (x y : α) (W : World), Calls P g #[.agg (enc x).toArray, .agg (enc y).toArray] W fun e w' => e = .returned (.int .i64 (cf x y)) ∧ ∃ q os', w' = grow (W.drewN q) os'
def sorted {α : Type} (cf : α → α → Int) (l : List α) : List α := l.mergeSort fun x y => !(ltOf cf) y x
theorem flat_get2 {α : Type} {s : Nat} {f : α → List Value} (hs : ∀ x, (f x).length = s) : ∀ (l : List α) (j : Nat) (hj : j < l.length * s), (l.map f).flatten[j]? = (l[j / s]?).bind fun x => (f x)[j % s]?
  | [], j, hj => by simp at hj
  | x :: l, j, hj => by
    have h0 : 0 < s := by
      rcases Nat.eq_zero_or_pos s with e | e
      · subst e; simp at hj
      · exact e
    rw [List.map_cons, List.flatten_cons]
    by_cases h : j < s
    · rw [List.getElem?_append_left (by rw [hs]; exact h), Nat.div_eq_of_lt h, Nat.mod_eq_of_lt h]; rfl
    · rw [List.getElem?_append_right (by rw [hs]; omega), hs, flat_get2 hs l (j - s) (by rw [List.length_cons, Nat.add_mul] at hj; omega)]
      have e1 : j / s = (j - s) / s + 1 := by rw [Nat.div_eq_sub_div h0 (by omega)]
      have e2 : j % s = (j - s) % s := Nat.mod_eq_sub_mod (by omega)
      rw [e1, e2, List.getElem?_cons_succ]
theorem flatK_get {α : Type} [Inhabited α] {enc : α → List Value} {k : Nat} (hk : ∀ x, (enc x).length = k) (l : List α) {j : Nat} (hj : j < l.length * k) : some ((flatK enc k l.toArray)[j]!) = (l.map enc).flatten[j]? := by
  have h0 : 0 < k := by
    rcases Nat.eq_zero_or_pos k with e | e
    · subst e; simp at hj
    · exact e
  have hd : j / k < l.length := (Nat.div_lt_iff_lt_mul h0).2 hj
  rw [get_flatK enc k l.toArray j (by simpa using hj), flat_get2 hk l j hj, List.getElem?_eq_getElem hd]
  have hm := Nat.mod_lt j h0
  simp only [Option.bind_some]
  have e : l.toArray[j / k]! = l[j / k] := by simp [hd]
  rw [e, List.getElem?_eq_getElem (by rw [hk]; exact hm)]
  simp [hk, hm]
theorem rds_v {w : World} {F : Nat → Prop} : ∀ {xs vs : List Value}, RDs w F (xs.map D.v) vs → vs = xs
  | [], _, .nil => rfl
  | x :: xs, _, .cons (.v _) _ hr => by rw [rds_v hr]
theorem v_rds (w : World) (F : Nat → Prop) : ∀ {xs : List Value}, (∀ x ∈ xs, x.oneCell' = true) → RDs w F (xs.map D.v) xs
  | [], _ => .nil
  | x :: xs, h => .cons (.v x) (h x (List.mem_cons_self ..)) (v_rds w F fun y hy => h y (List.mem_cons_of_mem _ hy))
def encD {α : Type} (enc : α → List Value) (x : α) : List D := (enc x).map D.v
theorem encD_flat {α : Type} (enc : α → List Value) (l : List α) : (l.map (encD enc)).flatten = (l.map enc).flatten.map D.v := by
  induction l with
  | nil => rfl
  | cons x l ih => simp [encD, ih]
theorem grownBy_sortK {w : World} {g off n : Nat} {os : Array Obj} (F : Array Value) : w.grownBy (grow (putRow id (Sort.ahead w n) g off F) os) (some g) := by
  refine ⟨rfl, rfl, rfl, ?_, fun b hb hr => ?_⟩
  · simp [grow, putRow, mapBlock, Sort.ahead]
  · have hne : g ≠ b := fun h => hr (by rw [h])
    have hlt : b < (putRow id (Sort.ahead w n) g off F).heap.size := by simpa [putRow, mapBlock, Sort.ahead] using hb
    rw [heap_grow_old _ _ hlt]
    simp [putRow, mapBlock, Sort.ahead, Array.getElem?_modify, hne]
theorem sorted_len {α : Type} (cf : α → α → Int) (l : List α) : (sorted cf l).length = l.length := List.length_mergeSort _
theorem sorted_perm {α : Type} (cf : α → α → Int) (l : List α) : (sorted cf l).Perm l := List.mergeSort_perm _ _
/-- slices.SortFunc over a slice of the call's own. -/
theorem sort_call {P : Program} {ρr : Ren} {α : Type} [Inhabited α] (L6 : SlLaysF0.n6 P ρr) {k : Nat} (aE : ∀ w, (isAgg (ρr.t 24)).run P w = .ok true w) (zE : ∀ w, (Go.sizeOf (ρr.t 24)).run P w = .ok k w) (enc : α → List Value) (hk : ∀ x, (enc x).length = k) (h1 : ∀ x, ∀ v ∈ enc x, v.oneCell' = true) (cf : α → α → Int) (hO : SWO (ltOf cf)) (hT : ∀ x y, (ltOf cf) x y = false → (ltOf cf) y x = false → x = y) {g : Nat}
    (eg : ∀ args w, (callFunc g args).run P w = .ok (.enter g args) w) (hc : CmpAt P g enc cf) (l : List α) (hsz : l.length < 4611686018427387904) {i n : Nat} {Lh : List AObj} (hi : Lh[i]? = some (.sl k (l.map (encD enc)))) :
    CallOK P (ρr.f 6) [.own i, .fn (.func g) [] []] Lh n ⟨[i], [(i, .sl k ((sorted cf l).map (encD enc)))], []⟩ (.tup []) := by
  intro H F ρ w vals E hrs _ hA
  cases hA with | cons hA1 hA =>
  cases hA with | cons hA2 hA =>
  cases hA
  cases hA2 with | fn q1 q2 =>
  cases q1; cases q2
  cases hA1 with | @own _ A m c hρ =>
  have hHi : H i = some (.sl k (l.map (encD enc))) := (hrs i (List.mem_singleton.2 rfl)).trans hi
  obtain ⟨h, e1, ⟨vs, hOw, hRD, hlen⟩, hb⟩ := E.rep i _ hHi rfl
  rw [hρ] at e1; injection e1 with e1; subst e1
  rw [encD_flat] at hRD
  have hvs := rds_v hRD
  subst hvs
  rw [List.length_map] at hOw
  have hrows : ∀ (l : List α), ∀ r ∈ l.map (encD enc), r.length = k := fun l r hr => by
    obtain ⟨x, _, rfl⟩ := List.mem_map.1 hr
    simp [encD, hk]
  by_cases hl : l = []
  · subst hl
    have hm : m = 0 := by
      rcases hOw.2 with ⟨e, _⟩ | ⟨a, e, _⟩ | ⟨g, off, cap, e, _⟩ <;> injection e with _ e _ <;> simpa using e
    subst hm
    refine (AnyF.slices_SortFunc_none L6 A c _ w).mono ?_
    rintro e w' ⟨rfl, rfl⟩
    refine ⟨_, rfl, F, ρ, ?_⟩
    have hu := E.upd (o' := .sl k ((sorted cf ([] : List α)).map (encD enc))) hHi rfl hρ (World.grownBy.refl _ _) ⟨_, by simpa [sorted] using hOw, by simpa [sorted] using RDs.nil, hrows _⟩
    exact ⟨hu.1, Keep.refl ρ, hu.2, .tup .nil⟩
  have hpos : 0 < l.length := List.length_pos_iff.2 hl
  rcases hOw.2 with ⟨_, e⟩ | ⟨a, _, _, e⟩ | ⟨b, off, cap, e, hlo, hbs, hcap, hmax, hcell, hread⟩
  · omega
  · omega
  injection e with eA em ec
  subst eA em ec
  have hsize : ∀ (l : List α), (l.map enc).flatten.length = l.length * k := fun l => by
    induction l with
    | nil => simp
    | cons x l ih => rw [List.map_cons, List.flatten_cons, List.length_append, hk, ih, List.length_cons, Nat.add_mul]; omega
  have hH : HoldsK enc k w b off l.toArray := fun j hj => by
    rw [size_flatK, List.size_toArray] at hj
    have hjc : j < c * k := Nat.lt_of_lt_of_le hj (Nat.mul_le_mul_right _ hcap)
    refine ⟨?_, (hcell j hjc).2⟩
    rw [hread j (by rw [hsize]; exact hj)]
    have := flatK_get hk l hj
    rw [List.getElem?_eq_getElem (by rw [hsize]; exact hj)] at this
    exact this.symm
  refine (AnyQ.slices_SortFunc_total L6 k aE zE enc hk h1 cf hO g #[] b off c l.toArray w eg (fun _ _ _ _ x y => by simpa using hc x y _) hH hbs (by simpa using hsz) hT).mono ?_
  rintro e w' ⟨rfl, q, os, rfl⟩
  refine ⟨_, rfl, F, ρ, ?_⟩
  have hd : (sorted cf l).toArray.size = l.toArray.size := by simp [sorted_len]
  have hg : w.grownBy (sortWorldK enc k w b off q (sorted cf l).toArray os) (some b) := grownBy_sortK _
  have hcells : ∀ (j : Nat), j < l.length * k → (sortWorldK enc k w b off q (sorted cf l).toArray os).cell? ⟨b, off + j, none⟩ = ((sorted cf l).map enc).flatten[j]? := fun j hj => by
    have hj2 : j < (sorted cf l).length * k := by rw [sorted_len]; exact hj
    rw [← flatK_get hk _ hj2]
    unfold sortWorldK
    rw [World.cell?_of_block (w := putRowK enc k (Sort.ahead w q) b off (sorted cf l).toArray) (heap_grow_old _ _ (by simpa [putRowK, putRow, mapBlock, Sort.ahead] using hbs))]
    exact cell?_putRow id (Sort.ahead w q) b off (flatK enc k l.toArray) _ hH (by rw [size_flatK, size_flatK, hd]) j (by rw [size_flatK]; simpa using hj2)
  have hfr : ∀ (j : Nat), j < c * k → ((sortWorldK enc k w b off q (sorted cf l).toArray os).cell? ⟨b, off + j, none⟩).isSome = true ∧ (sortWorldK enc k w b off q (sorted cf l).toArray os).frozen? ⟨b, off + j, none⟩ = false := fun j hj => by
    unfold sortWorldK
    have hlt : b < (putRowK enc k (Sort.ahead w q) b off (sorted cf l).toArray).heap.size := by simpa [putRowK, putRow, mapBlock, Sort.ahead] using hbs
    rw [World.cell?_of_block (w := putRowK enc k (Sort.ahead w q) b off (sorted cf l).toArray) (heap_grow_old _ _ hlt), World.frozen?_of_block (w := putRowK enc k (Sort.ahead w q) b off (sorted cf l).toArray) (heap_grow_old _ _ hlt)]
    refine ⟨?_, by unfold putRowK; rw [frozen?_putRow]; exact (hcell j hj).2⟩
    by_cases hjl : j < l.length * k
    · unfold putRowK
      rw [cell?_putRow id (Sort.ahead w q) b off (flatK enc k l.toArray) _ hH (by rw [size_flatK, size_flatK, hd]) j (by rw [size_flatK, hd]; simpa using hjl)]
      rfl
    · unfold putRowK
      rw [cell?_putRow_other id _ _ _ _ _ (.inr (.inr (by rw [size_flatK, hd]; simp; omega)))]
      exact (hcell j hj).1
  have hOw' : Ow (sortWorldK enc k w b off q (sorted cf l).toArray os) 0 0 k (.slice (some ⟨b, off, none⟩) l.length c) ((sorted cf l).map (encD enc)).length ((sorted cf l).map enc).flatten := by
    refine ⟨by rw [hsize, List.length_map], .inr (.inr ⟨b, off, c, ?_, Nat.zero_le _, Nat.lt_of_lt_of_le hbs hg.size, ?_, hmax, hfr, fun j hj => ?_⟩)⟩
    · rw [List.length_map, sorted_len]
    · rw [List.length_map, sorted_len]; exact hcap
    · rw [hsize, sorted_len] at hj
      rw [hcells j hj, List.getElem?_eq_getElem]
  have hu := E.upd (o' := .sl k ((sorted cf l).map (encD enc))) hHi rfl hρ hg ⟨_, hOw', by
    rw [encD_flat]
    refine v_rds _ _ fun v hv => ?_
    obtain ⟨xs, hx, hv⟩ := List.mem_flatten.1 hv
    obtain ⟨x, _, rfl⟩ := List.mem_map.1 hx
    exact h1 x v hv, hrows _⟩
  exact ⟨hu.1, Keep.refl ρ, hu.2, .tup .nil⟩
end Go.Proofs.Ytgidaifoiljgoaa
/- drift: how points are compared. -/
namespace Go.Proofs.Ytgidaifoiljgoaa
open Go.RowKit Go.Sort
set_option linter.unusedVariables false
set_option linter.unusedSimpArgs false
def encP2 (x : Int × Int) : List Value := [.int .i64 x.1, .int .i64 x.2]
def cmpP (x y : Int × Int) : Int := if Lib.compareInt x.1 y.1 ≠ 0 then Lib.compareInt x.1 y.1 else Lib.compareInt x.2 y.2
theorem cmpInt_any (x y : Int) (w : World) : Calls Try.prog 89 #[.int .i64 x, .int .i64 y] w fun e w' => e = .returned (.int .i64 (Lib.compareInt x y)) ∧ w' = w := AnyG.cmp_Compare_int Try.cmpFn x y w
theorem grows_of {w w' : World} (h : Below w.heap.size w w') (hd : w.drawn ≤ w'.drawn) : ∃ q os', w' = grow (w.drewN q) os' := by
  obtain ⟨p, e⟩ := regrown_of_below h
  have ed : w'.drawn = p.d := by rw [e]; rfl
  refine ⟨p.d - w.drawn, p.os, ?_⟩
  rw [e]
  have : redrawn w p.d = w.drewN (p.d - w.drawn) := by
    unfold redrawn World.drewN
    rw [show w.drawn + (p.d - w.drawn) = p.d by omega]
  rw [this]
set_option maxHeartbeats 1000000 in
set_option maxRecDepth 100000 in
theorem cmpOr_any (a b : Int) (g : Nat) (w : World) (h0 : w.cell? ⟨g, 0, none⟩ = some (.int .i64 a)) (h1 : w.cell? ⟨g, 1, none⟩ = some (.int .i64 b)) :
    Calls Try.prog 88 #[.slice (some ⟨g, 0, none⟩) 2 2] w fun e w' => e = .returned (.int .i64 (if a ≠ 0 then a else b)) ∧ w' = w := by
  by_cases ha : a = 0
  · subst ha
    rw [if_neg (by simp)]
    by_cases hb : b = 0
    · subst hb
      go_enter Try.func88, Try.ntmps88
      go_wp2
      refine wp_loop_rounds 3 ?_
      rw [rounds_succ]
      go_wp2
      rw [rounds_succ]
      go_wp2
      rw [rounds_succ]
      go_wp2
      go_ret
      exact ⟨rfl, rfl⟩
    · have hne : (b != 0) = true := by simpa using hb
      go_enter Try.func88, Try.ntmps88
      go_wp2
      refine wp_loop_rounds 2 ?_
      rw [rounds_succ]
      go_wp2
      rw [rounds_succ]
      go_wp2
      go_ret
      exact ⟨rfl, rfl⟩
  · rw [if_pos ha]
    have hne : (a != 0) = true := by simpa using ha
    go_enter Try.func88, Try.ntmps88
    go_wp2
    refine wp_loop_rounds 1 ?_
    rw [rounds_succ]
    go_wp2
    go_ret
    exact ⟨rfl, rfl⟩
theorem ld64 (a : Addr) (v : Value) (w : World) (h : w.cell? a = some v) : (Instr.loadAt 2 (.pointer (some a))).run Try.prog w = .ok v w := by
  go_simp
theorem fld0 (b : Nat) (w : World) : (Instr.fieldAt 66 (.pointer (some ⟨b, 0, none⟩)) 0).run Try.prog w = .ok (.pointer (some ⟨b, 0, none⟩)) w := by
  go_simp
theorem fld1 (b : Nat) (w : World) : (Instr.fieldAt 66 (.pointer (some ⟨b, 0, none⟩)) 1).run Try.prog w = .ok (.pointer (some ⟨b, 1, none⟩)) w := by
  go_simp
theorem build2 (r s : Int) (w : World) : (Instr.buildSlice 95 2 #[(0, .int .i64 r), (1, .int .i64 s)]).run Try.prog w = .ok (.slice (some ⟨w.heap.size, 0, none⟩) 2 2) (w.alloc (.cells #[.int .i64 r, .int .i64 s] 3)) := by
  go_simp
set_option maxHeartbeats 1000000 in
set_option maxRecDepth 100000 in
theorem comparePt_at : CmpAt Try.prog 87 encP2 cmpP := by
  rintro ⟨x1, x2⟩ ⟨y1, y2⟩ W
  obtain ⟨z, hz⟩ : ∃ z, cmpP (x1, x2) (y1, y2) = z := ⟨_, rfl⟩
  rw [hz]
  obtain ⟨r, hr⟩ : ∃ r, Lib.compareInt x1 y1 = r := ⟨_, rfl⟩
  obtain ⟨s, hs⟩ : ∃ s, Lib.compareInt x2 y2 = s := ⟨_, rfl⟩
  have hzz : (if r ≠ 0 then r else s) = z := by rw [← hz, ← hr, ← hs]; rfl
  have C1 := hide (fun W' => cmpInt_any x1 y1 W')
  have C2 := hide (fun W' => cmpInt_any x2 y2 W')
  rw [hr] at C1
  rw [hs] at C2
  have HZ := hide hzz
  clear hz hr hs hzz
  simp only [encP2]
  have B0 := hide (((Blk.new W 66 #[.int .i64 x1, .int .i64 x2]).alloc (.cells #[.int .i64 y1, .int .i64 y2] 66)))
  have B1 := hide (show Blk ((W.alloc (.cells #[.int .i64 x1, .int .i64 x2] 66)).alloc (.cells #[.int .i64 y1, .int .i64 y2] 66)) (W.heap.size + 1) 66 #[.int .i64 y1, .int .i64 y2] by
    have := Blk.new (W.alloc (.cells #[.int .i64 x1, .int .i64 x2] 66)) 66 #[.int .i64 y1, .int .i64 y2]
    rwa [World.size_alloc] at this)
  have BW := hide (show Below W.heap.size W ((W.alloc (.cells #[.int .i64 x1, .int .i64 x2] 66)).alloc (.cells #[.int .i64 y1, .int .i64 y2] 66)) from ((Below.refl _ _).alloc (Nat.le_refl _) _).alloc (by simp) _)
  have DW := hide (show W.drawn ≤ ((W.alloc (.cells #[.int .i64 x1, .int .i64 x2] 66)).alloc (.cells #[.int .i64 y1, .int .i64 y2] 66)).drawn from Nat.le_refl _)
  go_enter Try.func87, Try.ntmps87
  go_wp2_with fail
  generalize ((W.alloc (.cells #[.int .i64 x1, .int .i64 x2] 66)).alloc (.cells #[.int .i64 y1, .int .i64 y2] 66)) = W2 at *
  refine region_flow (by kernel_rfl) (by kernel_rfl) (Γ := Nat) (fun γ => [.pointer (some ⟨W.heap.size, 0, none⟩), .int .i64 x1, .pointer (some ⟨W.heap.size + 1, 0, none⟩), .int .i64 y1, .int .i64 r, .pointer (some ⟨W.heap.size, 1, none⟩), .int .i64 x2, .pointer (some ⟨W.heap.size + 1, 1, none⟩), .int .i64 y2, .int .i64 s, .slice (some ⟨γ, 0, none⟩) 2 2, .int .i64 z, .int .i64 z])
    (fun l γ W' => Below W2.heap.size W2 W' ∧ W2.drawn ≤ W'.drawn ∧ (l 10 = true → W'.cell? ⟨γ, 0, none⟩ = some (.int .i64 r) ∧ W'.cell? ⟨γ, 1, none⟩ = some (.int .i64 s))) (fun _ => rfl) 0 ⟨(Below.refl _ _).drew, Nat.le_succ _, fun h => nomatch h⟩ ?step ?fin
  case step =>
    refine ⟨?_, ?_, ?_, ?_, ?_, ?_, ?_, ?_, ?_, ?_, ?_, ?_, ?_, trivial⟩
    · intro l γ V hG hl hw hcl; exact stepV_value rfl _ (exec_fieldAddr _ _ _ rfl (fld0 _ _)) (.inr rfl) hG
    · intro l γ V hG hl hw hcl; exact stepV_value rfl _ (exec_load _ _ rfl (ld64 _ _ _ ((B0.out.next hG.1).cell 0))) (.inr rfl) hG
    · intro l γ V hG hl hw hcl; exact stepV_value rfl _ (exec_fieldAddr _ _ _ rfl (fld0 _ _)) (.inr rfl) hG
    · intro l γ V hG hl hw hcl; exact stepV_value rfl _ (exec_load _ _ rfl (ld64 _ _ _ ((B1.out.next hG.1).cell 0))) (.inr rfl) hG
    · intro l γ V hG hl hw hcl
      refine stepV_call rfl 89 _ (exec_call _ _ _ rfl rfl (enters_of Try.func89 (by kernel_rfl) rfl) [.int .i64 x1, .int .i64 y1] rfl) ?_
      refine (C1.out _).mono ?_
      rintro e w' ⟨rfl, rfl⟩
      exact ⟨_, γ, rfl, SameV.refl _ _ _, .inr rfl, hG⟩
    · intro l γ V hG hl hw hcl; exact stepV_value rfl _ (exec_fieldAddr _ _ _ rfl (fld1 _ _)) (.inr rfl) hG
    · intro l γ V hG hl hw hcl; exact stepV_value rfl _ (exec_load _ _ rfl (ld64 _ _ _ ((B0.out.next hG.1).cell 1))) (.inr rfl) hG
    · intro l γ V hG hl hw hcl; exact stepV_value rfl _ (exec_fieldAddr _ _ _ rfl (fld1 _ _)) (.inr rfl) hG
    · intro l γ V hG hl hw hcl; exact stepV_value rfl _ (exec_load _ _ rfl (ld64 _ _ _ ((B1.out.next hG.1).cell 1))) (.inr rfl) hG
    · intro l γ V hG hl hw hcl
      refine stepV_call rfl 89 _ (exec_call _ _ _ rfl rfl (enters_of Try.func89 (by kernel_rfl) rfl) [.int .i64 x2, .int .i64 y2] rfl) ?_
      refine (C2.out _).mono ?_
      rintro e w' ⟨rfl, rfl⟩
      exact ⟨_, γ, rfl, SameV.refl _ _ _, .inr rfl, hG⟩
    · intro l γ V hG hl hw hcl
      refine stepV_run rfl _ _ V.heap.size (exec_buildSlice _ _ _ rfl [(0, .int .i64 r), (1, .int .i64 s)] rfl (build2 r s V)) (SameV.set (.slice (some ⟨V.heap.size, 0, none⟩) 2 2) hl rfl) (.inr rfl) ?_
      have hB := Blk.new V 3 #[.int .i64 r, .int .i64 s]
      exact ⟨hG.1.alloc hG.1.size _, hG.2.1, fun _ => ⟨hB.cell 0, hB.cell 1⟩⟩
    · intro l γ V hG hl hw hcl
      have h10 : l 10 = true := hw ⟨10, .data⟩ (by simp) rfl
      refine stepV_call rfl 88 _ (exec_call _ _ _ rfl rfl (enters_of Try.func88 (by kernel_rfl) rfl) [.slice (some ⟨γ, 0, none⟩) 2 2] rfl) ?_
      refine (cmpOr_any r s γ V (hG.2.2 h10).1 (hG.2.2 h10).2).mono ?_
      rintro e w' ⟨rfl, rfl⟩
      exact ⟨_, γ, rfl, SameV.refl _ _ _, .inr (by rw [HZ.out]; rfl), hG⟩
    · intro l γ V hG hl hw hcl; exact stepV_value rfl _ rfl (.inr rfl) hG
  case fin =>
    intro l γ V hall hG
    have hb := BW.out.trans (hG.1.mono BW.out.size)
    have hd : W.drawn ≤ V.drawn := Nat.le_trans DW.out hG.2.1
    obtain ⟨q, os', hgr⟩ := grows_of hb hd
    have HGR := hide hgr
    clear hG hb hd hgr hall
    simp only [putAll, Act.put, List.setIfInBounds_toArray, List.set_cons_succ, List.set_cons_zero]
    go_wp2_with fail
    go_ret
    exact ⟨rfl, q, os', HGR.out⟩
end Go.Proofs.Ytgidaifoiljgoaa
/- drift.ordered. -/
namespace Go.Proofs.Ytgidaifoiljgoaa
open Go.RowKit Go.Sort
set_option linter.unusedVariables false
set_option linter.unusedSimpArgs false
theorem gcells_one (l : List (Int × Int)) : ∀ u ∈ gcells l, u.oneCell' = true := by
  intro u hu
  unfold gcells at hu
  rw [List.mem_flatten] at hu
  obtain ⟨c, hc, hu⟩ := hu
  obtain ⟨s, _, rfl⟩ := List.mem_map.1 hc
  simp only [gcell, List.mem_cons, List.not_mem_nil, or_false] at hu
  rcases hu with rfl | rfl <;> rfl
set_option maxRecDepth 100000 in
theorem infoPt : (Try.prog.info? 66).map (fun i => (i.zero, i.size, i.bytes)) = some (some (.agg #[.int .i64 0, .int .i64 0]), 2, 16) := by kernel_rfl
set_option maxHeartbeats 1000000 in
set_option maxRecDepth 100000 in
theorem cloneP_any (A : Option Addr) (n c : Nat) (xs : List (Int × Int)) (w : World) (hr : Rd w w.heap.size 2 A n (gcells xs)) (hn : n ≤ 1000) :
    Calls Try.prog 85 #[.slice A n c] w fun e w' => ∃ v, e = .returned v ∧ Ow w' w.heap.size 66 2 v n (gcells xs) ∧ Below w.heap.size w w' := by
  obtain ⟨i0, hi0, hz0, hz1, hz2⟩ := info_parts infoPt
  cases A with
  | none =>
    have h0 : n = 0 := by
      rcases Nat.eq_zero_or_pos n with h | h
      · exact h
      · obtain ⟨b, off, h, _⟩ := hr.at_ h
        cases h
    subst h0
    have hx : gcells xs = [] := hr.nil'
    have hq := Lib.run_eql_slice_nil (P := Try.prog) (w := w) 63
    go_enter Try.func85, Try.ntmps85
    go_wp2_with fail
    go_ret
    exact ⟨_, rfl, by rw [hx]; exact Ow.nil _ _ _ _, Below.refl _ _⟩
  | some a =>
    have hq := Lib.run_eql_slice_nil (P := Try.prog) (w := w) 63
    go_enter Try.func85, Try.ntmps85
    go_wp2_with (at_builtin; refine wpList_append_ow _ rfl (.tmp 5) (.tmp 6) _ rfl w.heap.size 66 i0 _ 2 16 Try.underlying63 hi0 hz0 hz1 hz2 rfl (by omega) (.slice (some ⟨w.heap.size, 0, none⟩) 0 0) 0 [] rfl (Ow.lit w #[] 0 (Nat.le_refl _) (by simp [maxLen]) rfl) w.heap.size (some a) n c (gcells xs) rfl (hr.alloc (Nat.le_refl _) _) (gcells_one xs) (by simp only [maxLen]; omega) (by omega) (by simp) ?_; intro v1 w1 hown1 hg1 hat1 hnn1)
    go_ret
    refine ⟨_, rfl, by simpa using hown1, ?_⟩
    exact (((Below.refl _ _).alloc (Nat.le_refl _) _).grown hg1 (by simp) (by simp [Value.ownBlock]))
set_option maxHeartbeats 1000000 in
theorem cloneP0_any (A : Option Addr) (c : Nat) (w : World) :
    Calls Try.prog 85 #[.slice A 0 c] w fun e w' => ∃ v, e = .returned v ∧ Ow w' w.heap.size 66 2 v 0 [] ∧ Below w.heap.size w w' ∧ ∀ k, blkOf v = some k → k < w'.heap.size := by
  obtain ⟨i0, hi0, hz0, hz1, hz2⟩ := info_parts infoPt
  cases A with
  | none =>
    have hq := Lib.run_eql_slice_nil (P := Try.prog) (w := w) 63
    go_enter Try.func85, Try.ntmps85
    go_wp2_with fail
    go_ret
    exact ⟨_, rfl, Ow.nil _ _ _ _, Below.refl _ _, fun k hk => by cases hk⟩
  | some a =>
    have hq := Lib.run_eql_slice_nil (P := Try.prog) (w := w) 63
    have hlit := hide <| Ow.lit w #[] 0 (lo := w.heap.size) (size := 2) (e := 66) (Nat.le_refl _) (by simp [maxLen]) rfl
    have hap := hide <| fun w1 ty hown => run_append_zero (P := Try.prog) (w := w1) (ty := ty) (t := 63) (A := some a) (c := c) (lo := w.heap.size) (size := 2) (ee := 66) (v := .slice (some ⟨w.heap.size, 0, none⟩) 0 0) (m' := 0) (xs := []) Try.underlying63 hi0 hown
    go_enter Try.func85, Try.ntmps85
    go_wp2_with (at_builtin; refine wpList_exec rfl _ (exec_append _ _ _ rfl _ _ rfl rfl (hap.out _ _ hlit.out)) ?_)
    go_ret
    refine ⟨_, rfl, hlit.out, (Below.refl _ _).alloc (Nat.le_refl _) _, fun k hk => ?_⟩
    injection hk with hk
    subst hk
    show w.heap.size < (w.heap.push _).size
    rw [Array.size_push]; exact Nat.lt_succ_self _
theorem cloneP_sat (l : List (Int × Int)) (hn : l.length ≤ 1000) : Sat Try.prog 85 [.d (.sl 2 (l.map gR))] [] (.own 0) [.sl 2 (l.map gR)] := by
  intro F ρ w vals En hv
  obtain ⟨v, rfl, hv'⟩ := hv.one_out
  cases hv' with | d hv =>
    obtain ⟨A, c, rfl, h1, h2, hr⟩ := hv.sl_rd En.fb (flat_map gR_flat l)
    rw [List.length_map] at hr ⊢
    have main : Calls Try.prog 85 #[.slice A l.length c] w fun e w' => ∃ v, e = .returned v ∧ Ow w' w.heap.size 66 2 v l.length (gcells l) ∧ Below w.heap.size w w' ∧ ∀ k, blkOf v = some k → k < w'.heap.size := by
      rcases Nat.eq_zero_or_pos l.length with h0 | h0
      · have : l = [] := List.eq_nil_of_length_eq_zero h0
        subst this
        exact cloneP0_any A c w
      · refine (cloneP_any A _ c l w hr hn).mono ?_
        rintro e w' ⟨v, rfl, how, hb⟩
        refine ⟨v, rfl, how, hb, fun k hk => ?_⟩
        obtain ⟨g, off, cap, rfl, _, hg, _⟩ := how.open_ h0
        injection hk with hk
        subst hk
        exact hg
    refine main.mono ?_
    rintro e w' ⟨v, rfl, how, hb, hlt⟩
    have hG : w.grownBy w' none := ⟨hb.os, hb.tape, hb.output, hb.size, fun b h _ => hb.block b h⟩
    have hnone : hp ([] : List AObj) 0 = none := rfl
    obtain ⟨A', c', he, g1, g2, hrd⟩ := how.form
    subst he
    have how0 : Ow w' 0 0 2 (.slice A' l.length c') l.length (gcells l) := ⟨how.1, by
      rcases how.2 with h | ⟨a, h, _, h'⟩ | ⟨g, off, cap, h, _, h'⟩
      · exact .inl h
      · exact .inr (.inl ⟨a, h, Nat.zero_le _, h'⟩)
      · exact .inr (.inr ⟨g, off, cap, h, Nat.zero_le _, h'⟩)⟩
    obtain ⟨S, K, E⟩ := En.new (n := 0) (o' := .sl 2 (l.map gR)) (h := .slice A' l.length c') hnone hG (fun b hb' => ⟨how.lt b (by rw [← blk_own rfl]; exact hb'), hlt b hb'⟩)
      ⟨_, by rw [List.length_map]; exact how0, (flat_map gR_flat l).rds, fun r hr => by obtain ⟨x, _, rfl⟩ := List.mem_map.1 hr; rfl⟩
    have e : updF (hp []) 0 (some (.sl 2 (l.map gR))) = hp [.sl 2 (l.map gR)] := by
      funext i
      match i with
      | 0 => rfl
      | i + 1 => rfl
    rw [e] at S E
    exact ⟨_, rfl, F, _, S, K, E, .own (updF_same _ _ _)⟩
/-- One point is ahead of another. -/
def ltP (x y : Int × Int) : Prop := x.1 < y.1 ∨ (x.1 = y.1 ∧ x.2 < y.2)
theorem ltOf_P (x y : Int × Int) : ltOf cmpP x y = true ↔ ltP x y := by
  unfold ltOf cmpP ltP Lib.compareInt
  rw [decide_eq_true_eq]
  by_cases h1 : x.1 < y.1 <;> by_cases h2 : x.1 > y.1 <;> by_cases h3 : x.2 < y.2 <;> by_cases h4 : x.2 > y.2 <;> simp [h1, h2, h3, h4] <;> omega
theorem ltOf_PF (x y : Int × Int) : ltOf cmpP x y = false ↔ ¬ ltP x y := by
  rw [← ltOf_P, Bool.not_eq_true]
theorem swoP : SWO (ltOf cmpP) := by
  refine ⟨fun x => ?_, fun x y z => ?_, fun x y z => ?_⟩
  · rw [ltOf_PF]; unfold ltP; omega
  · rw [ltOf_P, ltOf_P, ltOf_P]; unfold ltP; omega
  · rw [ltOf_PF, ltOf_PF, ltOf_PF]; unfold ltP; omega
theorem totP (x y : Int × Int) (h : ltOf cmpP x y = false) (g : ltOf cmpP y x = false) : x = y := by
  rw [ltOf_PF] at h g
  unfold ltP at h g
  exact Prod.ext (by omega) (by omega)
theorem sortP_call (l : List (Int × Int)) (hsz : l.length < 4611686018427387904) {i n : Nat} {Lh : List AObj} (hi : Lh[i]? = some (.sl 2 (l.map gR))) :
    CallOK Try.prog 86 [.own i, .fn (.func 87) [] []] Lh n ⟨[i], [(i, .sl 2 ((sorted cmpP l).map gR))], []⟩ (.tup []) :=
  sort_call Try.sortFn Try.isAgg66 Try.sizeOf66 encP2 (fun _ => rfl) (fun x v hv => by simp [encP2] at hv; rcases hv with rfl | rfl <;> rfl) cmpP swoP totP (enters_of Try.func87 (by kernel_rfl) rfl) comparePt_at l hsz hi
end Go.Proofs.Ytgidaifoiljgoaa
/- drift.ordered, by conditions. -/
namespace Go.Proofs.Ytgidaifoiljgoaa
set_option linter.unusedSimpArgs false
set_option linter.unusedVariables false
open Go.RowKit Go.Sort
set_option maxRecDepth 100000
def adjOK (S : List (Int × Int)) : Prop := ∀ (j : Nat) p q, S[j]? = some p → S[j + 1]? = some q → p.2 ≤ q.2 ∧ (q.1 = p.1 → q.2 = p.2)
def OrdOK (l : List (Int × Int)) : Prop := (∀ p ∈ l, inT p) ∧ adjOK (sorted cmpP l)
theorem ordered_sat (l : List (Int × Int)) (hn : l.length ≤ 1000) (r : AV) (H' : List AObj) (hok : OrdOK l → r = .tup [.own 0, bA true] ∧ H' = [.sl 2 ((sorted cmpP l).map gR)]) (herr : ¬ OrdOK l → r = .tup [.d (.v (.slice none 0 0)), bA false] ∧ H' = []) :
    Sat Try.prog 66 [.d (.sl 2 (l.map gR))] [] r H' := by
  have hm : (l.map gR).length = l.length := List.length_map _
  refine sat_of_vc (T := tiOf Try.prog) (E := E0) Try.func66 rfl rfl hE0 hm0 rfl ?_
  conv => whnf
  repeat (any_goals (first
    | exact True.intro
    | (refine Or.inl ?_; conv => whnf)
    | (refine And.intro (fun _ => ?_) tf; conv => whnf)
    | (refine And.intro ft (fun _ => ?_); conv => whnf)
    | (refine And.intro (by kernel_rfl) ?_; conv => whnf)
    | (refine And.intro (by decide) ?_; conv => whnf)
    | (refine And.intro (fun _ => ?_) (fun h => absurd h (by decide)); conv => whnf)
    | (refine And.intro (fun h => absurd h (by decide)) (fun _ => ?_); conv => whnf)
    | (refine And.intro (fun _ => ?_) (fun _ => ?_) <;> conv => whnf)))
  refine ⟨Nat, fun k => k ≤ l.length ∧ ∀ p ∈ l.take k, inT p, fun k => ([(12, iA k), (11, iA l.length), (10, .d (.sl 2 (l.map gR))), (0, .d (.sl 2 (l.map gR)))], []), fun k => l.length - k, ⟨0, ⟨Nat.zero_le _, fun p hp => by simp at hp⟩, ?_⟩, ?_⟩
  · all_goals refine ⟨[], ?_⟩
    repeat (any_goals (first | exact True.intro | exact rfl | with_reducible_and_instances rfl | exact (by kernel_rfl) | refine And.intro ?_ ?_))
    all_goals conv => whnf
    rw [hm]
  rintro k ⟨hk, hT⟩
  conv => whnf
  by_cases hlt : k < l.length
  · have hx : l[k]? = some l[k] := List.getElem?_eq_getElem hlt
    have hmem := List.getElem_mem hlt
    generalize l[k] = p at hx hmem
    have hbad : ¬ inT p → r = .tup [.d (.v (.slice none 0 0)), bA false] ∧ H' = [] := fun h => herr fun q => h (q.1 p hmem)
    have hgood : inT p → ∀ q ∈ l.take (k + 1), inT q := fun h q hq => by
      rw [List.take_add_one, hx] at hq
      rcases List.mem_append.1 hq with e | e
      · exact hT q e
      · rw [List.mem_singleton.1 e]; exact h
    unfold inT at hbad
    repeat (any_goals (first
      | exact True.intro
      | (refine Or.inl ?_; conv => whnf)
      | (refine And.intro (fun _ => ?_) tf; conv => whnf)
      | (refine And.intro ft (fun _ => ?_); conv => whnf)
      | (refine And.intro (by kernel_rfl) ?_; conv => whnf)
      | (refine And.intro (by decide) ?_; conv => whnf)
      | (refine And.intro (fun _ => ?_) (fun h => absurd h (by decide)); conv => whnf)
      | (refine And.intro (fun h => absurd h (by decide)) (fun _ => ?_); conv => whnf)
      | (refine ⟨k, _, rfl, map_get hx, ?_⟩; conv => whnf)
      | (refine And.intro (fun _ => ?_) (fun _ => ?_) <;> conv => whnf)))
    · have q := of_decide_eq_true ‹decide (p.2 > 4611686018427387903) = true›
      obtain ⟨rfl, rfl⟩ := hbad (by omega)
      all_goals refine ⟨[], ?_⟩
      repeat (any_goals (first | exact True.intro | exact rfl | with_reducible_and_instances rfl | exact (by kernel_rfl) | refine And.intro ?_ ?_))
      all_goals conv => whnf
    · have q1 := of_decide_eq_false ‹decide (p.2 > 4611686018427387903) = false›
      have q2 := of_decide_eq_false ‹decide (p.2 < 0) = false›
      have q3 := of_decide_eq_false ‹decide (p.1 > 4611686018427387903) = false›
      have q4 := of_decide_eq_false ‹decide (p.1 < 0) = false›
      refine ⟨k + 1, ⟨hlt, hgood ⟨by omega, by omega, by omega, by omega⟩⟩, show l.length - (k + 1) < l.length - k by omega, ?_⟩
      all_goals refine ⟨[], ?_⟩
      repeat (any_goals (first | exact True.intro | exact rfl | with_reducible_and_instances rfl | exact (by kernel_rfl) | refine And.intro ?_ ?_))
      all_goals conv => whnf
      exact wk1 (by omega)
    · have q := of_decide_eq_true ‹decide (p.2 < 0) = true›
      obtain ⟨rfl, rfl⟩ := hbad (by omega)
      all_goals refine ⟨[], ?_⟩
      repeat (any_goals (first | exact True.intro | exact rfl | with_reducible_and_instances rfl | exact (by kernel_rfl) | refine And.intro ?_ ?_))
      all_goals conv => whnf
    · have q := of_decide_eq_true ‹decide (p.1 > 4611686018427387903) = true›
      obtain ⟨rfl, rfl⟩ := hbad (by omega)
      all_goals refine ⟨[], ?_⟩
      repeat (any_goals (first | exact True.intro | exact rfl | with_reducible_and_instances rfl | exact (by kernel_rfl) | refine And.intro ?_ ?_))
      all_goals conv => whnf
    · have q := of_decide_eq_true ‹decide (p.1 < 0) = true›
      obtain ⟨rfl, rfl⟩ := hbad (by omega)
      all_goals refine ⟨[], ?_⟩
      repeat (any_goals (first | exact True.intro | exact rfl | with_reducible_and_instances rfl | exact (by kernel_rfl) | refine And.intro ?_ ?_))
      all_goals conv => whnf
    · exact absurd ‹decide ((k : Int) < (l.length : Int)) = false› (by rw [decide_eq_true (by omega)]; decide)
  · have hke : k = l.length := by omega
    subst hke
    rw [List.take_length] at hT
    repeat (any_goals (first
      | exact True.intro
      | (refine Or.inl ?_; conv => whnf)
      | (refine And.intro (fun _ => ?_) tf; conv => whnf)
      | (refine And.intro ft (fun _ => ?_); conv => whnf)
      | (refine And.intro (by kernel_rfl) ?_; conv => whnf)
      | (refine And.intro (by decide) ?_; conv => whnf)
      | (refine And.intro (fun _ => ?_) (fun h => absurd h (by decide)); conv => whnf)
      | (refine And.intro (fun h => absurd h (by decide)) (fun _ => ?_); conv => whnf)
      | (refine And.intro (fun _ => ?_) (fun _ => ?_) <;> conv => whnf)
      | (refine ⟨_, _, (cloneP_sat l hn).nw rfl, ?_⟩; conv => whnf)
      | (refine ⟨_, _, sortP_call l (by omega) rfl, ?_⟩; conv => whnf)))
    · exact absurd ‹decide ((l.length : Int) < (l.length : Int)) = true› (by simp)
    have hok' : adjOK (sorted cmpP l) → r = .tup [.own 0, bA true] ∧ H' = [.sl 2 ((sorted cmpP l).map gR)] := fun h => hok ⟨hT, h⟩
    have herr' : ¬ adjOK (sorted cmpP l) → r = .tup [.d (.v (.slice none 0 0)), bA false] ∧ H' = [] := fun h => herr fun q => h q.2
    have hsl : (sorted cmpP l).length = l.length := sorted_len _ _
    clear hok herr hT
    generalize sorted cmpP l = S at *
    have hms : (S.map gR).length = S.length := List.length_map _
    refine ⟨Nat, fun i => i ≤ S.length ∧ ∀ (j : Nat) p q, j + 1 < i → S[j]? = some p → S[j + 1]? = some q → p.2 ≤ q.2 ∧ (q.1 = p.1 → q.2 = p.2), fun i => ([(41, iA i), (40, iA S.length), (39, .own 0), (6, .own 0)], [.sl 2 (S.map gR)]), fun i => S.length - i, ⟨0, ⟨Nat.zero_le _, fun j p q h => absurd h (by omega)⟩, ?_⟩, ?_⟩
    · all_goals refine ⟨[], ?_⟩
      repeat (any_goals (first | exact True.intro | exact rfl | with_reducible_and_instances rfl | exact (by kernel_rfl) | refine And.intro ?_ ?_))
      all_goals conv => whnf
      rw [hms]
    rintro i ⟨hi, hA⟩
    conv => whnf
    by_cases hlt : i < S.length
    · have hx : S[i]? = some S[i] := List.getElem?_eq_getElem hlt
      generalize S[i] = q at hx
      by_cases hi0 : i = 0
      · subst hi0
        repeat (any_goals (first
          | exact True.intro
          | (refine Or.inl ?_; conv => whnf)
          | (refine And.intro (fun _ => ?_) tf; conv => whnf)
          | (refine And.intro ft (fun _ => ?_); conv => whnf)
          | (refine And.intro (by kernel_rfl) ?_; conv => whnf)
          | (refine And.intro (by decide) ?_; conv => whnf)
          | (refine And.intro (fun _ => ?_) (fun h => absurd h (by decide)); conv => whnf)
          | (refine And.intro (fun h => absurd h (by decide)) (fun _ => ?_); conv => whnf)
          | (refine ⟨0, rfl, by simpa using hlt, ?_⟩; conv => whnf)
          | (refine ⟨_, map_get hx, ?_⟩; conv => whnf)
          | (refine And.intro (fun _ => ?_) (fun _ => ?_) <;> conv => whnf)))
        all_goals try (exfalso; simp only [decide_eq_true_eq, decide_eq_false_iff_not, Bool.not_eq_true', Bool.not_eq_false', Bool.not_eq_true, Bool.not_eq_false, beq_iff_eq, bne_iff_ne, beq_eq_false_iff_ne, bne_eq_false_iff_eq, ne_eq, Decidable.not_not] at *; first | omega | contradiction | (simp_all; done) | (simp_all; omega))
        refine ⟨1, ⟨hlt, fun j p q h => absurd h (by omega)⟩, show S.length - 1 < S.length - 0 by omega, ?_⟩
        all_goals refine ⟨[], ?_⟩
        repeat (any_goals (first | exact True.intro | exact rfl | with_reducible_and_instances rfl | exact (by kernel_rfl) | refine And.intro ?_ ?_))
        all_goals conv => whnf
      · obtain ⟨j, rfl⟩ : ∃ j, i = j + 1 := ⟨i - 1, by omega⟩
        have hy : S[j]? = some S[j] := List.getElem?_eq_getElem (by omega)
        generalize S[j] = p at hy
        have hw : IntKind.i64.wrap (((j + 1 : Nat) : Int) - 1) = (j : Int) := by rw [wi (by omega) (by omega)]; omega
        repeat (any_goals (first
          | exact True.intro
          | (refine Or.inl ?_; conv => whnf)
          | (refine And.intro (fun _ => ?_) tf; conv => whnf)
          | (refine And.intro ft (fun _ => ?_); conv => whnf)
          | (refine And.intro (by kernel_rfl) ?_; conv => whnf)
          | (refine And.intro (by decide) ?_; conv => whnf)
          | (refine And.intro (fun _ => ?_) (fun h => absurd h (by decide)); conv => whnf)
          | (refine And.intro (fun h => absurd h (by decide)) (fun _ => ?_); conv => whnf)
          | (refine ⟨j + 1, rfl, by simpa using hlt, ?_⟩; conv => whnf)
          | (refine ⟨j, hw, by simp; omega, ?_⟩; conv => whnf)
          | (refine ⟨_, map_get hx, ?_⟩; conv => whnf)
          | (refine ⟨_, map_get hy, ?_⟩; conv => whnf)
          | (refine And.intro (fun _ => ?_) (fun _ => ?_) <;> conv => whnf)))
        · have q1 : (q.2 != p.2) = true := by assumption
          have q2 : (q.1 == p.1) = true := by assumption
          rw [bne_iff_ne] at q1
          rw [beq_iff_eq] at q2
          obtain ⟨rfl, rfl⟩ := herr' fun h => q1 ((h j p q hy hx).2 q2)
          all_goals refine ⟨[], ?_⟩
          repeat (any_goals (first | exact True.intro | exact rfl | with_reducible_and_instances rfl | exact (by kernel_rfl) | refine And.intro ?_ ?_))
          all_goals conv => whnf
        · have q1 : (q.2 != p.2) = false := by assumption
          have q3 := of_decide_eq_false ‹decide (q.2 < p.2) = false›
          rw [bne_eq_false_iff_eq] at q1
          refine ⟨j + 2, ⟨hlt, fun j' p' q' h hp' hq' => ?_⟩, show S.length - (j + 2) < S.length - (j + 1) by omega, ?_⟩
          · by_cases e : j' = j
            · subst e
              rw [hy] at hp'; rw [hx] at hq'
              injection hp' with hp'; injection hq' with hq'
              subst hp' hq'
              exact ⟨by omega, fun _ => q1⟩
            · exact hA j' p' q' (by omega) hp' hq'
          · all_goals refine ⟨[], ?_⟩
            repeat (any_goals (first | exact True.intro | exact rfl | with_reducible_and_instances rfl | exact (by kernel_rfl) | refine And.intro ?_ ?_))
            all_goals conv => whnf
            exact wk1 (by omega)
        · have q2 : (q.1 == p.1) = false := by assumption
          have q3 := of_decide_eq_false ‹decide (q.2 < p.2) = false›
          rw [beq_eq_false_iff_ne] at q2
          refine ⟨j + 2, ⟨hlt, fun j' p' q' h hp' hq' => ?_⟩, show S.length - (j + 2) < S.length - (j + 1) by omega, ?_⟩
          · by_cases e : j' = j
            · subst e
              rw [hy] at hp'; rw [hx] at hq'
              injection hp' with hp'; injection hq' with hq'
              subst hp' hq'
              exact ⟨by omega, fun h => absurd h q2⟩
            · exact hA j' p' q' (by omega) hp' hq'
          · all_goals refine ⟨[], ?_⟩
            repeat (any_goals (first | exact True.intro | exact rfl | with_reducible_and_instances rfl | exact (by kernel_rfl) | refine And.intro ?_ ?_))
            all_goals conv => whnf
            exact wk1 (by omega)
        · have q3 := of_decide_eq_true ‹decide (q.2 < p.2) = true›
          obtain ⟨rfl, rfl⟩ := herr' fun h => by have := (h j p q hy hx).1; omega
          all_goals refine ⟨[], ?_⟩
          repeat (any_goals (first | exact True.intro | exact rfl | with_reducible_and_instances rfl | exact (by kernel_rfl) | refine And.intro ?_ ?_))
          all_goals conv => whnf
        · exact absurd ‹decide (((j + 1 : Nat) : Int) < (S.length : Int)) = false› (by rw [decide_eq_true (by omega)]; decide)
    · have hie : i = S.length := by omega
      subst hie
      repeat (any_goals (first
        | exact True.intro
        | (refine Or.inl ?_; conv => whnf)
        | (refine And.intro (fun _ => ?_) tf; conv => whnf)
        | (refine And.intro ft (fun _ => ?_); conv => whnf)
        | (refine And.intro (by kernel_rfl) ?_; conv => whnf)
        | (refine And.intro (by decide) ?_; conv => whnf)
        | (refine And.intro (fun _ => ?_) (fun h => absurd h (by decide)); conv => whnf)
        | (refine And.intro (fun h => absurd h (by decide)) (fun _ => ?_); conv => whnf)
        | (refine And.intro (fun _ => ?_) (fun _ => ?_) <;> conv => whnf)))
      · exact absurd ‹decide ((S.length : Int) < (S.length : Int)) = true› (by simp)
      · obtain ⟨rfl, rfl⟩ := hok' fun j p q hp hq => hA j p q (List.getElem?_eq_some_iff.1 hq).1 hp hq
        all_goals refine ⟨[], ?_⟩
        repeat (any_goals (first | exact True.intro | exact rfl | with_reducible_and_instances rfl | exact (by kernel_rfl) | refine And.intro ?_ ?_))
        all_goals conv => whnf
end Go.Proofs.Ytgidaifoiljgoaa
/- drift.Honest, drift.Least. -/
namespace Go.Proofs.Ytgidaifoiljgoaa
set_option linter.unusedSimpArgs false
set_option linter.unusedVariables false
open Go.RowKit Go.Sort
set_option maxRecDepth 100000
theorem lend_b {P : Program} {g : FuncId} {L : List AObj} {n i s : Nat} {rows : List (List D)} {x : D} {r : AV} (h : Sat P g [.d x, .d (.sl s rows)] [] r []) (hi : L[i]? = some (.sl s rows)) (hr : flatA r = true) : CallOK P g [.d x, .own i] L n ⟨[i], [], []⟩ r :=
  h.lend (ids := [i]) ⟨rfl, [], rfl, hi, rfl⟩ hr fun j hj => by
    rw [List.mem_singleton.1 hj]; exact ⟨_, hi, rfl⟩
theorem rateP_sat (r : Int) : Sat Try.prog 64 [iA r] [] (bA (okRate r)) [] :=
  .of_same (by repeat constructor) (by repeat constructor) fun w => rate_any r w
def HonOK (rho : Int) (l : List (Int × Int)) : Prop := okRate rho = true ∧ OrdOK l ∧ nearB rho (sorted cmpP l) = true
theorem sorted_inT {l : List (Int × Int)} (h : ∀ p ∈ l, inT p) : ∀ p ∈ sorted cmpP l, inT p := fun p hp => h p ((sorted_perm cmpP l).mem_iff.1 hp)
theorem honest_yes (rho : Int) (l : List (Int × Int)) (hn : l.length ≤ 1000) (h : HonOK rho l) : Sat Try.prog 36 [iA rho, .d (.sl 2 (l.map gR))] [] (bA true) [] := by
  obtain ⟨h1, h2, h3⟩ := h
  have ra := rateP_sat rho
  rw [h1] at ra
  have os := ordered_sat l hn _ _ (fun _ => ⟨rfl, rfl⟩) (fun q => absurd h2 q)
  have hr := of_decide_eq_true h1
  have ns := near_sat rho (sorted cmpP l) (by omega) (by omega) (sorted_inT h2.1) (by rw [sorted_len]; exact hn)
  rw [h3] at ns
  refine sat_of_vc (T := tiOf Try.prog) (E := E0) Try.func36 rfl rfl hE0 hm0 rfl ?_
  conv => whnf
  repeat (any_goals (first
    | exact True.intro
    | (refine Or.inl ?_; conv => whnf)
    | (refine And.intro (fun _ => ?_) tf; conv => whnf)
    | (refine And.intro ft (fun _ => ?_); conv => whnf)
    | (refine And.intro (by kernel_rfl) ?_; conv => whnf)
    | (refine And.intro (by decide) ?_; conv => whnf)
    | (refine And.intro (fun _ => ?_) (fun h => absurd h (by decide)); conv => whnf)
    | (refine And.intro (fun h => absurd h (by decide)) (fun _ => ?_); conv => whnf)
    | (refine And.intro (fun _ => ?_) (fun _ => ?_) <;> conv => whnf)
    | (refine ⟨_, _, ra.pu rfl rfl, ?_⟩; conv => whnf)
    | (refine ⟨_, _, os.nw rfl, ?_⟩; conv => whnf)
    | (refine ⟨_, _, lend_b ns rfl rfl, ?_⟩; conv => whnf)))
  all_goals try (exfalso; simp only [decide_eq_true_eq, decide_eq_false_iff_not, Bool.not_eq_true', Bool.not_eq_false', Bool.not_eq_true, Bool.not_eq_false, beq_iff_eq, bne_iff_ne, beq_eq_false_iff_ne, bne_eq_false_iff_eq, ne_eq, Decidable.not_not] at *; first | omega | contradiction | (simp_all; done) | (simp_all; omega))
  all_goals refine ⟨[], ?_⟩
  repeat (any_goals (first | exact True.intro | exact rfl | with_reducible_and_instances rfl | exact (by kernel_rfl) | refine And.intro ?_ ?_))
  all_goals conv => whnf
theorem honest_no (rho : Int) (l : List (Int × Int)) (hn : l.length ≤ 1000) (h : ¬ HonOK rho l) : Sat Try.prog 36 [iA rho, .d (.sl 2 (l.map gR))] [] (bA false) [] := by
  have ra := rateP_sat rho
  by_cases h1 : okRate rho = true
  case neg =>
    have h1 : okRate rho = false := by simpa using h1
    rw [h1] at ra
    refine sat_of_vc (T := tiOf Try.prog) (E := E0) Try.func36 rfl rfl hE0 hm0 rfl ?_
    conv => whnf
    repeat (any_goals (first
      | exact True.intro
      | (refine And.intro (fun _ => ?_) tf; conv => whnf)
      | (refine And.intro ft (fun _ => ?_); conv => whnf)
      | (refine And.intro (by kernel_rfl) ?_; conv => whnf)
      | (refine And.intro (by decide) ?_; conv => whnf)
      | (refine And.intro (fun _ => ?_) (fun h => absurd h (by decide)); conv => whnf)
      | (refine And.intro (fun h => absurd h (by decide)) (fun _ => ?_); conv => whnf)
      | (refine And.intro (fun _ => ?_) (fun _ => ?_) <;> conv => whnf)
      | (refine ⟨_, _, ra.pu rfl rfl, ?_⟩; conv => whnf)))
    all_goals try (exfalso; simp only [decide_eq_true_eq, decide_eq_false_iff_not, Bool.not_eq_true', Bool.not_eq_false', Bool.not_eq_true, Bool.not_eq_false, beq_iff_eq, bne_iff_ne, beq_eq_false_iff_ne, bne_eq_false_iff_eq, ne_eq, Decidable.not_not] at *; first | omega | contradiction | (simp_all; done) | (simp_all; omega))
    all_goals try (refine Or.inl ?_; conv => whnf)
    repeat (any_goals (first
      | exact True.intro
      | (refine And.intro (fun _ => ?_) tf; conv => whnf)
      | (refine And.intro ft (fun _ => ?_); conv => whnf)
      | (refine And.intro (by kernel_rfl) ?_; conv => whnf)
      | (refine And.intro (by decide) ?_; conv => whnf)
      | (refine And.intro (fun _ => ?_) (fun h => absurd h (by decide)); conv => whnf)
      | (refine And.intro (fun h => absurd h (by decide)) (fun _ => ?_); conv => whnf)
      | (refine And.intro (fun _ => ?_) (fun _ => ?_) <;> conv => whnf)
      | (refine ⟨_, _, ra.pu rfl rfl, ?_⟩; conv => whnf)))
    all_goals try (exfalso; simp only [decide_eq_true_eq, decide_eq_false_iff_not, Bool.not_eq_true', Bool.not_eq_false', Bool.not_eq_true, Bool.not_eq_false, beq_iff_eq, bne_iff_ne, beq_eq_false_iff_ne, bne_eq_false_iff_eq, ne_eq, Decidable.not_not] at *; first | omega | contradiction | (simp_all; done) | (simp_all; omega))
    all_goals refine ⟨[], ?_⟩
    repeat (any_goals (first | exact True.intro | exact rfl | with_reducible_and_instances rfl | exact (by kernel_rfl) | refine And.intro ?_ ?_))
    all_goals conv => whnf
  rw [h1] at ra
  by_cases h2 : OrdOK l
  case neg =>
    have os := ordered_sat l hn _ _ (fun q => absurd q h2) (fun _ => ⟨rfl, rfl⟩)
    refine sat_of_vc (T := tiOf Try.prog) (E := E0) Try.func36 rfl rfl hE0 hm0 rfl ?_
    conv => whnf
    repeat (any_goals (first
      | exact True.intro
      | (refine Or.inl ?_; conv => whnf)
      | (refine And.intro (fun _ => ?_) tf; conv => whnf)
      | (refine And.intro ft (fun _ => ?_); conv => whnf)
      | (refine And.intro (by kernel_rfl) ?_; conv => whnf)
      | (refine And.intro (by decide) ?_; conv => whnf)
      | (refine And.intro (fun _ => ?_) (fun h => absurd h (by decide)); conv => whnf)
      | (refine And.intro (fun h => absurd h (by decide)) (fun _ => ?_); conv => whnf)
      | (refine And.intro (fun _ => ?_) (fun _ => ?_) <;> conv => whnf)
      | (refine ⟨_, _, ra.pu rfl rfl, ?_⟩; conv => whnf)
      | (refine ⟨_, _, os.nw rfl, ?_⟩; conv => whnf)))
    all_goals try (exfalso; simp only [decide_eq_true_eq, decide_eq_false_iff_not, Bool.not_eq_true', Bool.not_eq_false', Bool.not_eq_true, Bool.not_eq_false, beq_iff_eq, bne_iff_ne, beq_eq_false_iff_ne, bne_eq_false_iff_eq, ne_eq, Decidable.not_not] at *; first | omega | contradiction | (simp_all; done) | (simp_all; omega))
    all_goals refine ⟨[], ?_⟩
    repeat (any_goals (first | exact True.intro | exact rfl | with_reducible_and_instances rfl | exact (by kernel_rfl) | refine And.intro ?_ ?_))
    all_goals conv => whnf
  have h3 : nearB rho (sorted cmpP l) = false := by
    cases q : nearB rho (sorted cmpP l) with
    | false => rfl
    | true => exact absurd ⟨h1, h2, q⟩ h
  have os := ordered_sat l hn _ _ (fun _ => ⟨rfl, rfl⟩) (fun q => absurd h2 q)
  have hr := of_decide_eq_true h1
  have ns := near_sat rho (sorted cmpP l) (by omega) (by omega) (sorted_inT h2.1) (by rw [sorted_len]; exact hn)
  rw [h3] at ns
  refine sat_of_vc (T := tiOf Try.prog) (E := E0) Try.func36 rfl rfl hE0 hm0 rfl ?_
  conv => whnf
  repeat (any_goals (first
    | exact True.intro
    | (refine Or.inl ?_; conv => whnf)
    | (refine And.intro (fun _ => ?_) tf; conv => whnf)
    | (refine And.intro ft (fun _ => ?_); conv => whnf)
    | (refine And.intro (by kernel_rfl) ?_; conv => whnf)
    | (refine And.intro (by decide) ?_; conv => whnf)
    | (refine And.intro (fun _ => ?_) (fun h => absurd h (by decide)); conv => whnf)
    | (refine And.intro (fun h => absurd h (by decide)) (fun _ => ?_); conv => whnf)
    | (refine And.intro (fun _ => ?_) (fun _ => ?_) <;> conv => whnf)
    | (refine ⟨_, _, ra.pu rfl rfl, ?_⟩; conv => whnf)
    | (refine ⟨_, _, os.nw rfl, ?_⟩; conv => whnf)
    | (refine ⟨_, _, lend_b ns rfl rfl, ?_⟩; conv => whnf)))
  all_goals try (exfalso; simp only [decide_eq_true_eq, decide_eq_false_iff_not, Bool.not_eq_true', Bool.not_eq_false', Bool.not_eq_true, Bool.not_eq_false, beq_iff_eq, bne_iff_ne, beq_eq_false_iff_ne, bne_eq_false_iff_eq, ne_eq, Decidable.not_not] at *; first | omega | contradiction | (simp_all; done) | (simp_all; omega))
  all_goals refine ⟨[], ?_⟩
  repeat (any_goals (first | exact True.intro | exact rfl | with_reducible_and_instances rfl | exact (by kernel_rfl) | refine And.intro ?_ ?_))
  all_goals conv => whnf
theorem leastF_sat (rho : Int) (S : List (Int × Int)) (h0 : 0 ≤ rho) (h1 : rho ≤ 100000) (hl : ∀ p ∈ S, inT p) (hn : S.length ≤ 1000) : Sat Try.prog 69 [iA rho, .ptr 1 0] [.sl 2 (S.map gR), .cells [.own 0]] (bA (nearB rho S)) [.sl 2 (S.map gR), .cells [.own 0]] := by
  have ns := near_sat rho S h0 h1 hl hn
  refine sat_of_vc (T := tiOf Try.prog) (E := E0) Try.func69 rfl rfl hE0 hm0 rfl ?_
  conv => whnf
  repeat (any_goals (first
    | exact True.intro
    | (refine Or.inl ?_; conv => whnf)
    | (refine And.intro (fun _ => ?_) tf; conv => whnf)
    | (refine And.intro ft (fun _ => ?_); conv => whnf)
    | (refine And.intro (by kernel_rfl) ?_; conv => whnf)
    | (refine And.intro (by decide) ?_; conv => whnf)
    | (refine And.intro (fun _ => ?_) (fun h => absurd h (by decide)); conv => whnf)
    | (refine And.intro (fun h => absurd h (by decide)) (fun _ => ?_); conv => whnf)
    | (refine And.intro (fun _ => ?_) (fun _ => ?_) <;> conv => whnf)
    | (refine ⟨_, _, lend_b ns rfl rfl, ?_⟩; conv => whnf)))
  all_goals refine ⟨[], ?_⟩
  repeat (any_goals (first | exact True.intro | exact rfl | with_reducible_and_instances rfl | exact (by kernel_rfl) | refine And.intro ?_ ?_))
  all_goals conv => whnf
theorem search_sat (S : List (Int × Int)) (hl : ∀ p ∈ S, inT p) (hn : S.length ≤ 1000) (hmono : ∀ a b : Nat, a ≤ b → b ≤ 100000 → nearB a S = true → nearB b S = true) (r : Nat) (hr : r ≤ 100001) (hr1 : ∀ k : Nat, k < r → nearB k S = false) (hr2 : r < 100001 → nearB r S = true) :
    Sat Try.prog 68 [iA 100001, .fn (.func 69) [] [.ptr 1 0]] [.sl 2 (S.map gR), .cells [.own 0]] (iA r) [.sl 2 (S.map gR), .cells [.own 0]] := by
  refine sat_of_vc (T := tiOf Try.prog) (E := E0) Try.func68 rfl rfl hE0 hm0 rfl ?_
  conv => whnf
  repeat (any_goals (first
    | exact True.intro
    | (refine Or.inl ?_; conv => whnf)
    | (refine And.intro (fun _ => ?_) tf; conv => whnf)
    | (refine And.intro ft (fun _ => ?_); conv => whnf)
    | (refine And.intro (by kernel_rfl) ?_; conv => whnf)
    | (refine And.intro (by decide) ?_; conv => whnf)
    | (refine And.intro (fun _ => ?_) (fun h => absurd h (by decide)); conv => whnf)
    | (refine And.intro (fun h => absurd h (by decide)) (fun _ => ?_); conv => whnf)
    | (refine And.intro (fun _ => ?_) (fun _ => ?_) <;> conv => whnf)))
  refine ⟨Nat × Nat, fun y => y.1 ≤ y.2 ∧ y.2 ≤ 100001 ∧ (∀ k : Nat, k < y.1 → nearB k S = false) ∧ (y.2 < 100001 → nearB y.2 S = true), fun y => ([(5, iA y.1), (6, iA y.2), (1, .fn (.func 69) [] [.ptr 1 0])], [.sl 2 (S.map gR), .cells [.own 0]]), fun y => y.2 - y.1, ⟨(0, 100001), ⟨by omega, by omega, fun k hk => absurd hk (by omega), fun h => absurd h (by omega)⟩, ?_⟩, ?_⟩
  · all_goals refine ⟨[], ?_⟩
    repeat (any_goals (first | exact True.intro | exact rfl | with_reducible_and_instances rfl | exact (by kernel_rfl) | refine And.intro ?_ ?_))
    all_goals conv => whnf
  rintro ⟨i, j⟩ ⟨hij, hj, hi1, hj1⟩
  have hij : i ≤ j := hij
  have hj : j ≤ 100001 := hj
  have hi1 : ∀ k : Nat, k < i → nearB k S = false := hi1
  have hj1 : j < 100001 → nearB j S = true := hj1
  conv => whnf
  by_cases hlt : i < j
  · obtain ⟨h, hh⟩ : ∃ h : Nat, h = (i + j) / 2 := ⟨_, rfl⟩
    have hexp : IntKind.i64.wrap ((IntKind.u64.wrap (IntKind.i64.wrap ((i : Int) + (j : Int)))).fdiv (2 ^ (min (Int.toNat 1) IntKind.u64.bits))) = (h : Int) := by
      have e1 : IntKind.i64.wrap ((i : Int) + (j : Int)) = (i : Int) + j := wi (by omega) (by omega)
      have e2 : IntKind.u64.wrap ((i : Int) + (j : Int)) = (i : Int) + j := by rw [IntKind.wrap_u64]; omega
      have e3 : (2 : Int) ^ (min (Int.toNat 1) IntKind.u64.bits) = 2 := by decide
      rw [e1, e2, e3, Int.fdiv_eq_ediv_of_nonneg _ (by omega), wi (by omega) (by omega)]
      omega
    have fs : Sat Try.prog 69 [iA (IntKind.i64.wrap ((IntKind.u64.wrap (IntKind.i64.wrap ((i : Int) + (j : Int)))).fdiv (2 ^ (min (Int.toNat 1) IntKind.u64.bits)))), .ptr 1 0] [.sl 2 (S.map gR), .cells [.own 0]] (bA (nearB h S)) [.sl 2 (S.map gR), .cells [.own 0]] := by
      rw [hexp]; exact leastF_sat h S (by omega) (by omega) hl hn
    have hup : nearB h S = false → ∀ k : Nat, k < h + 1 → nearB k S = false := fun q k hk => by
      cases e : nearB k S with
      | false => rfl
      | true => rw [hmono k h (by omega) (by omega) e] at q; cases q
    obtain ⟨fh, hfh⟩ : ∃ fh, nearB h S = fh := ⟨_, rfl⟩
    rw [hfh] at fs hup
    repeat (any_goals (first
      | exact True.intro
      | (refine Or.inl ?_; conv => whnf)
      | (refine And.intro (fun _ => ?_) tf; conv => whnf)
      | (refine And.intro ft (fun _ => ?_); conv => whnf)
      | (refine And.intro (by kernel_rfl) ?_; conv => whnf)
      | (refine And.intro (by decide) ?_; conv => whnf)
      | (refine And.intro (fun _ => ?_) (fun h => absurd h (by decide)); conv => whnf)
      | (refine And.intro (fun h => absurd h (by decide)) (fun _ => ?_); conv => whnf)
      | (refine And.intro (fun _ => ?_) (fun _ => ?_) <;> conv => whnf)
      | (refine ⟨_, _, fs.at2 0 1 rfl rfl rfl rfl rfl, ?_⟩; conv => whnf)))
    · have q : fh = false := by
        have : (!fh) = true := by assumption
        simpa using this
      refine ⟨(h + 1, j), ⟨by show h + 1 ≤ j; omega, hj, hup q, hj1⟩, show j - (h + 1) < j - i by omega, ?_⟩
      all_goals refine ⟨[], ?_⟩
      repeat (any_goals (first | exact True.intro | exact rfl | with_reducible_and_instances rfl | exact (by kernel_rfl) | refine And.intro ?_ ?_))
      all_goals conv => whnf
      show AV.d (D.v (Value.int .i64 (IntKind.i64.wrap (IntKind.i64.wrap ((IntKind.u64.wrap (IntKind.i64.wrap ((i : Int) + (j : Int)))).fdiv (2 ^ (min (Int.toNat 1) IntKind.u64.bits))) + 1)))) = _
      rw [hexp]
      exact wk1 (by omega)
    · have q : fh = true := by
        have : (!fh) = false := by assumption
        simpa using this
      refine ⟨(i, h), ⟨by show i ≤ h; omega, by show h ≤ 100001; omega, hi1, fun _ => by rw [← q]; exact hfh⟩, show h - i < j - i by omega, ?_⟩
      all_goals refine ⟨[], ?_⟩
      repeat (any_goals (first | exact True.intro | exact rfl | with_reducible_and_instances rfl | exact (by kernel_rfl) | refine And.intro ?_ ?_))
      all_goals conv => whnf
      exact congrArg iA hexp
    · exact absurd ‹decide ((i : Int) < (j : Int)) = false› (by rw [decide_eq_true (by omega)]; decide)
  · have hije : i = j := by omega
    subst hije
    repeat (any_goals (first
      | exact True.intro
      | (refine Or.inl ?_; conv => whnf)
      | (refine And.intro (fun _ => ?_) tf; conv => whnf)
      | (refine And.intro ft (fun _ => ?_); conv => whnf)
      | (refine And.intro (by kernel_rfl) ?_; conv => whnf)
      | (refine And.intro (by decide) ?_; conv => whnf)
      | (refine And.intro (fun _ => ?_) (fun h => absurd h (by decide)); conv => whnf)
      | (refine And.intro (fun h => absurd h (by decide)) (fun _ => ?_); conv => whnf)
      | (refine And.intro (fun _ => ?_) (fun _ => ?_) <;> conv => whnf)))
    · exact absurd ‹decide ((i : Int) < (i : Int)) = true› (by simp)
    · have hir : i = r := by
        rcases Nat.lt_trichotomy i r with q | q | q
        · have a1 := hr1 i q
          have a2 := hj1 (by omega)
          rw [a1] at a2; cases a2
        · exact q
        · have a1 := hi1 r q
          have a2 := hr2 (by omega)
          rw [a1] at a2; cases a2
      subst hir
      all_goals refine ⟨[], ?_⟩
      repeat (any_goals (first | exact True.intro | exact rfl | with_reducible_and_instances rfl | exact (by kernel_rfl) | refine And.intro ?_ ?_))
      all_goals conv => whnf
end Go.Proofs.Ytgidaifoiljgoaa
/- drift.Least; a play. -/
namespace Go.Proofs.Ytgidaifoiljgoaa
set_option linter.unusedSimpArgs false
set_option linter.unusedVariables false
open Go.RowKit Go.Sort
set_option maxRecDepth 100000
theorem sortedP (l : List (Int × Int)) : (sorted cmpP l).Pairwise fun x y => ¬ ltP y x := by
  have h := List.pairwise_mergeSort (le := fun x y => !(ltOf cmpP) y x) (fun a b c h1 h2 => by
    simp only [Bool.not_eq_true'] at h1 h2 ⊢
    exact swoP.ntrans c b a h2 h1) (fun a b => by
    by_cases q : ltOf cmpP b a = true
    · have : ltOf cmpP a b = false := by
        by_cases r : ltOf cmpP a b = true
        · have := swoP.trans a b a r q
          rw [swoP.irrefl] at this; cases this
        · simpa using r
      simp [this]
    · simp [q]) l
  refine h.imp fun {x y} q => ?_
  simp only [Bool.not_eq_true'] at q
  exact (ltOf_PF y x).1 q
theorem okP_mono {a b : Int} {p q : Int × Int} (hab : a ≤ b) (hpq : p.1 ≤ q.1) (h : okP a p q) : okP b p q := by
  unfold okP ahZ beZ at h ⊢
  have h1 : (b - a) * p.1 ≤ (b - a) * q.1 := Int.mul_le_mul_of_nonneg_left hpq (by omega)
  have e1 : ∀ r : Int × Int, r.1 * (1000000 + b) = r.1 * (1000000 + a) + (b - a) * r.1 := fun r => by
    rw [← Int.mul_comm r.1 (b - a), ← Int.mul_add]; congr 1; omega
  have e2 : ∀ r : Int × Int, r.1 * (1000000 - b) = r.1 * (1000000 - a) - (b - a) * r.1 := fun r => by
    rw [← Int.mul_comm r.1 (b - a), ← Int.mul_sub]; congr 1; omega
  rw [e1 p, e1 q, e2 p, e2 q]
  omega
theorem near_mono {a b : Int} (l : List (Int × Int)) (hab : a ≤ b) (h : nearB a (sorted cmpP l) = true) : nearB b (sorted cmpP l) = true := by
  have h := of_decide_eq_true h
  refine decide_eq_true (h.imp₂ (fun x y h1 h2 => okP_mono hab ?_ h1) (sortedP l))
  unfold ltP at h2
  omega
theorem leastR_ex (S : List (Int × Int)) : ∃ r : Nat, r ≤ 100001 ∧ (∀ k : Nat, k < r → nearB k S = false) ∧ (r < 100001 → nearB r S = true) := by
  obtain ⟨r, h1, h2⟩ := least (p := fun n : Nat => n = 100001 ∨ (n < 100001 ∧ nearB n S = true)) ⟨100001, .inl rfl⟩
  refine ⟨r, by omega, fun k hk => ?_, fun h => ?_⟩
  · cases e : nearB k S with
    | false => rfl
    | true => have := h2 k (.inr ⟨by omega, e⟩); omega
  · rcases h1 with h1 | h1
    · omega
    · exact h1.2
theorem least_no (l : List (Int × Int)) (hn : l.length ≤ 1000) (h : ¬ OrdOK l) : Sat Try.prog 37 [.d (.sl 2 (l.map gR))] [] (.tup [iA 0, bA false]) [] := by
  have os := ordered_sat l hn _ _ (fun q => absurd q h) (fun _ => ⟨rfl, rfl⟩)
  refine sat_of_vc (T := tiOf Try.prog) (E := E0) Try.func37 rfl rfl hE0 hm0 rfl ?_
  conv => whnf
  repeat (any_goals (first
    | exact True.intro
    | (refine Or.inl ?_; conv => whnf)
    | (refine And.intro (fun _ => ?_) tf; conv => whnf)
    | (refine And.intro ft (fun _ => ?_); conv => whnf)
    | (refine And.intro (by kernel_rfl) ?_; conv => whnf)
    | (refine And.intro (by decide) ?_; conv => whnf)
    | (refine And.intro (fun _ => ?_) (fun h => absurd h (by decide)); conv => whnf)
    | (refine And.intro (fun h => absurd h (by decide)) (fun _ => ?_); conv => whnf)
    | (refine And.intro (fun _ => ?_) (fun _ => ?_) <;> conv => whnf)
    | (refine ⟨_, _, os.nw rfl, ?_⟩; conv => whnf)))
  all_goals try (exfalso; simp only [decide_eq_true_eq, decide_eq_false_iff_not, Bool.not_eq_true', Bool.not_eq_false', Bool.not_eq_true, Bool.not_eq_false, beq_iff_eq, bne_iff_ne, beq_eq_false_iff_ne, bne_eq_false_iff_eq, ne_eq, Decidable.not_not] at *; first | omega | contradiction | (simp_all; done) | (simp_all; omega))
  all_goals refine ⟨[], ?_⟩
  repeat (any_goals (first | exact True.intro | exact rfl | with_reducible_and_instances rfl | exact (by kernel_rfl) | refine And.intro ?_ ?_))
  all_goals conv => whnf
theorem least_yes (l : List (Int × Int)) (hn : l.length ≤ 1000) (h : OrdOK l) (r : Nat) (hr : r ≤ 100001) (hr1 : ∀ k : Nat, k < r → nearB k (sorted cmpP l) = false) (hr2 : r < 100001 → nearB r (sorted cmpP l) = true) :
    Sat Try.prog 37 [.d (.sl 2 (l.map gR))] [] (.tup [iA (if r ≤ 100000 then r else 0), bA (decide (r ≤ 100000))]) [] := by
  have os := ordered_sat l hn _ _ (fun _ => ⟨rfl, rfl⟩) (fun q => absurd h q)
  have ss := search_sat (sorted cmpP l) (sorted_inT h.1) (by rw [sorted_len]; exact hn) (fun a b hab _ => near_mono l (by omega)) r hr hr1 hr2
  refine sat_of_vc (T := tiOf Try.prog) (E := E0) Try.func37 rfl rfl hE0 hm0 rfl ?_
  conv => whnf
  repeat (any_goals (first
    | exact True.intro
    | (refine And.intro (fun _ => ?_) tf; conv => whnf)
    | (refine And.intro ft (fun _ => ?_); conv => whnf)
    | (refine And.intro (by kernel_rfl) ?_; conv => whnf)
    | (refine And.intro (by decide) ?_; conv => whnf)
    | (refine And.intro (fun _ => ?_) (fun h => absurd h (by decide)); conv => whnf)
    | (refine And.intro (fun h => absurd h (by decide)) (fun _ => ?_); conv => whnf)
    | (refine And.intro (fun _ => ?_) (fun _ => ?_) <;> conv => whnf)
    | (refine ⟨_, _, os.nw rfl, ?_⟩; conv => whnf)))
  all_goals try (exfalso; simp only [decide_eq_true_eq, decide_eq_false_iff_not, Bool.not_eq_true', Bool.not_eq_false', Bool.not_eq_true, Bool.not_eq_false, beq_iff_eq, bne_iff_ne, beq_eq_false_iff_ne, bne_eq_false_iff_eq, ne_eq, Decidable.not_not] at *; first | omega | contradiction | (simp_all; done) | (simp_all; omega))
  all_goals try (refine Or.inl ?_; conv => whnf)
  repeat (any_goals (first
    | exact True.intro
    | (refine And.intro (fun _ => ?_) tf; conv => whnf)
    | (refine And.intro ft (fun _ => ?_); conv => whnf)
    | (refine And.intro (by kernel_rfl) ?_; conv => whnf)
    | (refine And.intro (by decide) ?_; conv => whnf)
    | (refine And.intro (fun _ => ?_) (fun h => absurd h (by decide)); conv => whnf)
    | (refine And.intro (fun h => absurd h (by decide)) (fun _ => ?_); conv => whnf)
    | (refine And.intro (fun _ => ?_) (fun _ => ?_) <;> conv => whnf)
    | (refine ⟨_, _, os.nw rfl, ?_⟩; conv => whnf)))
  all_goals try (exfalso; simp only [decide_eq_true_eq, decide_eq_false_iff_not, Bool.not_eq_true', Bool.not_eq_false', Bool.not_eq_true, Bool.not_eq_false, beq_iff_eq, bne_iff_ne, beq_eq_false_iff_ne, bne_eq_false_iff_eq, ne_eq, Decidable.not_not] at *; first | omega | contradiction | (simp_all; done) | (simp_all; omega))
  all_goals try (refine Or.inl ?_; conv => whnf)
  repeat (any_goals (first
    | exact True.intro
    | (refine And.intro (fun _ => ?_) tf; conv => whnf)
    | (refine And.intro ft (fun _ => ?_); conv => whnf)
    | (refine And.intro (by kernel_rfl) ?_; conv => whnf)
    | (refine And.intro (by decide) ?_; conv => whnf)
    | (refine And.intro (fun _ => ?_) (fun h => absurd h (by decide)); conv => whnf)
    | (refine And.intro (fun h => absurd h (by decide)) (fun _ => ?_); conv => whnf)
    | (refine And.intro (fun _ => ?_) (fun _ => ?_) <;> conv => whnf)
    | (refine ⟨_, _, ss.at2 0 1 rfl rfl rfl rfl rfl, ?_⟩; conv => whnf)))
  all_goals try (refine Or.inl ?_; conv => whnf)
  repeat (any_goals (first
    | exact True.intro
    | (refine And.intro (fun _ => ?_) tf; conv => whnf)
    | (refine And.intro ft (fun _ => ?_); conv => whnf)
    | (refine And.intro (by kernel_rfl) ?_; conv => whnf)
    | (refine And.intro (by decide) ?_; conv => whnf)
    | (refine And.intro (fun _ => ?_) (fun h => absurd h (by decide)); conv => whnf)
    | (refine And.intro (fun h => absurd h (by decide)) (fun _ => ?_); conv => whnf)
    | (refine And.intro (fun _ => ?_) (fun _ => ?_) <;> conv => whnf)))
  · have q := of_decide_eq_true ‹decide ((r : Int) > 100000) = true›
    rw [if_neg (by omega), decide_eq_false (by omega)]
    all_goals refine ⟨[], ?_⟩
    repeat (any_goals (first | exact True.intro | exact rfl | with_reducible_and_instances rfl | exact (by kernel_rfl) | refine And.intro ?_ ?_))
    all_goals conv => whnf
  · have q := of_decide_eq_false ‹decide ((r : Int) > 100000) = false›
    rw [if_pos (by omega), decide_eq_true (by omega)]
    all_goals refine ⟨[], ?_⟩
    repeat (any_goals (first | exact True.intro | exact rfl | with_reducible_and_instances rfl | exact (by kernel_rfl) | refine And.intro ?_ ?_))
    all_goals conv => whnf
theorem lowD_sat (x r : Int) (hx : nearX x = true) (hr : okRate r = true) : Sat Try.prog 34 [iA x, iA r] [] (.tup [iA (lowZ x r), iA 0]) [] :=
  .of_calls (by repeat constructor) (by repeat constructor) fun w => low_ok x r w hx hr
theorem lowD_err (x r : Int) (hx : in64 x) (h : nearX x = false ∨ okRate r = false) : Sat Try.prog 34 [iA x, iA r] [] (.tup [iA 0, iA 11]) [] :=
  .of_calls (by repeat constructor) (by repeat constructor) fun w => low_err x r w hx.1 hx.2 h
theorem highD_sat (x r : Int) (hx : nearX x = true) (hr : okRate r = true) : Sat Try.prog 35 [iA x, iA r] [] (.tup [iA (highZ x r), iA 0]) [] :=
  .of_calls (by repeat constructor) (by repeat constructor) fun w => high_ok x r w hx hr
theorem highD_err (x r : Int) (hx : in64 x) (h : nearX x = false ∨ okRate r = false) : Sat Try.prog 35 [iA x, iA r] [] (.tup [iA 0, iA 11]) [] :=
  .of_calls (by repeat constructor) (by repeat constructor) fun w => high_err x r w hx.1 hx.2 h
theorem slackD_sat (a r : Int) (ha : farA a = true) (hr : okRate r = true) : Sat Try.prog 31 [iA a, iA r] [] (.tup [iA (slackZ a r), iA 0]) [] :=
  .of_calls (by repeat constructor) (by repeat constructor) fun w => slack_ok a r w ha hr
abbrev p2 : List (Int × Int) := [(5, 7), (105, 110)]
theorem sorted_p2 : sorted cmpP p2 = p2 := List.mergeSort_of_pairwise (by
  refine List.pairwise_cons.2 ⟨fun y hy => ?_, List.pairwise_singleton _ _⟩
  rw [List.mem_singleton.1 hy]; decide)
theorem ord_p2 : OrdOK p2 := by
  refine ⟨fun p hp => ?_, ?_⟩
  · simp only [p2, List.mem_cons, List.not_mem_nil, or_false] at hp
    rcases hp with rfl | rfl <;> exact ⟨by decide, by decide, by decide, by decide⟩
  · rw [sorted_p2]
    intro j p q hp hq
    match j with
    | 0 => simp at hp hq; subst hp hq; decide
    | j + 1 => simp at hq
theorem alive04_sat : Sat Try.prog 33 [] [] (bA true) [] := by
  have a1 := lowD_sat 101 10000 (by decide) (by decide)
  rw [show lowZ 101 10000 = 100 by decide] at a1
  have a2 := highD_sat 0 10000 (by decide) (by decide)
  rw [show highZ 0 10000 = 1 by decide] at a2
  have a3 := slackD_sat 100 10000 (by decide) (by decide)
  rw [show slackZ 100 10000 = 2 by decide] at a3
  have a4 := lowD_err 1 100001 ⟨by decide, by decide⟩ (.inr (by decide))
  have n1 : nearB 20000 (sorted cmpP p2) = true := by rw [sorted_p2]; decide
  have n0 : nearB 19999 (sorted cmpP p2) = false := by rw [sorted_p2]; decide
  have le : Sat Try.prog 37 [.d (.sl 2 (p2.map gR))] [] (.tup [iA 20000, bA true]) [] :=
    least_yes p2 (by decide) ord_p2 20000 (by omega) (fun k hk => by
      cases e : nearB k (sorted cmpP p2) with
      | false => rfl
      | true => rw [near_mono p2 (by omega) e] at n0; cases n0) (fun _ => n1)
  have h1 := honest_yes 20000 p2 (by decide) ⟨by decide, ord_p2, n1⟩
  have h0 := honest_no 19999 p2 (by decide) (fun h => by rw [h.2.2] at n0; cases n0)
  refine sat_of_vc (T := tiOf Try.prog) (E := E0) Try.func33 rfl rfl hE0 hm0 rfl ?_
  conv => whnf
  repeat (any_goals (first
    | exact True.intro
    | (refine Or.inl ?_; conv => whnf)
    | (refine And.intro (fun _ => ?_) tf; conv => whnf)
    | (refine And.intro ft (fun _ => ?_); conv => whnf)
    | (refine And.intro (by kernel_rfl) ?_; conv => whnf)
    | (refine And.intro (by decide) ?_; conv => whnf)
    | (refine And.intro (fun _ => ?_) (fun h => absurd h (by decide)); conv => whnf)
    | (refine And.intro (fun h => absurd h (by decide)) (fun _ => ?_); conv => whnf)
    | (refine And.intro (fun _ => ?_) (fun _ => ?_) <;> conv => whnf)
    | (refine ⟨_, _, a1.pu rfl rfl, ?_⟩; conv => whnf)
    | (refine ⟨_, _, a2.pu rfl rfl, ?_⟩; conv => whnf)
    | (refine ⟨_, _, a3.pu rfl rfl, ?_⟩; conv => whnf)
    | (refine ⟨_, _, a4.pu rfl rfl, ?_⟩; conv => whnf)
    | (refine ⟨_, _, lendO le rfl rfl, ?_⟩; conv => whnf)
    | (refine ⟨_, _, lend_b h1 rfl rfl, ?_⟩; conv => whnf)
    | (refine ⟨_, _, lend_b h0 rfl rfl, ?_⟩; conv => whnf)))
  all_goals try (exfalso; simp only [decide_eq_true_eq, decide_eq_false_iff_not, Bool.not_eq_true', Bool.not_eq_false', Bool.not_eq_true, Bool.not_eq_false, beq_iff_eq, bne_iff_ne, beq_eq_false_iff_ne, bne_eq_false_iff_eq, ne_eq, Decidable.not_not] at *; first | omega | contradiction | (simp_all; done) | (simp_all; omega))
  all_goals refine ⟨[], ?_⟩
  repeat (any_goals (first | exact True.intro | exact rfl | with_reducible_and_instances rfl | exact (by kernel_rfl) | refine And.intro ?_ ?_))
  all_goals conv => whnf
end Go.Proofs.Ytgidaifoiljgoaa
/- clock.Clock.At, by its conditions. -/
namespace Go.Proofs.Ytgidaifoiljgoaa
set_option linter.unusedSimpArgs false
set_option linter.unusedVariables false
open Go.RowKit
set_option maxRecDepth 100000
def atC (s : CSt) (stamp : Int) : (Int × Int) × Nat :=
  if s.list = [] then ((0, 0), 19) else if isT stamp = false then ((0, 0), 11) else
    match s.list.find? (fun x => decide ((atR x stamp s.rho).2 ≠ 0)) with
    | some x => ((0, 0), (atR x stamp s.rho).2)
    | none => meetR (s.list.map fun x => (atR x stamp s.rho).1)
theorem clkAt_sat (s : CSt) (stamp : Int) (hn : s.list.length ≤ 8) : Sat Try.prog 19 [.ptr 0 0, iA stamp] (cH s) (.tup [gA (atC s stamp).1, iA (atC s stamp).2]) (cH s) := by
  have hl : (s.list.map sR).length ≤ 8 := by simpa using hn
  refine sat_of_vc (T := tiOf Try.prog) (E := E0) Try.func19 rfl rfl hE0 hm0 rfl ?_
  conv => whnf
  repeat (any_goals (first
    | exact True.intro
    | (refine Or.inl ?_; conv => whnf)
    | (refine And.intro (fun _ => ?_) tf; conv => whnf)
    | (refine And.intro ft (fun _ => ?_); conv => whnf)
    | (refine And.intro (by kernel_rfl) ?_; conv => whnf)
    | (refine And.intro (by decide) ?_; conv => whnf)
    | (refine And.intro (fun _ => ?_) (fun h => absurd h (by decide)); conv => whnf)
    | (refine And.intro (fun h => absurd h (by decide)) (fun _ => ?_); conv => whnf)
    | (refine And.intro (fun _ => ?_) (fun _ => ?_) <;> conv => whnf)
    | (refine ⟨_, _, (isTime_sat _).pu rfl rfl, ?_⟩; conv => whnf)
    | (refine ⟨_, _, mk0 2 16 (by kernel_rfl) (by omega) (by unfold maxLen; omega), ?_⟩; conv => whnf)))
  all_goals try (exfalso; simp only [decide_eq_true_eq, decide_eq_false_iff_not, Bool.not_eq_true', Bool.not_eq_false', Bool.not_eq_true, Bool.not_eq_false, beq_iff_eq, bne_iff_ne, beq_eq_false_iff_ne, bne_eq_false_iff_eq, ne_eq, Decidable.not_not] at *; first | omega | contradiction | (simp_all; done) | (simp_all; omega))
  · have h0 : s.list = [] := by simp_all
    have hr : atC s stamp = ((0, 0), 19) := by unfold atC; rw [if_pos h0]
    rw [hr]
    all_goals refine ⟨[], ?_⟩
    repeat (any_goals (first | exact True.intro | exact rfl | with_reducible_and_instances rfl | exact (by kernel_rfl) | refine And.intro ?_ ?_))
    all_goals conv => whnf
  · have h0 : s.list ≠ [] := by intro e; simp_all
    have hr : atC s stamp = ((0, 0), 11) := by unfold atC; rw [if_neg h0, if_pos (by simp_all)]
    rw [hr]
    all_goals refine ⟨[], ?_⟩
    repeat (any_goals (first | exact True.intro | exact rfl | with_reducible_and_instances rfl | exact (by kernel_rfl) | refine And.intro ?_ ?_))
    all_goals conv => whnf
  · have h0 : s.list ≠ [] := by intro e; simp_all
    have hst : isT stamp = true := by simp_all
    have hst' := of_decide_eq_true hst
    refine ⟨Nat, fun k => k ≤ s.list.length ∧ (s.list.take k).find? (fun x => decide ((atR x stamp s.rho).2 ≠ 0)) = none, fun k => ([(33, iA k), (32, iA (s.list.map sR).length), (31, .own 1), (6, .own 3), (5, iA 0), (4, .ptr 2 0), (0, .ptr 0 0), (1, iA stamp)], [cR s, .sl 4 (s.list.map sR), .cells [iA 0, iA 0], .sl 2 (((s.list.take k).map fun x => (atR x stamp s.rho).1).map gR)]), fun k => s.list.length - k, ⟨0, ⟨Nat.zero_le _, rfl⟩, ?_⟩, ?_⟩
    · all_goals refine ⟨[], ?_⟩
      repeat (any_goals (first | exact True.intro | exact rfl | with_reducible_and_instances rfl | exact (by kernel_rfl) | refine And.intro ?_ ?_))
      all_goals conv => whnf
    · rintro k ⟨hk, hf⟩
      by_cases hlt : k < s.list.length
      · have hx : s.list[k]? = some s.list[k] := List.getElem?_eq_getElem hlt
        repeat (any_goals (first
          | exact True.intro
          | (refine Or.inl ?_; conv => whnf)
          | (refine And.intro (fun _ => ?_) tf; conv => whnf)
          | (refine And.intro ft (fun _ => ?_); conv => whnf)
          | (refine And.intro (by kernel_rfl) ?_; conv => whnf)
          | (refine And.intro (by decide) ?_; conv => whnf)
          | (refine And.intro (fun _ => ?_) (fun h => absurd h (by decide)); conv => whnf)
          | (refine And.intro (fun h => absurd h (by decide)) (fun _ => ?_); conv => whnf)
          | (refine And.intro (fun _ => ?_) (fun h => absurd h (by simpa using hlt)); conv => whnf)
          | (refine ⟨_, rfl, by simpa using hlt, ?_⟩; conv => whnf)
          | (refine ⟨_, map_get hx, ?_⟩; conv => whnf)
          | (refine And.intro (fun _ => ?_) (fun _ => ?_) <;> conv => whnf)
          | (refine ⟨_, _, (at_sat _ _ _ (by omega) (by omega)).pu rfl rfl, ?_⟩; conv => whnf)
          | (refine ⟨_, _, ap 2 16 (by kernel_rfl) rfl rfl (by simp; unfold maxLen; omega), ?_⟩; conv => whnf)))
        all_goals try (exfalso; simp only [decide_eq_true_eq, decide_eq_false_iff_not, Bool.not_eq_true', Bool.not_eq_false', Bool.not_eq_true, Bool.not_eq_false, beq_iff_eq, bne_iff_ne, beq_eq_false_iff_ne, bne_eq_false_iff_eq, ne_eq, Decidable.not_not] at *; first | omega | contradiction | (simp_all; done) | (simp_all; omega))
        · have hr : atC s stamp = ((0, 0), (atR s.list[k] stamp s.rho).2) := by
            unfold atC
            rw [if_neg h0, if_neg (by simp [hst]), find_hit hf hx (by (try simp only [decide_eq_true_eq, decide_eq_false_iff_not, Bool.not_eq_true', Bool.not_eq_false', Bool.not_eq_true, Bool.not_eq_false, beq_iff_eq, bne_iff_ne, beq_eq_false_iff_ne, bne_eq_false_iff_eq, ne_eq, Decidable.not_not, Int.natCast_eq_zero] at *); first | omega | assumption | (simp_all; done) | (simp_all; omega))]
          rw [hr]
          all_goals refine ⟨[], ?_⟩
          repeat (any_goals (first | exact True.intro | exact rfl | with_reducible_and_instances rfl | exact (by kernel_rfl) | refine And.intro ?_ ?_))
          all_goals conv => whnf
        · repeat (any_goals (first
            | exact True.intro
            | (refine Or.inl ?_; conv => whnf)
            | (refine And.intro (fun _ => ?_) tf; conv => whnf)
            | (refine And.intro ft (fun _ => ?_); conv => whnf)
            | (refine And.intro (by kernel_rfl) ?_; conv => whnf)
            | (refine And.intro (by decide) ?_; conv => whnf)
            | (refine And.intro (fun _ => ?_) (fun h => absurd h (by decide)); conv => whnf)
            | (refine And.intro (fun h => absurd h (by decide)) (fun _ => ?_); conv => whnf)
            | (refine And.intro (fun _ => ?_) (fun _ => ?_) <;> conv => whnf)
            | (refine ⟨_, _, ap 2 16 (by kernel_rfl) rfl rfl (by simp; omega), ?_⟩; conv => whnf)))
          refine ⟨k + 1, ⟨hlt, find_next hf hx (by (try simp only [decide_eq_true_eq, decide_eq_false_iff_not, Bool.not_eq_true', Bool.not_eq_false', Bool.not_eq_true, Bool.not_eq_false, beq_iff_eq, bne_iff_ne, beq_eq_false_iff_ne, bne_eq_false_iff_eq, ne_eq, Decidable.not_not, Int.natCast_eq_zero] at *); first | omega | assumption | (simp_all; done) | (simp_all; omega))⟩, ?_, ?_⟩
          · show s.list.length - (k + 1) < s.list.length - k
            omega
          · all_goals refine ⟨[(3, 7)], ?_⟩
            repeat (any_goals (first | exact True.intro | exact rfl | with_reducible_and_instances rfl | exact (by kernel_rfl) | refine And.intro ?_ ?_))
            all_goals conv => whnf
            · exact wk1 (by omega)
            · rw [map_take_succ hx, List.map_append]; rfl
      · repeat (any_goals (first
          | exact True.intro
          | (refine Or.inl ?_; conv => whnf)
          | (refine And.intro (fun _ => ?_) tf; conv => whnf)
          | (refine And.intro ft (fun _ => ?_); conv => whnf)
          | (refine And.intro (by kernel_rfl) ?_; conv => whnf)
          | (refine And.intro (by decide) ?_; conv => whnf)
          | (refine And.intro (fun _ => ?_) (fun h => absurd h (by decide)); conv => whnf)
          | (refine And.intro (fun h => absurd h (by decide)) (fun _ => ?_); conv => whnf)
          | (refine And.intro (fun h => absurd h (by simpa using hlt)) (fun _ => ?_); conv => whnf)
          | (refine And.intro (fun _ => ?_) (fun _ => ?_) <;> conv => whnf)
          | (refine ⟨_, _, lendO (meet_sat _ (by simp; omega)) rfl rfl, ?_⟩; conv => whnf)))
        have hr : atC s stamp = meetR (s.list.map fun x => (atR x stamp s.rho).1) := by
          unfold atC
          rw [List.take_of_length_le (by omega)] at hf
          rw [if_neg h0, if_neg (by simp [hst]), hf]
        rw [hr]
        have hk' : s.list.take k = s.list := List.take_of_length_le (by omega)
        rw [hk']
        all_goals refine ⟨[], ?_⟩
        repeat (any_goals (first | exact True.intro | exact rfl | with_reducible_and_instances rfl | exact (by kernel_rfl) | refine And.intro ?_ ?_))
        all_goals conv => whnf
end Go.Proofs.Ytgidaifoiljgoaa
