/- Parts ShL, ShE, Vn, ShF, ShG, ShH, ShJ, ShM, CdA, CdB, CdC, CdD, CdE, CdF, CeL, CeM of the proof, put together. -/
import Derived.Test.YtbjmdnemeidpjaaGreatM12
import Derived.RangeFuncNested
import Derived.RangeFuncBound
import Derived.RangeFuncCalls
import Derived.RangeFuncLeaves
import Derived.OwnWalkIn
import Derived.TacticsInMore
import Derived.LoopNIn
import Derived.LoopIn
import Derived.Shelf.SlMaps.Clone
import Derived.Laws.Externs
import Derived.MapKept
import Derived.Stop.RegionWithIn
import Derived.RegionIn
/- The document's shelf: rows; New, Copy, Find, put. -/
namespace Go.Proofs.YtbjmdnemeidpjaaGreat
set_option linter.unusedSimpArgs false
set_option linter.unusedVariables false
open Go.RowKit
set_option maxRecDepth 100000
abbrev Rw := KeyW × Cel
abbrev dO (most : Int) (R : List Rw) : List AObj := [.cells [iA most, .own 1], .sl 74 (R.map outR)]
/-- Where a key's row stands. -/
def findD (R : List Rw) (k : KeyW) : Int := match R.findIdx? fun f => decide (f.1 = k) with
  | some i => (i : Int)
  | none => -1
theorem ix_at {α : Type} {p : α → Bool} : ∀ {l : List α} {k : Nat} {x : α}, (l.take k).findIdx? p = none → l[k]? = some x → p x = true → l.findIdx? p = some k
  | [], _, _, _, h, _ => by cases h
  | y :: l, 0, x, _, h, hp => by
    have : y = x := Option.some.inj h
    subst this
    rw [List.findIdx?_cons, if_pos hp]
  | y :: l, k + 1, x, hn, h, hp => by
    rw [List.take_succ_cons, List.findIdx?_cons] at hn
    by_cases hy : p y = true
    · rw [if_pos hy] at hn; cases hn
    · rw [if_neg hy] at hn
      have := ix_at (p := p) (l := l) (k := k) (x := x) (by simpa using hn) h hp
      rw [List.findIdx?_cons, if_neg hy, this]; rfl
theorem ix_not {α : Type} {p : α → Bool} {l : List α} {k : Nat} {x : α} (hn : (l.take k).findIdx? p = none) (h : l[k]? = some x) (hp : p x = false) : (l.take (k + 1)).findIdx? p = none := by
  rw [List.findIdx?_eq_none_iff] at hn ⊢
  rw [List.take_add_one, h]
  intro y hy
  rcases List.mem_append.1 hy with hy | hy
  · exact hn y hy
  · simp at hy; subst hy; exact hp
theorem dFind_sat (most : Int) (R : List Rw) (hn : R.length ≤ 1000000) (a : Int) (s : ByteArray) : Sat Tryz.prog 12 [.ptr 0 0, iA a, .d (.v (.string s))] (dO most R) (iA (findD R (a, s))) (dO most R) := by
  have hm : (R.map outR).length = R.length := List.length_map _
  refine sat_of_vc (T := tiOf Tryz.prog) (E := E0) Tryz.func12 rfl rfl hE0 hm0 rfl ?_
  conv => whnf
  iterate 2
    repeat' (first | exact True.intro | ((first | refine And.intro (fun _ => ?_) tf | refine And.intro ft (fun _ => ?_) | refine And.intro (by kernel_rfl) ?_ | refine And.intro (by decide) ?_ | refine And.intro (fun _ => ?_) (fun h => absurd h (by decide)) | refine And.intro (fun h => absurd h (by decide)) (fun _ => ?_) | fail); conv => whnf) | (refine And.intro (fun _ => ?_) (fun _ => ?_) <;> conv => whnf) | fail)
    all_goals try (refine Or.inl ?_; conv => whnf)
  refine ⟨Nat, fun k => k ≤ R.length ∧ (R.take k).findIdx? (fun f => decide (f.1 = (a, s))) = none, fun k => ([(7, iA k), (0, .ptr 0 0), (1, iA a), (2, .d (.v (.string s)))], dO most R), fun k => R.length - k, ⟨0, ⟨Nat.zero_le _, rfl⟩, ?_⟩, ?_⟩
  · all_goals refine ⟨[], ?_⟩
    repeat (any_goals (first | exact True.intro | exact rfl | with_reducible_and_instances rfl | exact (by kernel_rfl) | refine And.intro ?_ ?_))
    all_goals conv => whnf
  rintro k ⟨hk, hno⟩
  by_cases hlt : k < R.length
  · have hx : R[k]? = some R[k] := List.getElem?_eq_getElem hlt
    generalize R[k] = f at hx
    obtain ⟨⟨a', s'⟩, x⟩ := f
    have hkr : k < (R.map outR).length := by omega
    conv => whnf
    iterate 4
      repeat' (first | exact True.intro | ((first | refine ⟨k, rfl, hkr, ?_⟩ | refine ⟨_, map_get hx, ?_⟩ | refine And.intro (fun _ => ?_) tf | refine And.intro ft (fun _ => ?_) | refine And.intro (by kernel_rfl) ?_ | refine And.intro (by decide) ?_ | refine And.intro (fun _ => ?_) (fun h => absurd h (by decide)) | refine And.intro (fun h => absurd h (by decide)) (fun _ => ?_) | refine ⟨_, _, eqT, ?_⟩ | fail); conv => whnf) | (refine And.intro (fun _ => ?_) (fun _ => ?_) <;> conv => whnf) | fail)
      all_goals try (refine Or.inl ?_; conv => whnf)
    all_goals try (exfalso; simp only [decide_eq_true_eq, decide_eq_false_iff_not, Bool.not_eq_true', Bool.not_eq_false', Bool.not_eq_true, Bool.not_eq_false, beq_iff_eq, bne_iff_ne, beq_eq_false_iff_ne, bne_eq_false_iff_eq, ne_eq, Decidable.not_not] at *; first | omega | contradiction | (simp_all; done) | (simp_all; omega))
    · have h1 : (a' == a) = true := ‹_›
      have h2 : decide (s' = s) = true := ‹_›
      have h1 := beq_iff_eq.1 h1
      have h2 := of_decide_eq_true h2
      subst h1 h2
      have e : findD R (a', s') = (k : Int) := by unfold findD; rw [ix_at hno hx (by simp)]
      rw [e]
      all_goals refine ⟨[], ?_⟩
      repeat (any_goals (first | exact True.intro | exact rfl | with_reducible_and_instances rfl | exact (by kernel_rfl) | refine And.intro ?_ ?_))
      all_goals conv => whnf
    · have h2 : decide (s' = s) = false := ‹_›
      refine ⟨k + 1, ⟨hlt, ix_not hno hx (decide_eq_false fun e => of_decide_eq_false h2 (by injection e))⟩, show R.length - (k + 1) < R.length - k by omega, ?_⟩
      all_goals refine ⟨[], ?_⟩
      repeat (any_goals (first | exact True.intro | exact rfl | with_reducible_and_instances rfl | exact (by kernel_rfl) | refine And.intro ?_ ?_))
      all_goals conv => whnf
      exact wk1 (by omega)
    · have h1 : (a' == a) = false := ‹_›
      refine ⟨k + 1, ⟨hlt, ix_not hno hx (decide_eq_false fun e => by injection e with e; subst e; simp at h1)⟩, show R.length - (k + 1) < R.length - k by omega, ?_⟩
      all_goals refine ⟨[], ?_⟩
      repeat (any_goals (first | exact True.intro | exact rfl | with_reducible_and_instances rfl | exact (by kernel_rfl) | refine And.intro ?_ ?_))
      all_goals conv => whnf
      exact wk1 (by omega)
  · have hke : k = R.length := by omega
    subst hke
    rw [List.take_length] at hno
    have e : findD R (a, s) = -1 := by unfold findD; rw [hno]
    rw [e]
    conv => whnf
    iterate 3
      repeat' (first | exact True.intro | ((first | refine And.intro (fun _ => ?_) tf | refine And.intro ft (fun _ => ?_) | refine And.intro (by kernel_rfl) ?_ | refine And.intro (by decide) ?_ | refine And.intro (fun _ => ?_) (fun h => absurd h (by decide)) | refine And.intro (fun h => absurd h (by decide)) (fun _ => ?_) | fail); conv => whnf) | (refine And.intro (fun _ => ?_) (fun _ => ?_) <;> conv => whnf) | fail)
      all_goals try (refine Or.inl ?_; conv => whnf)
    all_goals try (exfalso; simp only [decide_eq_true_eq, decide_eq_false_iff_not, Bool.not_eq_true', Bool.not_eq_false', Bool.not_eq_true, Bool.not_eq_false, beq_iff_eq, bne_iff_ne, beq_eq_false_iff_ne, bne_eq_false_iff_eq, ne_eq, Decidable.not_not] at *; first | omega | contradiction | (simp_all; done) | (simp_all; omega))
    all_goals refine ⟨[], ?_⟩
    repeat (any_goals (first | exact True.intro | exact rfl | with_reducible_and_instances rfl | exact (by kernel_rfl) | refine And.intro ?_ ?_))
    all_goals conv => whnf
/-! ### rows of 74 words -/
theorem sRw : (tiOf Tryz.prog 52).size = 74 := by kernel_rfl
theorem zeR : List.map D.v (tiOf Tryz.prog 52).zero = outR ((0, ⟨#[]⟩), zC) := by kernel_rfl
theorem out_fits {x y : Rw} (h : x.2.h.length = 65) (g : y.2.h.length = 65) : 0 + (outR x).length ≤ (outR y).length := by rw [outR_len h, outR_len g]; omega
theorem out_sets {x y : Rw} (h : x.2.h.length = 65) (g : y.2.h.length = 65) : sets (outR y) 0 (outR x) = outR x := by
  rw [sets_eq _ _ _ (by rw [outR_len h, outR_len g]; omega), List.drop_of_length_le (by rw [outR_len h, outR_len g]; omega)]
  simp
theorem out_take0 {x : Rw} {k : Nat} (hk : k = 74) (h : x.2.h.length = 65) : ((outR x).drop 0).take k = outR x := out_take hk h
theorem out_le {x : Rw} (h : x.2.h.length = 65) : 0 + (outR x).length ≤ 74 := by rw [outR_len h]; omega
theorem out_lec {x : Cel} (h : x.h.length = 65) : 0 + 2 + (cR x).length ≤ 74 := by rw [cR_len h]; omega
theorem rw_fit {x : Rw} (h : x.2.h.length = 65) : 0 + (outR x).length ≤ (List.map D.v (tiOf Tryz.prog 52).zero).length := by rw [zeR]; exact out_fits h rfl
theorem rw_set {x : Rw} (h : x.2.h.length = 65) : sets (List.map D.v (tiOf Tryz.prog 52).zero) 0 (outR x) = outR x := by rw [zeR]; exact out_sets h rfl
theorem out_fitc {x : Cel} {y : Rw} (h : x.h.length = 65) (g : y.2.h.length = 65) : 0 + 2 + (cR x).length ≤ (outR y).length := by rw [outR_len g, cR_len h]; omega
theorem out_setc {x : Cel} {y : Rw} (h : x.h.length = 65) (g : y.2.h.length = 65) : sets (outR y) (0 + 2) (cR x) = outR (y.1, x) := by
  show sets (kyR y.1 ++ cR y.2) 2 (cR x) = kyR y.1 ++ cR x
  rw [sets_eq _ _ _ (by rw [List.length_append, cR_len g, cR_len h]; simp), List.drop_of_length_le (by rw [List.length_append, cR_len g, cR_len h]; simp)]
  simp
theorem build_row {k : KeyW} {x : Cel} (h : x.h.length = 65) : sets (sets (sets (List.map D.v (tiOf Tryz.prog 52).zero) 0 [iD k.1]) 1 [.v (.string k.2)]) 2 (cR x) = outR (k, x) := by
  rw [zeR]
  show sets (kyR k ++ cR zC) 2 (cR x) = kyR k ++ cR x
  have hz : (cR zC).length = 72 := cR_len rfl
  rw [sets_eq _ _ _ (by rw [List.length_append, hz, cR_len h]; simp), List.drop_of_length_le (by rw [List.length_append, hz, cR_len h]; simp)]
  simp
theorem build_row0 {k : KeyW} : sets (sets (List.map D.v (tiOf Tryz.prog 52).zero) 0 [iD k.1]) 1 [.v (.string k.2)] = outR (k, zC) := by
  rw [zeR]; rfl
abbrev dN (most : Int) : AObj := .cells [iA most, .d (.v (.slice none 0 0))]
theorem dNew_ok (most : Int) (h : 1 ≤ most) (h' : most ≤ 1024) : Sat Tryz.prog 8 [iA most] [] (.tup [.ptr 0 0, iA 0]) [dN most] := by
  refine sat_of_vc (T := tiOf Tryz.prog) (E := E0) Tryz.func8 rfl rfl hE0 hm0 rfl ?_
  conv => whnf
  iterate 3
    repeat' (first | exact True.intro | ((first | refine And.intro (fun _ => ?_) tf | refine And.intro ft (fun _ => ?_) | refine And.intro (by kernel_rfl) ?_ | refine And.intro (by decide) ?_ | refine And.intro (fun _ => ?_) (fun h => absurd h (by decide)) | refine And.intro (fun h => absurd h (by decide)) (fun _ => ?_) | fail); conv => whnf) | (refine And.intro (fun _ => ?_) (fun _ => ?_) <;> conv => whnf) | fail)
    all_goals try (exfalso; simp only [decide_eq_true_eq, decide_eq_false_iff_not, Bool.not_eq_true', Bool.not_eq_false', Bool.not_eq_true, Bool.not_eq_false, beq_iff_eq, bne_iff_ne, beq_eq_false_iff_ne, bne_eq_false_iff_eq, ne_eq, Decidable.not_not] at *; first | omega | contradiction | (simp_all; done) | (simp_all; omega))
    all_goals try (refine Or.inl ?_; conv => whnf)
  all_goals refine ⟨[], ?_⟩
  repeat (any_goals (first | exact True.intro | exact rfl | with_reducible_and_instances rfl | exact (by kernel_rfl) | refine And.intro ?_ ?_))
  all_goals conv => whnf
theorem dNew_err (most : Int) (h : most < 1 ∨ 1024 < most) : Sat Tryz.prog 8 [iA most] [] (.tup [.d (.v (.pointer none)), iA 11]) [] := by
  refine sat_of_vc (T := tiOf Tryz.prog) (E := E0) Tryz.func8 rfl rfl hE0 hm0 rfl ?_
  conv => whnf
  iterate 3
    repeat' (first | exact True.intro | ((first | refine And.intro (fun _ => ?_) tf | refine And.intro ft (fun _ => ?_) | refine And.intro (by kernel_rfl) ?_ | refine And.intro (by decide) ?_ | refine And.intro (fun _ => ?_) (fun h => absurd h (by decide)) | refine And.intro (fun h => absurd h (by decide)) (fun _ => ?_) | fail); conv => whnf) | (refine And.intro (fun _ => ?_) (fun _ => ?_) <;> conv => whnf) | fail)
    all_goals try (exfalso; simp only [decide_eq_true_eq, decide_eq_false_iff_not, Bool.not_eq_true', Bool.not_eq_false', Bool.not_eq_true, Bool.not_eq_false, beq_iff_eq, bne_iff_ne, beq_eq_false_iff_ne, bne_eq_false_iff_eq, ne_eq, Decidable.not_not] at *; first | omega | contradiction | (simp_all; done) | (simp_all; omega))
    all_goals try (refine Or.inl ?_; conv => whnf)
  all_goals refine ⟨[], ?_⟩
  repeat (any_goals (first | exact True.intro | exact rfl | with_reducible_and_instances rfl | exact (by kernel_rfl) | refine And.intro ?_ ?_))
  all_goals conv => whnf
theorem dCopy_sat (most : Int) (R : List Rw) (hn : R.length ≤ 100000) : Sat Tryz.prog 39 [.ptr 0 0] (dO most R) (.ptr 4 0) [.cells [iA most, .own 1], .sl 74 (R.map outR), .dead, .sl 74 (R.map outR), .cells [iA most, .own 3]] := by
  have hm : (R.map outR).length = R.length := List.length_map _
  refine sat_of_vc (T := tiOf Tryz.prog) (E := E0) Tryz.func39 rfl rfl hE0 hm0 rfl ?_
  conv => whnf
  iterate 2
    repeat' (first | exact True.intro | ((first | refine And.intro (fun _ => ?_) tf | refine And.intro ft (fun _ => ?_) | refine And.intro (by kernel_rfl) ?_ | refine And.intro (by decide) ?_ | refine And.intro (fun _ => ?_) (fun h => absurd h (by decide)) | refine And.intro (fun h => absurd h (by decide)) (fun _ => ?_) | refine ⟨_, _, ap 74 600 (by kernel_rfl) rfl rfl (by simp; omega), ?_⟩ | fail); conv => whnf) | (refine And.intro (fun _ => ?_) (fun _ => ?_) <;> conv => whnf) | fail)
    all_goals try (refine Or.inl ?_; conv => whnf)
  all_goals refine ⟨[], ?_⟩
  repeat (any_goals (first | exact True.intro | exact rfl | with_reducible_and_instances rfl | exact (by kernel_rfl) | refine And.intro ?_ ?_))
  all_goals conv => whnf
/-! ### put -/
instance ltK_dec (a b : KeyW) : Decidable (ltK a b) := by unfold ltK; infer_instance
def SoD (R : List Rw) : Prop := R.Pairwise fun a b => ltK a.1 b.1
def befD (x : KeyW) (y : Rw) : Bool := !decide (ltK x y.1)
/-- A row more, in its place. -/
def insD (R : List Rw) (x : Rw) : List Rw := R.takeWhile (befD x.1) ++ x :: R.dropWhile (befD x.1)
theorem take_while {α : Type} (p : α → Bool) : ∀ (l : List α), l.take (l.takeWhile p).length = l.takeWhile p ∧ l.drop (l.takeWhile p).length = l.dropWhile p
  | [] => ⟨rfl, rfl⟩
  | a :: l => by
    cases h : p a with
    | true =>
      rw [List.takeWhile_cons, h, List.dropWhile_cons, h]
      have := take_while p l
      simp only [if_true, List.length_cons, List.take_succ_cons, List.drop_succ_cons]
      exact ⟨by rw [this.1], this.2⟩
    | false => rw [List.takeWhile_cons, h, List.dropWhile_cons, h]; simp
theorem cut_le {α : Type} (p : α → Bool) (l : List α) : (l.takeWhile p).length ≤ l.length := (List.takeWhile_prefix p).length_le
theorem cut_before {R : List Rw} {x : KeyW} {j : Nat} {y : Rw} (hj : j < (R.takeWhile (befD x)).length) (hy : R[j]? = some y) : ¬ ltK x y.1 := by
  have h1 : (R.takeWhile (befD x))[j]? = some y := by
    rw [← (take_while (befD x) R).1, List.getElem?_take_of_lt hj]; exact hy
  have := List.all_eq_true.1 (List.all_takeWhile (p := befD x) (l := R)) _ (List.mem_of_getElem? h1)
  unfold befD at this
  simpa using this
theorem cut_behind {R : List Rw} (hs : SoD R) {x : KeyW} {j : Nat} {y : Rw} (hj : (R.takeWhile (befD x)).length ≤ j) (hy : R[j]? = some y) : ltK x y.1 := by
  have h1 : (R.dropWhile (befD x))[j - (R.takeWhile (befD x)).length]? = some y := by
    rw [← (take_while (befD x) R).2, List.getElem?_drop, show (R.takeWhile (befD x)).length + (j - (R.takeWhile (befD x)).length) = j by omega]; exact hy
  have hs2 : (R.dropWhile (befD x)).Pairwise fun a b => ltK a.1 b.1 := hs.sublist (List.dropWhile_suffix _).sublist
  cases hd : R.dropWhile (befD x) with
  | nil => rw [hd] at h1; simp at h1
  | cons a r =>
    rw [hd] at h1 hs2
    have ha : ltK x a.1 := by
      have := List.head?_dropWhile_not (befD x) R
      rw [hd] at this
      have this : befD x a = false := by simpa using this
      unfold befD at this
      simpa using this
    rcases List.mem_cons.1 (List.mem_of_getElem? h1) with e | e
    · rw [e]; exact ha
    · exact ltK_trans ha ((List.pairwise_cons.1 hs2).1 y e)
/-- The rows on the way: the place k is a double. -/
def midD (R : List Rw) (x : Rw) (k : Nat) : List Rw := R.take k ++ ((R ++ [x])[k]?.getD x) :: R.drop k
theorem midD_end (R : List Rw) (x : Rw) : midD R x R.length = R ++ [x] := by
  unfold midD
  rw [List.take_length, List.drop_length, List.getElem?_append_right (Nat.le_refl _), Nat.sub_self]; rfl
theorem midD_len (R : List Rw) (x : Rw) {k : Nat} (hk : k ≤ R.length) : (midD R x k).length = R.length + 1 := by
  unfold midD
  rw [List.length_append, List.length_cons, List.length_take, List.length_drop]; omega
theorem midD_at {R : List Rw} {x : Rw} {k : Nat} {y : Rw} (hy : R[k]? = some y) : (midD R x (k + 1))[k]? = some y := by
  have hl := (List.getElem?_eq_some_iff.1 hy).1
  unfold midD
  rw [List.getElem?_append_left (by rw [List.length_take]; omega), List.getElem?_take_of_lt (by omega)]; exact hy
theorem midD_set {R : List Rw} {x : Rw} {k : Nat} {y : Rw} (hy : R[k]? = some y) : (midD R x (k + 1)).set (k + 1) y = midD R x k := by
  have hl := (List.getElem?_eq_some_iff.1 hy).1
  have e1 : (R ++ [x])[k]?.getD x = y := by rw [List.getElem?_append_left hl, hy]; rfl
  unfold midD
  rw [e1]
  have h2 : (R.take (k + 1)).length = k + 1 := by rw [List.length_take]; omega
  rw [List.set_append_right _ _ (by omega), h2, Nat.sub_self]
  show R.take (k + 1) ++ y :: R.drop (k + 1) = _
  have h3 : R.drop k = y :: R.drop (k + 1) := by rw [List.drop_eq_getElem_cons hl]; congr 1; exact (List.getElem?_eq_some_iff.1 hy).2
  rw [h3, List.take_add_one, hy, List.append_assoc]; rfl
theorem midD_put {R : List Rw} {x : Rw} {k : Nat} (hk : k ≤ R.length) : (midD R x k).set k x = R.take k ++ x :: R.drop k := by
  unfold midD
  have h2 : (R.take k).length = k := by rw [List.length_take]; omega
  rw [List.set_append_right _ _ (by omega), h2, Nat.sub_self]; rfl
theorem insD_eq (R : List Rw) (x : Rw) : insD R x = R.take (R.takeWhile (befD x.1)).length ++ x :: R.drop (R.takeWhile (befD x.1)).length := by
  unfold insD; rw [(take_while (befD x.1) R).1, (take_while (befD x.1) R).2]
theorem midD_mem {R : List Rw} {x z : Rw} {k : Nat} (h : z ∈ midD R x k) : z ∈ R ∨ z = x := by
  unfold midD at h
  rcases List.mem_append.1 h with h | h
  · exact .inl (List.mem_of_mem_take h)
  · rcases List.mem_cons.1 h with h | h
    · cases hq : (R ++ [x])[k]? with
      | none => rw [hq] at h; exact .inr h
      | some y =>
        rw [hq] at h
        rcases List.mem_append.1 (List.mem_of_getElem? hq) with q | q
        · exact .inl (by rw [h]; exact q)
        · exact .inr (by rw [h]; exact List.mem_singleton.1 q)
    · exact .inl (List.mem_of_mem_drop h)
theorem gt_yes {x y : KeyW} (h : ltK x y) (h1 : decide (y.1 > x.1) = false) (h2 : (y.1 == x.1) = false) : False := by
  simp at h1 h2
  rcases h with h | h
  · omega
  · exact h2 h.1.symm
theorem gt_yes2 {x y : KeyW} (h : ltK x y) (h1 : decide (y.1 > x.1) = false) (h3 : decide (x.2.toList < y.2.toList) = false) : False := by
  simp at h1
  rcases h with h | h
  · omega
  · exact of_decide_eq_false h3 h.2
theorem gt_no {x y : KeyW} (h : ¬ ltK x y) (h1 : decide (y.1 > x.1) = true) : False := h (.inl (of_decide_eq_true h1))
theorem gt_no2 {x y : KeyW} (h : ¬ ltK x y) (h2 : (y.1 == x.1) = true) (h3 : decide (x.2.toList < y.2.toList) = true) : False := h (.inr ⟨(beq_iff_eq.1 h2).symm, of_decide_eq_true h3⟩)
theorem at_w {x : Rw} : (outR x).drop (0 + 0) = iD x.1.1 :: (outR x).drop 1 := rfl
theorem at_s {x : Rw} : (outR x).drop (0 + 1) = .v (.string x.1.2) :: (outR x).drop 2 := rfl
theorem w_pred (q : Nat) (h : q ≤ 1000000) : IntKind.i64.wrap (((q + 1 : Nat) : Int) - 1) = (q : Int) := by rw [wi (by omega) (by omega)]; omega
set_option maxHeartbeats 8000000 in
theorem dPut_sat (most : Int) (R : List Rw) (x : Rw) (hn : R.length ≤ 100000) (hs : SoD R) (hx : x.2.h.length = 65) (hR : ∀ y ∈ R, y.2.h.length = 65) : Sat Tryz.prog 40 [.ptr 0 0, .d (.agg (outR x))] (dO most R) (.tup []) [.cells [iA most, .own 2], .dead, .sl 74 ((insD R x).map outR)] := by
  have hm : (R.map outR).length = R.length := List.length_map _
  have hKl := cut_le (befD x.1) R
  rw [insD_eq]
  obtain ⟨K, hK⟩ : ∃ K, (R.takeWhile (befD x.1)).length = K := ⟨_, rfl⟩
  have hbe := fun (j : Nat) (y : Rw) (hj : j < (R.takeWhile (befD x.1)).length) (hy : R[j]? = some y) => cut_before hj hy
  have hbh := fun (j : Nat) (y : Rw) (hj : (R.takeWhile (befD x.1)).length ≤ j) (hy : R[j]? = some y) => cut_behind hs hj hy
  rw [hK] at hKl hbe hbh ⊢
  refine sat_of_vc (T := tiOf Tryz.prog) (E := E0) Tryz.func40 rfl rfl hE0 hm0 rfl ?_
  conv => whnf
  iterate 3
    repeat' (first | exact True.intro | ((first | refine ⟨_, drop_id, ?_⟩ | refine ⟨_, out_take s113 hx, out_lens s113 hx, ?_⟩ | refine ⟨_, out_take0 s113 hx, out_lens s113 hx, ?_⟩ | refine And.intro (out_lens s113 hx) ?_ | refine ⟨_, out_take sRw hx, out_lens sRw hx, ?_⟩ | refine ⟨_, out_take0 sRw hx, out_lens sRw hx, ?_⟩ | refine And.intro (out_lens sRw hx) ?_ | refine And.intro (out_le hx) ?_ | refine And.intro (out_fit hx) ?_ | refine And.intro (rw_fit hx) ?_ | refine ⟨_, out_set hx, ?_⟩ | refine ⟨_, rw_set hx, ?_⟩ | refine ⟨_, out_key s62 (x := _), rfl, ?_⟩ | refine ⟨_, out_cell sC hx, clen sC hx, ?_⟩ | refine ⟨_, out_cell sF hx, clen sF hx, ?_⟩ | refine And.intro (out_fits hx hx) ?_ | refine ⟨_, out_sets hx hx, ?_⟩ | refine And.intro (out_fitc hx hx) ?_ | refine ⟨_, out_setc hx hx, ?_⟩ | refine And.intro (fun _ => ?_) tf | refine And.intro ft (fun _ => ?_) | refine And.intro (by kernel_rfl) ?_ | refine And.intro (by decide) ?_ | refine And.intro (fun _ => ?_) (fun h => absurd h (by decide)) | refine And.intro (fun h => absurd h (by decide)) (fun _ => ?_) | refine ⟨_, _, ap 74 600 (by kernel_rfl) rfl rfl (by simp; omega), ?_⟩ | fail); conv => whnf) | (refine And.intro (fun _ => ?_) (fun _ => ?_) <;> conv => whnf) | fail)
    all_goals try (refine Or.inl ?_; conv => whnf)
  refine ⟨Nat, fun k => K ≤ k ∧ k ≤ R.length, fun k => ([(4, iA k), (3, .ptr 2 0), (0, .ptr 0 0)], [.cells [iA most, .own 3], .dead, .row (outR x), .sl 74 ((midD R x k).map outR)]), fun k => k, ⟨R.length, ⟨hKl, Nat.le_refl _⟩, ?_⟩, ?_⟩
  · all_goals refine ⟨[(3, 6)], ?_⟩
    repeat (any_goals (first | exact True.intro | exact rfl | with_reducible_and_instances rfl | exact (by kernel_rfl) | refine And.intro ?_ ?_))
    all_goals conv => whnf
    · rw [hm]
    · rw [midD_end, List.map_append]; rfl
  rintro k ⟨hk, hkl⟩
  replace hk : K ≤ k := hk
  replace hkl : k ≤ R.length := hkl
  have hml : ((midD R x k).map outR).length = R.length + 1 := by rw [List.length_map, midD_len R x hkl]
  have hkm : k < ((midD R x k).map outR).length := by omega
  obtain ⟨z, hzk⟩ : ∃ z, (midD R x k)[k]? = some z := ⟨_, List.getElem?_eq_getElem (by rw [midD_len R x hkl]; omega)⟩
  have hzl : z.2.h.length = 65 := (midD_mem (List.mem_of_getElem? hzk)).elim (hR _) fun e => by rw [e]; exact hx
  cases k with
  | zero =>
    have hkK : 0 = K := by omega
    subst hkK
    conv => whnf
    iterate 4
      repeat' (first | exact True.intro | ((first | refine ⟨0, rfl, hkm, ?_⟩ | refine ⟨_, _, map_get hzk, out_sets hx hzl, ?_⟩ | refine ⟨_, drop_id, ?_⟩ | refine ⟨_, out_take s113 hx, out_lens s113 hx, ?_⟩ | refine ⟨_, out_take0 s113 hx, out_lens s113 hx, ?_⟩ | refine And.intro (out_lens s113 hx) ?_ | refine ⟨_, out_take sRw hx, out_lens sRw hx, ?_⟩ | refine ⟨_, out_take0 sRw hx, out_lens sRw hx, ?_⟩ | refine And.intro (out_lens sRw hx) ?_ | refine And.intro (out_le hx) ?_ | refine And.intro (out_fit hx) ?_ | refine And.intro (rw_fit hx) ?_ | refine ⟨_, out_set hx, ?_⟩ | refine ⟨_, rw_set hx, ?_⟩ | refine ⟨_, out_key s62 (x := _), rfl, ?_⟩ | refine ⟨_, out_cell sC hx, clen sC hx, ?_⟩ | refine ⟨_, out_cell sF hx, clen sF hx, ?_⟩ | refine And.intro (out_fits hx hx) ?_ | refine ⟨_, out_sets hx hx, ?_⟩ | refine And.intro (out_fitc hx hx) ?_ | refine ⟨_, out_setc hx hx, ?_⟩ | refine And.intro (fun _ => ?_) tf | refine And.intro ft (fun _ => ?_) | refine And.intro (by kernel_rfl) ?_ | refine And.intro (by decide) ?_ | refine And.intro (fun _ => ?_) (fun h => absurd h (by decide)) | refine And.intro (fun h => absurd h (by decide)) (fun _ => ?_) | fail); conv => whnf) | (refine And.intro (fun _ => ?_) (fun _ => ?_) <;> conv => whnf) | fail)
      all_goals try (refine Or.inl ?_; conv => whnf)
    all_goals refine ⟨[(2, 3)], ?_⟩
    repeat (any_goals (first | exact True.intro | exact rfl | with_reducible_and_instances rfl | exact (by kernel_rfl) | refine And.intro ?_ ?_))
    all_goals conv => whnf
  | succ q =>
    have hyq : R[q]? = some R[q] := List.getElem?_eq_getElem (by omega)
    generalize R[q] = y at hyq
    have hyl := hR y (List.mem_of_getElem? hyq)
    have hno := fun (h : q + 1 = K) => hbe q y (by omega) hyq
    have hyes := fun (h : ¬ q + 1 = K) => hbh q y (by omega) hyq
    have hg := map_get (f := outR) (midD_at (x := x) hyq)
    have hqm : q < ((midD R x (q + 1)).map outR).length := by omega
    have hw := w_pred q (by omega)
    have hset := midD_set (x := x) hyq
    have hput := midD_put (x := x) hkl
    conv => whnf
    iterate 6
      repeat' (first | exact True.intro | ((first | refine ⟨q, hw, hqm, ?_⟩ | refine ⟨_, hg, ?_⟩ | refine ⟨q + 1, rfl, hkm, ?_⟩ | refine ⟨_, _, map_get hzk, out_sets hx hzl, ?_⟩ | refine ⟨_, _, map_get hzk, out_sets hyl hzl, ?_⟩ | refine ⟨_, _, at_w, ?_⟩ | refine ⟨_, _, at_s, ?_⟩ | refine ⟨_, drop_id, ?_⟩ | refine ⟨_, out_take0 sRw hx, out_lens sRw hx, ?_⟩ | refine ⟨_, out_take sRw hyl, out_lens sRw hyl, ?_⟩ | refine And.intro (out_lens sRw hx) ?_ | refine And.intro (out_lens sRw hyl) ?_ | refine And.intro (out_le hx) ?_ | refine And.intro (out_le hyl) ?_ | refine And.intro (fun _ => ?_) tf | refine And.intro ft (fun _ => ?_) | refine And.intro (by kernel_rfl) ?_ | refine And.intro (by decide) ?_ | refine And.intro (fun _ => ?_) (fun h => absurd h (by decide)) | refine And.intro (fun h => absurd h (by decide)) (fun _ => ?_) | refine ⟨_, _, gtT, ?_⟩ | refine ⟨_, _, eqT, ?_⟩ | fail); conv => whnf) | (refine And.intro (fun _ => ?_) (fun _ => ?_) <;> conv => whnf) | fail)
      all_goals try (refine Or.inl ?_; conv => whnf)
    · have hkK : ¬ q + 1 = K := fun h => gt_no2 (hno h) ‹(y.1.1 == x.1.1) = true› ‹decide (x.1.2.toList < y.1.2.toList) = true›
      refine ⟨q, ⟨by omega, by omega⟩, show q < q + 1 by omega, ?_⟩
      all_goals refine ⟨[], ?_⟩
      repeat (any_goals (first | exact True.intro | exact rfl | with_reducible_and_instances rfl | exact (by kernel_rfl) | refine And.intro ?_ ?_))
      all_goals conv => whnf
      · rw [hw]
      · rw [← List.map_set, hset]
    · have hkK : q + 1 = K := Decidable.byContradiction fun h => gt_yes2 (hyes h) ‹decide (y.1.1 > x.1.1) = false› ‹decide (x.1.2.toList < y.1.2.toList) = false›
      subst hkK
      all_goals refine ⟨[(2, 3)], ?_⟩
      repeat (any_goals (first | exact True.intro | exact rfl | with_reducible_and_instances rfl | exact (by kernel_rfl) | refine And.intro ?_ ?_))
      all_goals conv => whnf
      rw [← List.map_set, hput]
    · have hkK : q + 1 = K := Decidable.byContradiction fun h => gt_yes (hyes h) ‹decide (y.1.1 > x.1.1) = false› ‹(y.1.1 == x.1.1) = false›
      subst hkK
      all_goals refine ⟨[(2, 3)], ?_⟩
      repeat (any_goals (first | exact True.intro | exact rfl | with_reducible_and_instances rfl | exact (by kernel_rfl) | refine And.intro ?_ ?_))
      all_goals conv => whnf
      rw [← List.map_set, hput]
    · have hkK : ¬ q + 1 = K := fun h => gt_no (hno h) ‹decide (y.1.1 > x.1.1) = true›
      refine ⟨q, ⟨by omega, by omega⟩, show q < q + 1 by omega, ?_⟩
      all_goals refine ⟨[], ?_⟩
      repeat (any_goals (first | exact True.intro | exact rfl | with_reducible_and_instances rfl | exact (by kernel_rfl) | refine And.intro ?_ ?_))
      all_goals conv => whnf
      · rw [hw]
      · rw [← List.map_set, hset]
    · exact (bno (decide_eq_true (show ((q + 1 : Nat) : Int) > 0 by omega)) ‹_›).elim
end Go.Proofs.YtbjmdnemeidpjaaGreat
/- shelf: the keys of a map, one after the other. -/
namespace Go.Proofs.YtbjmdnemeidpjaaGreat
open Go.RowKit Go.Sort
set_option linter.unusedVariables false
set_option linter.unusedSimpArgs false
/-! ### operations of a range over a map, inside of a fence -/
section
variable {P : Program} {F : Fence} {n : Nat} {w : World} {ops : Array Oper} {rest : List Oper} {op : Oper} {a : Act} {Q : Exit → Act → World → Prop} {κ ν : Type} [DecidableEq κ] {ek : κ → D} {ev : ν → D} {m : Es κ ν} {c : Nat} {t kt et : TypeId}
theorem wpListIn_range_mp {b : Nat} {x : Operand} (hgd : op.guard = none) (ho : op.op = .range t x) (hx : a.eval x = .map (some b)) (ht : P.underlying t = some (.map kt et)) {es : Array MapEntry} (hb : w.heap[b]? = some (.map es c))
    (h : wpListIn F n P ops Q rest (a.put op.dst (.pointer (some ⟨w.heap.size, 0, none⟩))) (w.alloc (.mapIter (some b) c #[] c))) : wpListIn F n P ops Q (op :: rest) a w :=
  wpListIn_plain hgd fun _ hK => by
    refine ⟨fun f hf => by simp [Oper.about, ho] at hf, ?_⟩
    rw [Oper.semAt_eq _ _ _ (fun c h => by rw [ho] at h; cases h)]
    have hg := MapKept.run_getObj_map (P := P) hb
    have hr : (execOp a.eval op).run P w = .ok (.value (.pointer (some ⟨w.heap.size, 0, none⟩))) (w.alloc (.mapIter (some b) c #[] c)) := by
      simp only [execOp, ho, hx, Instr.range, Sem.run_bind, run_underlying ht, hg, Result.andThen_ok]
      rfl
    rw [hr]
    exact hK _ _ h
theorem wpListIn_next_ok {it : Operand} {x v : Value} {w1 : World} (hgd : op.guard = none) (ho : op.op = .next it false) (hx : a.eval it = x) (hr : (Instr.next x false op.type).run P w = .ok v w1)
    (h : wpListIn F n P ops Q rest (a.put op.dst v) w1) : wpListIn F n P ops Q (op :: rest) a w :=
  wpListIn_plain hgd fun _ hK => by
    refine ⟨fun f hf => by simp [Oper.about, ho] at hf, ?_⟩
    rw [Oper.semAt_eq _ _ _ (fun c h => by rw [ho] at h; cases h)]
    have hrun : (execOp a.eval op).run P w = .ok (.value v) w1 := by
      simp only [execOp, ho, hx, Sem.run_bind, hr, Result.andThen_ok]
      rfl
    rw [hrun]
    exact hK _ _ h
omit [DecidableEq κ] in
theorem wpListIn_entry_mp {g b since : Nat} {seen : List Nat} {it : Operand} (hgd : op.guard = none) (ho : op.op = .entry it) (hx : a.eval it = .pointer (some ⟨g, 0, none⟩)) {p : κ × ν × Nat} (hp : (m.find? fun q => q.2.2 == p.2.2) = some p) (q2 : w.heap[g]? = some (.mapIter (some b) since (seen ++ [p.2.2]).toArray c)) (q4 : w.heap[b]? = some (.map (m.map (entryOf ek ev)).toArray c)) {vk vv : Value} (hvk : vOf (ek p.1) = vk) (hvv : vOf (ev p.2.1) = vv)
    (h : wpListIn F n P ops Q rest (a.put op.dst (.tuple #[vk, vv])) w) : wpListIn F n P ops Q (op :: rest) a w :=
  wpListIn_plain hgd fun _ hK => by
    subst hvk hvv
    refine ⟨fun f hf => by simp [Oper.about, ho] at hf, ?_⟩
    rw [Oper.semAt_eq _ _ _ (fun c h => by rw [ho] at h; cases h)]
    have hg1 : (getObj g).run P w = .ok (.mapIter (some b) since (seen ++ [p.2.2]).toArray c) w := by simp [getObj, Sem.run, q2]
    have hg2 := MapKept.run_getObj_map (P := P) q4
    have hb : (seen ++ [p.2.2]).toArray.back? = some p.2.2 := by simp
    have hf : (m.map (entryOf ek ev)).toArray.find? (fun e => e.born == p.2.2) = some (entryOf ek ev p) := by
      rw [List.find?_toArray, List.find?_map]
      rw [show ((fun e : MapEntry => e.born == p.2.2) ∘ entryOf ek ev) = fun q => q.2.2 == p.2.2 from rfl, hp]
      rfl
    have hrun : (execOp a.eval op).run P w = .ok (.value (.tuple #[vOf (ek p.1), vOf (ev p.2.1)])) w := by
      simp only [execOp, ho, hx, Instr.entry, Sem.run_bind, hg1, hg2, Result.andThen_ok, hb, hf]
      simp [entryOf]
    rw [hrun]
    exact hK _ _ h
end
def clW (c : Cel) : Array Value := ((cR c).map unD).toArray
theorem ky_cl (x : KeyZ) : closedD (kyD x) = true := rfl
/-- A map's entries bear numbers of their own, below its clock. -/
def fresh (m : Sh) (c : Nat) : Prop := (m.map (·.2.2)).Nodup ∧ ∀ p ∈ m, p.2.2 < c
theorem find_born {m : Sh} {c : Nat} (h : fresh m c) {p : KeyZ × Cel × Nat} (hp : p ∈ m) : (m.find? fun q => q.2.2 == p.2.2) = some p := by
  have hn := h.1
  clear h
  induction m with
  | nil => simp at hp
  | cons q m ih =>
    rw [List.map_cons, List.nodup_cons] at hn
    rw [List.find?_cons]
    rcases List.mem_cons.1 hp with e | e
    · subst e; simp
    · have : (q.2.2 == p.2.2) = false := by
        rw [beq_eq_false_iff_ne]
        intro e2
        exact hn.1 (by rw [e2]; exact List.mem_map.2 ⟨p, e, rfl⟩)
      rw [this]
      exact ih e hn.2
/-- What an iterator over a map sees. -/
def SeesM (m : Sh) (c b bm : Nat) (w : World) : Prop := w.cell? ⟨b, 0, none⟩ = some (.map (some bm)) ∧ w.heap[bm]? = some (.map (m.map (entryOf kyD cD)).toArray c)
theorem sees_map {m : Sh} {c : Nat} {Lc : List AObj} {i j : Nat} (hi : Lc[i]? = some (.cells [.mp j])) (hj : Lc[j]? = some (mapO kyD cD m c)) {us vs : List Value} {ρ0 : Nat → Option Value} {w : World}
    (h : ∃ F ρ H, Env F ρ H w ∧ (∀ (i : Nat) o, Lc[i]? = some o → o.live = true → H i = some o ∧ ∃ h, ρ0 i = some h ∧ ρ i = some h) ∧ RAs w F ρ [] us ∧ RAs w F ρ [.ptr i 0] vs) :
    us = [] ∧ ∃ b bm, vs = [.pointer (some ⟨b, 0, none⟩)] ∧ ρ0 j = some (.map (some bm)) ∧ SeesM m c b bm w := by
  obtain ⟨F, ρ, H, E, ho, h1, h2⟩ := h
  cases h1
  refine ⟨rfl, ?_⟩
  obtain ⟨v, rfl, hv⟩ := h2.one_out
  cases hv with | @ptr _ _ b hρ =>
  obtain ⟨hHi, hh, e1, e2⟩ := ho i _ hi rfl
  obtain ⟨h', e3, ⟨b', t, vs, rfl, hB, hR, _⟩, _⟩ := E.rep i _ hHi rfl
  rw [hρ] at e3; injection e3 with e3; injection e3 with e3; injection e3 with e3; injection e3 with e3
  subst e3
  obtain ⟨u, e4, hu⟩ := hR.one_out
  obtain ⟨hHj, hh2, e5, e6⟩ := ho j _ hj rfl
  obtain ⟨bm, rfl, q1, q2⟩ := E.mapAt hHj hu
  rw [q1] at e6; injection e6 with e6; subst e6
  refine ⟨b, bm, rfl, e5, ?_, q2⟩
  have := hB.cell 0
  rw [this, ← Array.getElem?_toList, e4]; rfl
def NxK (m : Sh) (done : Sh) (p : KeyZ × Cel × Nat) (done' : Sh) : Prop := p ∈ m ∧ p.2.2 ∉ done.map (·.2.2) ∧ done' = done ++ [p]
def FinK (m : Sh) (done : Sh) : Prop := ∀ p ∈ m, p.2.2 ∈ done.map (·.2.2)
def seenN (w : World) (g : Nat) : Nat := match w.heap[g]? with | some (.mapIter _ _ s _) => s.size | _ => 0
theorem within_len : ∀ (l k : List Nat), l.Nodup → (∀ x ∈ l, x ∈ k) → l.length ≤ k.length
  | [], _, _, _ => Nat.zero_le _
  | x :: l, k, hn, h => by
    have h1 := List.nodup_cons.1 hn
    have hx := h x (List.mem_cons_self ..)
    have := within_len l (k.erase x) h1.2 fun y hy => by
      have hne : y ≠ x := fun e => h1.1 (by rw [← e]; exact hy)
      exact (List.mem_erase_of_ne hne).2 (h y (List.mem_cons_of_mem _ hy))
    rw [List.length_erase_of_mem hx] at this
    have : 0 < k.length := List.length_pos_of_mem hx
    simp only [List.length_cons]; omega
theorem near_set {O : Nat → Prop} {w w1 : World} {g : Nat} {o : Obj} (h1 : w1 = w ∨ w1 = w.drew) (hg : ¬ O g) : Near O w { w1 with heap := w1.heap.setIfInBounds g o } := by
  have q : Near O w { w with heap := w.heap.setIfInBounds g o } := ⟨rfl, rfl, rfl, by simp, fun b hb => by
    have : g ≠ b := fun e => hg (by rw [e]; exact hb)
    simp [Array.getElem?_setIfInBounds, this]⟩
  rcases h1 with rfl | rfl
  · exact q
  · exact q
attribute [local go_sem] Oper.semAt_some
set_option maxHeartbeats 1000000 in
set_option maxRecDepth 100000 in
theorem keysIt {m : Sh} {c : Nat} (hf : fresh m c) {Lc : List AObj} {i j : Nat} (hi : Lc[i]? = some (.cells [.mp j])) (hj : Lc[j]? = some (mapO kyD cD m c)) :
    IterN Tryz.prog 48 [] [.ptr i 0] Lc ([] : Sh) (fun y x y' => ∃ p, NxK m y p y' ∧ x = [.d (kyD p.1)]) (FinK m) := by
  intro us vs lp ρ0
  refine ⟨fun y vals y' => ∃ p, NxK m y p y' ∧ vals = [vOf (kyD p.1)], fun y vals y' h => ?_, ?_⟩
  · obtain ⟨p, h, rfl⟩ := h
    exact ⟨_, ⟨p, h, rfl⟩, fun w F ρ => .cons (FlatW.ra (.d (closed_flat (ky_cl _)))) .nil⟩
  intro J Jx hJ hN hNx hY O w h0
  obtain ⟨rfl, b, bm, rfl, hρ, hs0⟩ := sees_map hi hj (hJ [] O w h0).1
  have sees : ∀ k O w, J k O w → SeesM m c b bm w := fun k O w h => by
    obtain ⟨_, b', bm', e1, e2, h'⟩ := sees_map hi hj (hJ k O w h).1
    injection e1 with e1; injection e1 with e1; injection e1 with e1; injection e1 with e1
    rw [hρ] at e2
    injection e2 with e2; injection e2 with e2; injection e2 with e2
    subst e1 e2
    exact h'
  have HJ := hide hJ
  have HN := hide hN
  have HS := hide sees
  have HF := hide hf
  have c0 := hs0.1
  have m0 := hs0.2
  clear hJ hN sees hs0 hρ hNx hi hj hf
  refine (callsIn_wide (n := 1)).1 (callsIn_of_wp Tryz.func48 rfl trivial ?_ rfl)
  simp only [Tryz.ntmps48, List.size_toArray, List.length_cons, List.length_nil, Nat.reduceAdd, Nat.reduceSub, Array.replicate_succ, Array.replicate_zero, List.push_toArray, List.append_toArray, List.nil_append, List.cons_append]
  gi_wp2_with (refine wpListIn_range_mp rfl rfl rfl Tryz.underlying71 m0 ?_)
  have gO : ¬ O w.heap.size := fun h => Nat.lt_irrefl _ ((HJ.out [] O w h0).2 _ h)
  have hJ0 := HN.out [] O w (w.alloc (.mapIter (some bm) c #[] c)) h0 ⟨rfl, rfl, rfl, by simp, fun b hb => Below.heap_alloc _ _ _ ((HJ.out [] O w h0).2 b hb)⟩
  gi_loopw [3] (fun _ wr => ∃ (done : Sh) (O : Nat → Prop), J done O wr ∧ wr.heap[w.heap.size]? = some (.mapIter (some bm) c (done.map (·.2.2)).toArray c) ∧ ¬ O w.heap.size ∧ (∀ q ∈ done, q ∈ m) ∧ (done.map (·.2.2)).Nodup) (fun _ wr => m.length - seenN wr w.heap.size)
  case atStart => exact ⟨[], O, hJ0, Array.getElem?_push_size, gO, fun q h => (by cases h), List.nodup_nil⟩
  case round =>
    obtain ⟨done, O1, hJk, q2, gO1, hsub, hnd⟩ := hrel
    have q4 := (HS.out done O1 wr hJk).2
    clear hJ0 gO h0 m0 c0
    obtain ⟨y, w1, hy, hw1, hr⟩ := run_next_mp (P := Tryz.prog) (ty := 0) q2 q4 HF.out.2 (.inr HF.out.2)
    cases y with
    | none =>
      have hJ1 : J done O1 w1 := HN.out done O1 wr w1 hJk (by rcases hw1 with rfl | rfl <;> exact ⟨rfl, rfl, rfl, Nat.le_refl _, fun b hb => rfl⟩)
      have HE := hide (show FinK m done from hy)
      have HR := hide hr
      simp only at hr
      clear hJk q2 q4 hw1 hsub hnd hy hr
      gi_wp2_with (refine wpListIn_next_ok rfl rfl rfl HR.out ?_)
      go_end0
      exact ⟨⟨_, rfl⟩, O1, .inl ⟨done, HE.out, hJ1⟩⟩
    | some p =>
      obtain ⟨hp, hn⟩ := hy
      have hsz : w.heap.size < wr.heap.size := (Array.getElem?_eq_some_iff.1 q2).1
      have hJ1 := HN.out done O1 wr { w1 with heap := w1.heap.setIfInBounds w.heap.size (.mapIter (some bm) c (done.map (·.2.2) ++ [p.2.2]).toArray c) } hJk (near_set hw1 gO1)
      have e2 : ({ w1 with heap := w1.heap.setIfInBounds w.heap.size (.mapIter (some bm) c (done.map (·.2.2) ++ [p.2.2]).toArray c) } : World).heap[w.heap.size]? = some (.mapIter (some bm) c (done.map (·.2.2) ++ [p.2.2]).toArray c) := by
        have : w1.heap = wr.heap := by rcases hw1 with rfl | rfl <;> rfl
        show (w1.heap.setIfInBounds _ _)[_]? = _
        rw [this, Array.getElem?_setIfInBounds_self_of_lt hsz]
      have hmu : m.length - (done.length + 1) < m.length - seenN wr w.heap.size := by
        have : seenN wr w.heap.size = done.length := by unfold seenN; rw [q2]; simp
        have l1 := within_len ((done ++ [p]).map (·.2.2)) (m.map (·.2.2)) (by
          rw [List.map_append, List.nodup_append]
          exact ⟨hnd, by simp, fun a ha b hb e => by simp at hb; subst hb e; exact hn ha⟩) (fun x hx => by
          obtain ⟨q, hq, rfl⟩ := List.mem_map.1 hx
          rcases List.mem_append.1 hq with h | h
          · exact List.mem_map.2 ⟨q, hsub q h, rfl⟩
          · rw [List.mem_singleton.1 h]; exact List.mem_map.2 ⟨p, hp, rfl⟩)
        simp at l1; omega
      simp only at hr
      clear hw1
      generalize ({ w1 with heap := w1.heap.setIfInBounds w.heap.size (.mapIter (some bm) c (done.map (·.2.2) ++ [p.2.2]).toArray c) } : World) = W2 at hr hJ1 e2
      have q5 := (HS.out done O1 W2 hJ1).2
      have hO := (HJ.out done O1 W2 hJ1).2
      have hk : vOf (kyD p.1) = .agg #[.int .i64 p.1.1, .string p.1.2] := rfl
      rw [hk] at hr
      have hvv : vOf (cD p.2.1) = .agg (clW p.2.1) := rfl
      rw [hvv] at hr
      have HK := hide hk
      have HV := hide hvv
      have hJ2 := HN.out done O1 W2 (W2.alloc (.cells #[.int .i64 p.1.1, .string p.1.2] 24)) hJ1 ⟨rfl, rfl, rfl, by simp, fun b hb => Below.heap_alloc _ _ _ (hO b hb)⟩
      have e3 : (W2.alloc (.cells #[.int .i64 p.1.1, .string p.1.2] 24)).heap[w.heap.size]? = some (.mapIter (some bm) c (done.map (·.2.2) ++ [p.2.2]).toArray c) := by
        rw [Below.heap_alloc _ _ _ (Array.getElem?_eq_some_iff.1 e2).1]; exact e2
      have hg3 : w.heap.size < (W2.alloc (.cells #[.int .i64 p.1.1, .string p.1.2] 24)).heap.size := (Array.getElem?_eq_some_iff.1 e3).1
      obtain ⟨fn, tmps, assign, body, hy, hR⟩ := hY done O1 _ [.agg #[.int .i64 p.1.1, .string p.1.2]] (done ++ [p]) ⟨p, ⟨hp, hn, rfl⟩, by rw [hk]⟩ hJ2
      have E3 := hide e3
      have G3 := hide hg3
      have HR := hide hr
      have HP := hide (find_born HF.out hp)
      have HX := hide (show NxK m done p (done ++ [p]) from ⟨hp, hn, rfl⟩)
      have HM := hide hmu
      have HD := hide hsub
      have HU := hide hnd
      clear hJk q2 q4 hsub hnd hr hp hn hmu hsz hk hvv hJ2 e3 hg3
      gi_wp2_with (first | refine wpListIn_next_ok rfl rfl rfl HR.out ?_ | refine wpListIn_entry_mp rfl rfl rfl HP.out e2 q5 HK.out HV.out ?_)
      refine hR.mono ?_
      rintro e W4 ⟨O', hfar, hO', ⟨rfl, hJ3⟩ | ⟨rfl, hJx3⟩⟩
      · have e4 := (hfar.2.2.2.2 _ G3.out gO1).trans E3.out
        have gO2 : ¬ O' w.heap.size := fun h => by
          rcases hO' _ h with h | h
          · exact gO1 h
          · have := G3.out; omega
        have E4 := hide e4
        have HO := hide gO2
        clear hR hy hfar hO' e4 gO2
        gi_wp2
        go_roundw
        case rel => exact ⟨done ++ [p], O', hJ3, by rw [E4.out]; simp, HO.out, fun q hq => by
                      rcases List.mem_append.1 hq with h | h
                      · exact HD.out q h
                      · rw [List.mem_singleton.1 h]; exact HX.out.1, by
                      rw [List.map_append, List.nodup_append]
                      exact ⟨HU.out, by simp, fun a ha b hb e => by simp at hb; subst hb e; exact HX.out.2.1 ha⟩⟩
        case measure =>
          have : seenN W4 w.heap.size = done.length + 1 := by unfold seenN; rw [E4.out]; simp
          rw [this]; exact HM.out
      · clear hR hy hfar
        gi_wp2
        refine bodyPost_ret (results_none rfl _ _ _) rfl ?_
        exact ⟨⟨_, rfl⟩, _, .inr hJx3⟩
end Go.Proofs.YtbjmdnemeidpjaaGreat
/- A contract whose answer is one of several. No program is named here. -/
namespace Go.Proofs.YtbjmdnemeidpjaaGreat
set_option linter.unusedSimpArgs false
set_option linter.unusedVariables false
open Go.RowKit
/-- Of such arguments, over such objects, comes one of these answers. -/
def SatN (P : Program) (g : FuncId) (args : List AV) (H : List AObj) {X : Type} (R : X → Prop) (r : X → AV) (H' : X → List AObj) : Prop :=
  ∀ (F : Nat → Prop) (ρ : Nat → Option Value) (w : World) (vals : List Value), Env F ρ (hp H) w → RAs w F ρ args vals →
    Calls P g vals.toArray w fun e w' => ∃ x, R x ∧ ∃ v, e = .returned v ∧ Post F ρ (hp H) w (hp (H' x)) (r x) v w'
section
variable {P : Program} {w w' : World} {F F' : Nat → Prop} {ρ ρ' : Nat → Option Value} {L L' : List AObj} {T : TypeId → TI} {E : Nat → Bool} {N : Nat} {tm tm' : Tm} {a : Act}
/-- .. to a contract whose answer is one of several. -/
theorem satN_of_vc {g : FuncId} {fn : Func} {c : Code} {args : List AV} {H : List AObj} {X : Type} {R : X → Prop} {r : X → AV} {H' : X → List AObj} (hf : P.funcs[g]? = some fn) (hb : fn.body = some c) (hT : T = tiOf P) (hE : ∀ g, E g = true → entersB P g = true) (hm : P.follows .mixedOrders = true)
    (hn : Nat.ble args.length fn.ntmps = true) (h : vcCode P T E fn.ntmps c H.length false (params 0 args) H (fun e tm L => ∃ x, R x ∧ retK T fn.results.toList H.length (r x) (H' x) e tm L)) : SatN P g args H R r H' := by
  intro F ρ w vals En hv
  have hl := hv.length
  have hn := Nat.le_of_ble_eq_true hn
  have hk0 : ∀ i v, ρ i = some v → i < H.length := fun i v hi => by
    rcases Nat.lt_or_ge i H.length with q | q
    · exact q
    · rw [En.abs i (List.getElem?_eq_none q)] at hi; cases hi
  refine (callsIn_wide (n := 0)).1 (callsIn_of_wp_marks hf hb trivial (wpIn_mono (vcCode_out hT hE hm c F ρ (hp H) w w.heap.size ρ H.length false none 0 hk0 (fun _ => ⟨rfl, Nat.le_refl _⟩) _ H _ _ w h ⟨F, ρ, Step.refl _ _ _ _, Keep.refl ρ, En, ⟨fun d => ?_, ?_⟩, Nat.le_refl _, Marks.nil⟩) fun e a' w' ⟨tm', L', ⟨x, hx, hq⟩, F', ρ', S1, K1, E1, Sl1, hle, hM⟩ => ?_))
  · rw [params_lk, if_pos (Nat.zero_le _), Nat.sub_zero]
    cases hd : args[d]? with
    | none => exact .any _
    | some x =>
      obtain ⟨v, h1, h2⟩ := hv.get hd
      have hlt := (List.getElem?_eq_some_iff.1 h1).1
      have : (vals.toArray ++ Array.replicate (fn.ntmps - vals.toArray.size) undef).getD d undef = v := by
        rw [Array.getD_eq_getD_getElem?, Array.getElem?_append_left (by simpa using hlt)]
        simp [h1]
      rw [this]; exact h2
  · simp; omega
  · have fin : (resK T L' fn.results.toList tm' fun l => fAV (oneOr l) fun y => ∃ sw, EndS H.length (r x) (H' x) y L' sw) →
        LeavesInM Fence.wide 0 P fn a'.tmps (fun e w' => ∃ x, R x ∧ ∃ v, e = .returned v ∧ Post F ρ (hp H) w (hp (H' x)) (r x) v w') a'.defers .returning w' := by
      intro h
      subst hT
      obtain ⟨rs, hd, hnd, hrs⟩ := hM
      rw [hd]
      refine leaves_marks (w := w') (fun w2 S2 E2 hF2 => ?_) rs w' hnd hrs S1 E1 fun _ _ => rfl
      obtain ⟨l, vs, h1, h2, h3⟩ := resK_out E2 (Sl1.others hF2) h
      obtain ⟨sw, h4⟩ := fAV_iff.1 h1
      obtain ⟨v, hrun, hv'⟩ := run_results h3
      obtain ⟨F2, ρ2, S3, K2, E3, R2⟩ := h4.out hle E2 (hv' _ _ _ h2)
      exact ⟨v, hrun, x, hx, v, rfl, _, _, S2.trans S3, fun i u hi => K2 i u (hk0 i u hi) (K1 i u hi), E3, R2⟩
    cases e with
    | normal => exact fin hq
    | ret => exact fin hq
    | _ => exact hq.elim
end
end Go.Proofs.YtbjmdnemeidpjaaGreat
/- shelf: the ids of a ledger, sorted. -/
namespace Go.Proofs.YtbjmdnemeidpjaaGreat
set_option linter.unusedSimpArgs false
set_option linter.unusedVariables false
open Go.RowKit Go.Sort
set_option maxRecDepth 100000
/-- All entries, in some order. -/
def AllOf (m done : Sh) : Prop := (done.map (·.2.2)).Nodup ∧ (∀ q ∈ done, q ∈ m) ∧ FinK m done
abbrev idsR (l : Sh) : List (List D) := l.map fun p => kyQ p.1
theorem appendSeq_any {m : Sh} {c : Nat} (hf : fresh m c) (hm : m.length ≤ 1000000000) :
    SatN Tryz.prog 69 [.d (.v (.slice none 0 0)), .fn (.func 48) [] [.ptr 0 0]] [.cells [.mp 1], mapO kyD cD m c] (AllOf m) (fun _ => .own 2) (fun done => [.cells [.mp 1], mapO kyD cD m c, .sl 2 (idsR done)]) := by
  refine satN_of_vc (T := tiOf Tryz.prog) (E := E0) Tryz.func69 rfl rfl hE0 hm0 rfl ?_
  conv => whnf
  repeat' (first | exact True.intro | ((first | refine Or.inl ?_ | refine And.intro (fun _ => ?_) tf | refine And.intro ft (fun _ => ?_) | refine And.intro (by kernel_rfl) ?_ | refine And.intro (by decide) ?_ | refine And.intro (fun _ => ?_) (fun h => absurd h (by decide)) | refine And.intro (fun h => absurd h (by decide)) (fun _ => ?_) | fail); conv => whnf) | (refine And.intro (fun _ => ?_) (fun _ => ?_) <;> conv => whnf) | fail)
  refine ⟨Sh, Sh, fun y z => z = y ∧ (y.map (·.2.2)).Nodup ∧ ∀ q ∈ y, q ∈ m, fun z => [.cells [.mp 1], mapO kyD cD m c, .cells [.own 3], .sl 2 (idsR z)], [(6, .fn (.func 48) [] [.ptr 0 0]), (2, .ptr 2 0)], 3, _, _, _, ([.cells [.mp 1], mapO kyD cD m c], none), [], _, _, ⟨[], ⟨rfl, List.nodup_nil, fun q h => by cases h⟩, ?_⟩, rfl, by kernel_rfl, keysIt (i := 0) (j := 1) hf rfl rfl, ?_, ?_, ?_, ?_⟩
  · all_goals refine ⟨[], ?_⟩
    repeat (any_goals (first | exact True.intro | exact rfl | with_reducible_and_instances rfl | exact (by kernel_rfl) | refine And.intro ?_ ?_))
    all_goals conv => whnf
  · rintro y x y' ⟨p, _, rfl⟩; rfl
  · rintro y z _; exact ⟨⟨rfl, rfl, trivial⟩, Nat.le_add_left 3 1⟩
  · rintro y z x y' ⟨rfl, hn, hs⟩ ⟨p, ⟨hp, hpn, rfl⟩, rfl⟩
    conv => whnf
    have hl : z.length ≤ m.length := by
      have := within_len (z.map (·.2.2)) (m.map (·.2.2)) hn fun x hx => by
        obtain ⟨q, hq, rfl⟩ := List.mem_map.1 hx
        exact List.mem_map.2 ⟨q, hs q hq, rfl⟩
      simpa using this
    have hb : ((idsR z).length + 1) * 24 ≤ 140737488355328 := by rw [List.length_map]; omega
    repeat' (first | exact True.intro | ((first | refine And.intro (fun _ => ?_) tf | refine And.intro ft (fun _ => ?_) | refine And.intro (by kernel_rfl) ?_ | refine And.intro (by decide) ?_ | refine And.intro (fun _ => ?_) (fun h => absurd h (by decide)) | refine And.intro (fun h => absurd h (by decide)) (fun _ => ?_) | refine ⟨_, _, ap 2 24 (by kernel_rfl) rfl rfl hb, ?_⟩ | fail); conv => whnf) | (refine And.intro (fun _ => ?_) (fun _ => ?_) <;> conv => whnf) | fail)
    refine ⟨z ++ [p], ⟨rfl, by
      rw [List.map_append, List.nodup_append]
      exact ⟨hn, by simp, fun a ha b hb e => by simp at hb; subst hb e; exact hpn ha⟩, fun q hq => by
      rcases List.mem_append.1 hq with h | h
      · exact hs q h
      · rw [List.mem_singleton.1 h]; exact hp⟩, ?_⟩
    have ea : idsR (z ++ [p]) = idsR z ++ [kyQ p.1] := by simp
    refine (show Weak 3 _ _ [] [.cells [.mp 1], mapO kyD cD m c, .cells [.own 3], .sl 2 (idsR (z ++ [p]))] from ?_)
    rw [ea]
    all_goals refine ⟨[(3, 6)], ?_⟩
    repeat (any_goals (first | exact True.intro | exact rfl | with_reducible_and_instances rfl | exact (by kernel_rfl) | refine And.intro ?_ ?_))
    all_goals conv => whnf
  · rintro y z hF ⟨rfl, hn, hs⟩
    conv => whnf
    repeat' (first | exact True.intro | ((first | refine Or.inl ?_ | refine And.intro (fun _ => ?_) tf | refine And.intro ft (fun _ => ?_) | refine And.intro (by kernel_rfl) ?_ | refine And.intro (by decide) ?_ | refine And.intro (fun _ => ?_) (fun h => absurd h (by decide)) | refine And.intro (fun h => absurd h (by decide)) (fun _ => ?_) | fail); conv => whnf) | (refine And.intro (fun _ => ?_) (fun _ => ?_) <;> conv => whnf) | fail)
    refine ⟨z, ⟨hn, hs, hF⟩, ?_⟩
    all_goals refine ⟨[(2, 3)], ?_⟩
    repeat (any_goals (first | exact True.intro | exact rfl | with_reducible_and_instances rfl | exact (by kernel_rfl) | refine And.intro ?_ ?_))
    all_goals conv => whnf
theorem fn_out {w : World} {F : Nat → Prop} {ρ : Nat → Option Value} {g : FuncId} {caps : List AV} {vals : List Value} (h : RAs w F ρ [.fn (.func g) [] caps] vals) : ∃ vs, vals = [.func (.func g) #[] vs.toArray] ∧ RAs w F ρ caps vs := by
  cases h with | cons h1 h2 =>
  cases h2
  cases h1 with | fn q1 q2 =>
  cases q1
  exact ⟨_, rfl, q2⟩
set_option maxHeartbeats 1000000 in
set_option maxRecDepth 100000 in
theorem collect_any {m : Sh} {c : Nat} (hf : fresh m c) (hm : m.length ≤ 1000000000) :
    SatN Tryz.prog 46 [.fn (.func 48) [] [.ptr 0 0]] [.cells [.mp 1], mapO kyD cD m c] (AllOf m) (fun _ => .own 2) (fun done => [.cells [.mp 1], mapO kyD cD m c, .sl 2 (idsR done)]) := by
  intro F ρ w vals En hv
  have hA := appendSeq_any hf hm F ρ w (.slice none 0 0 :: vals) En (.cons (.d (.v _)) hv)
  obtain ⟨vs, rfl, hvs⟩ := fn_out hv
  clear hv hvs En
  generalize vs.toArray = us at hA
  have HA := hide hA
  clear hA
  go_enter Tryz.func46, Tryz.ntmps46
  go_wp2_with (go_at_call 69; refine HA.out.mono ?_; rintro e w' ⟨x, hx, v, rfl, hP⟩)
  go_ret
  exact ⟨x, hx, v, rfl, hP⟩
theorem sorted_pw {α : Type} {cf : α → α → Int} (h : SWO (ltOf cf)) (l : List α) : (sorted cf l).Pairwise fun x y => (!(ltOf cf) y x) = true :=
  List.pairwise_mergeSort (le := fun x y => !(ltOf cf) y x) (fun a b c h1 h2 => by
    simp only [Bool.not_eq_true'] at h1 h2 ⊢
    exact h.ntrans c b a h2 h1) (fun a b => by
    by_cases q : ltOf cf b a = true
    · have : ltOf cf a b = false := by
        by_cases r : ltOf cf a b = true
        · have := h.trans a b a r q
          rw [h.irrefl] at this; cases this
        · simpa using r
      simp [this]
    · simp at q; simp [q]) l
theorem sorted_of_perm {α : Type} {cf : α → α → Int} (h : SWO (ltOf cf)) (ht : ∀ x y, ltOf cf x y = false → ltOf cf y x = false → x = y) {l l' : List α} (hp : l.Perm l') : sorted cf l = sorted cf l' :=
  List.Perm.eq_of_pairwise (le := fun x y => (!(ltOf cf) y x) = true) (fun a b _ _ h1 h2 => ht a b (by simpa using h2) (by simpa using h1)) (sorted_pw h l) (sorted_pw h l') (((sorted_perm cf l).trans hp).trans (sorted_perm cf l').symm)
theorem all_perm {m x : Sh} {c : Nat} (hf : fresh m c) (hx : AllOf m x) : x.Perm m := by
  have hinj : ∀ p ∈ m, ∀ q ∈ m, p.2.2 = q.2.2 → p = q := fun p hp q hq e => by
    have h1 := find_born hf hp
    have h2 := find_born hf hq
    rw [e, h2] at h1
    exact (Option.some.inj h1).symm
  have nd : ∀ l : Sh, (l.map (·.2.2)).Nodup → l.Nodup := fun l h => by
    induction l with
    | nil => exact List.nodup_nil
    | cons a l ih =>
      rw [List.map_cons, List.nodup_cons] at h
      exact List.nodup_cons.2 ⟨fun ha => h.1 (List.mem_map.2 ⟨a, ha, rfl⟩), ih h.2⟩
  exact (List.perm_ext_iff_of_nodup (nd x hx.1) (nd m hf.1)).2 fun a => ⟨hx.2.1 a, fun ha => by
    obtain ⟨b, hb, e⟩ := List.mem_map.1 (hx.2.2 a ha)
    rw [← hinj b (hx.2.1 b hb) a ha e]; exact hb⟩
/-- Entries in any order have the same sorted ids. -/
theorem all_sorted {m x : Sh} {c : Nat} (hf : fresh m c) (hx : AllOf m x) : sorted cmpK (x.map (·.1)) = sorted cmpK (m.map (·.1)) :=
  sorted_of_perm swoK totK ((all_perm hf hx).map _)
theorem fn2_out {w : World} {F : Nat → Prop} {ρ : Nat → Option Value} {g k : FuncId} {caps : List AV} {vals : List Value} (h : RAs w F ρ [.fn (.func g) [] caps, .fn (.func k) [] []] vals) : ∃ v, vals = [v, .func (.func k) #[] #[]] ∧ RAs w F ρ [.fn (.func g) [] caps] [v] := by
  cases h with | cons h1 h2 =>
  cases h2 with | cons h2 h3 =>
  cases h3
  cases h2 with | fn q1 q2 =>
  cases q1; cases q2
  exact ⟨_, rfl, .cons h1 .nil⟩
theorem appL2 (a b o o' : AObj) : appN 3 [] (appW [(2, o')] (hp [a, b, o])) = hp [a, b, o'] := by
  funext i
  match i with
  | 0 => rfl
  | 1 => rfl
  | 2 => rfl
  | i + 3 => rfl
set_option maxHeartbeats 1000000 in
set_option maxRecDepth 100000 in
theorem sortedFunc_sat {m : Sh} {c : Nat} (hf : fresh m c) (hm : m.length ≤ 1000000000) :
    Sat Tryz.prog 31 [.fn (.func 48) [] [.ptr 0 0], .fn (.func 33) [] []] [.cells [.mp 1], mapO kyD cD m c] (.own 2) [.cells [.mp 1], mapO kyD cD m c, .sl 2 ((sorted cmpK (m.map (·.1))).map kyQ)] := by
  intro F ρ w vals En hv
  obtain ⟨v, rfl, hv1⟩ := fn2_out hv
  have HA := hide (collect_any hf hm F ρ w [v] En hv1)
  have HS := hide (fun (x : Sh) (hx : AllOf m x) F' ρ' w' u E1 (R1 : RA w' F' ρ' (.own 2) u) => sortK_call (x.map (·.1)) (by
    have := within_len (x.map (·.2.2)) (m.map (·.2.2)) hx.1 fun y hy => by
        obtain ⟨q, hq, rfl⟩ := List.mem_map.1 hy
        exact List.mem_map.2 ⟨q, hx.2.1 q hq, rfl⟩
    simp at this ⊢; omega) (i := 2) (n := 3) (Lh := [.cells [.mp 1], mapO kyD cD m c, .sl 2 (idsR x)]) (by simp) (hp [.cells [.mp 1], mapO kyD cD m c, .sl 2 (idsR x)]) F' ρ' w' [u, .func (.func 33) #[] #[]] E1 (fun i hi => rfl) (fun k hk => by simp at hk) (.cons R1 (.cons (.fn .nil .nil) .nil)))
  have HF := hide hf
  clear hv hv1 En hf hm
  go_enter Tryz.func31, Tryz.ntmps31
  go_wp2_with (first | (go_at_call 46; refine HA.out.mono ?_; rintro e w' ⟨x, hx, v, rfl, F', ρ', S1, K1, E1, R1⟩) | (go_at_call 47; refine (HS.out x hx F' ρ' w' v E1 R1).mono ?_; rintro e w2 ⟨v2, rfl, F2, ρ2, S2, K2, E2, R2⟩))
  go_ret
  simp only [all_sorted HF.out hx, appL2] at S2 E2
  exact ⟨v, rfl, F2, ρ2, S1.trans S2, K1.trans K2, E2, S2.ra E1 K2 R1⟩
end Go.Proofs.YtbjmdnemeidpjaaGreat
/- shelf: a copy of a ledger's map, and its ids sorted. -/
namespace Go.Proofs.YtbjmdnemeidpjaaGreat
set_option linter.unusedSimpArgs false
set_option linter.unusedVariables false
open Go.RowKit Go.Sort
set_option maxRecDepth 100000
theorem rds2_at {w : World} {F : Nat → Prop} : ∀ {S : List KeyZ} {vs : List Value}, RDs w F (S.map kyQ).flatten vs → ∀ (k : Nat) e, S[k]? = some e → vs[k * 2]? = some (.int .i64 e.1) ∧ vs[k * 2 + 1]? = some (.string e.2) := by
  intro S
  induction S with
  | nil => intro vs _ k e h; cases h
  | cons x S ih =>
    intro vs h k e hk
    replace h : RDs w F (iD x.1 :: .v (.string x.2) :: (S.map kyQ).flatten) vs := h
    cases h with | cons a1 _ h2 =>
    cases h2 with | cons a2 _ h4 =>
    cases a1 with | v =>
    cases a2 with | v =>
    cases k with
    | zero =>
      have : x = e := Option.some.inj hk
      subst this
      exact ⟨rfl, rfl⟩
    | succ k =>
      have := ih h4 k e hk
      rw [show (k + 1) * 2 = k * 2 + 2 by omega]
      exact this
/-- A slice of these ids, in a block of its own. -/
def SeesI (S : List KeyZ) (A : Option Addr) (lo : Nat) (w : World) : Prop :=
  ∀ (k : Nat) e, S[k]? = some e → ∃ q off, A = some ⟨q, off, none⟩ ∧ lo ≤ q ∧ q < w.heap.size ∧ w.cell? ⟨q, off + k * 2, none⟩ = some (.int .i64 e.1) ∧ w.cell? ⟨q, off + k * 2 + 1, none⟩ = some (.string e.2)
def mapObj (m : Sh) (c : Nat) : Obj := .map (m.map (entryOf kyD cD)).toArray c
theorem env_two {m : Sh} {c : Nat} {w : World} {g bm : Nat} {t : TypeId} (hg : Blk w g t #[.map (some bm)]) (hb : w.heap[bm]? = some (mapObj m c)) (hne : g ≠ bm) :
    Env (fun _ => False) (fun i => if i = 0 then some (.pointer (some ⟨g, 0, none⟩)) else if i = 1 then some (.map (some bm)) else none) (hp [.cells [.mp 1], mapO kyD cD m c]) w := by
  refine ⟨fun b h => h.elim, fun i hi => ?_, fun i o hi hl => ?_, fun i j o o' h h' b e1 e2 l1 l2 r1 r2 b1 b2 => ?_⟩
  · match i, hi with
    | i + 2, _ => simp
  · match i, hi with
    | 0, hi =>
      have : o = .cells [.mp 1] := (Option.some.inj hi).symm
      subst this
      refine ⟨_, rfl, ⟨g, t, _, rfl, hg, .cons (.mp rfl) .nil, fun v hv => by simp at hv; subst hv; rfl⟩, fun b hb => ?_⟩
      injection hb with hb; subst hb
      exact ⟨hg.lt, fun h => h⟩
    | 1, hi =>
      have : o = mapO kyD cD m c := (Option.some.inj hi).symm
      subst this
      refine ⟨_, rfl, ⟨bm, _, .inr rfl, hb, rfl⟩, fun b hb' => ?_⟩
      injection hb' with hb'; subst hb'
      exact ⟨(Array.getElem?_eq_some_iff.1 hb).1, fun h => h⟩
    | i + 2, hi => simp [hp] at hi
  · match i, j, e1, e2 with
    | 0, 0, _, _ => rfl
    | 1, 1, _, _ => rfl
    | 0, 1, _, _ =>
      simp at r1 r2; subst r1 r2
      injection b1 with b1; injection b2 with b2
      exact absurd (b1.trans b2.symm) hne
    | 1, 0, _, _ =>
      simp at r1 r2; subst r1 r2
      injection b1 with b1; injection b2 with b2
      exact absurd (b2.trans b1.symm) hne
    | i + 2, _, e1, _ => simp [hp] at e1
    | 0, j + 2, _, e2 => simp [hp] at e2
    | 1, j + 2, _, e2 => simp [hp] at e2
/-- A map's keys, sorted. -/
theorem sortedKeys_any {m : Sh} {c : Nat} (hf : fresh m c) (hm : m.length ≤ 1000000000) (w : World) (g bm : Nat) (t : TypeId) (hg : Blk w g t #[.map (some bm)]) (hb : w.heap[bm]? = some (mapObj m c)) (hne : g ≠ bm) :
    Calls Tryz.prog 31 #[.func (.func 48) #[] #[.pointer (some ⟨g, 0, none⟩)], .func (.func 33) #[] #[]] w fun e w' =>
      ∃ A cc, e = .returned (.slice A m.length cc) ∧ (w'.os = w.os ∧ w'.tape = w.tape ∧ w'.output = w.output ∧ w.heap.size ≤ w'.heap.size) ∧ (∀ b, b < w.heap.size → b ≠ g → w'.heap[b]? = w.heap[b]?) ∧ SeesI (sorted cmpK (m.map (·.1))) A w.heap.size w' := by
  refine (sortedFunc_sat hf hm _ _ w [_, _] (env_two hg hb hne) (.cons (.fn .nil (.cons (.ptr rfl) .nil)) (.cons (.fn .nil .nil) .nil))).mono ?_
  rintro e w' ⟨v, rfl, F', ρ', S, K, E, R⟩
  have k0 : ρ' 0 = some (.pointer (some ⟨g, 0, none⟩)) := K 0 _ rfl
  have k1 : ρ' 1 = some (.map (some bm)) := K 1 _ rfl
  have hm' : w'.heap[bm]? = some (mapObj m c) := by
    obtain ⟨h', e1, ⟨b', o, _, h3, h4⟩, _⟩ := E.rep 1 (mapO kyD cD m c) rfl rfl
    rw [k1] at e1; injection e1 with e1; subst e1
    rename_i h5
    rcases h5 with h5 | h5
    · cases h5
    · injection h5 with h5; injection h5 with h5; subst h5
      rw [h3]; exact congrArg some h4
  cases R with | @own _ A n cc hρ =>
  obtain ⟨h2, e2, ⟨vs, hOw, hRD, _⟩, hbk⟩ := E.rep 2 _ rfl rfl
  rw [hρ] at e2; injection e2 with e2; subst e2
  have hlen : ((sorted cmpK (m.map (·.1))).map kyQ).length = m.length := by rw [List.length_map, sorted_len, List.length_map]
  have hn : n = m.length := by
    rw [← hlen]
    rcases hOw.2 with ⟨q, q'⟩ | ⟨a, q, _, q'⟩ | ⟨g, off, cap, q, _⟩ <;> injection q with _ q _ <;> simp_all
  subst hn
  have lv : ∀ b, b ≠ g → b ≠ bm → ¬ Lv (fun i => if i = 0 then some (.pointer (some ⟨g, 0, none⟩)) else if i = 1 then some (.map (some bm)) else none) (hp [.cells [.mp 1], mapO kyD cD m c]) b := by
    rintro b h1 h2 ⟨i, o, h, _, _, h3, h4⟩
    match i with
    | 0 => simp at h3; subst h3; injection h4 with h4; exact h1 h4.symm
    | 1 => simp at h3; subst h3; injection h4 with h4; exact h2 h4.symm
    | i + 2 => simp at h3
  refine ⟨A, cc, rfl, ⟨S.os, S.tape, S.output, S.size⟩, fun b h1 h2 => ?_, fun k e hk => ?_⟩
  · by_cases h3 : b = bm
    · subst h3; rw [hm', hb]
    · exact S.unch b h1 (lv b h2 h3)
  · have hlt := (List.getElem?_eq_some_iff.1 hk).1
    have hl := hOw.1
    obtain ⟨r1, r2⟩ := rds2_at hRD k e hk
    have hpos : 0 < m.length := by rw [← hlen, List.length_map]; omega
    rcases hOw.2 with ⟨q, q'⟩ | ⟨a, q, _, q'⟩ | ⟨g', off, cap, q, _, hg', _, _, _, hread⟩
    · omega
    · omega
    · injection q with q1 q2 q3
      obtain ⟨g1, s1⟩ := List.getElem?_eq_some_iff.1 r1
      obtain ⟨g2, s2⟩ := List.getElem?_eq_some_iff.1 r2
      refine ⟨g', off, q1, ?_, hg', ?_, ?_⟩
      · subst q1
        have hlv : Lv ρ' (hp [.cells [.mp 1], mapO kyD cD m c, .sl 2 ((sorted cmpK (m.map (·.1))).map kyQ)]) g' := ⟨2, _, _, rfl, rfl, hρ, rfl⟩
        rcases S.lsrc g' hlv with h | h
        · exact h
        · by_cases h1 : g' = g
          · subst h1
            have := E.inj 2 0 _ _ _ _ g' rfl rfl rfl rfl hρ k0 rfl rfl
            cases this
          · by_cases h2 : g' = bm
            · subst h2
              have := E.inj 2 1 _ _ _ _ g' rfl rfl rfl rfl hρ k1 rfl rfl
              cases this
            · exact absurd h (lv g' h1 h2)
      · rw [hread _ g1, s1]
      · have := hread _ g2
        rw [s2] at this
        exact this
set_option maxHeartbeats 2000000 in
theorem mclone_any (b : Nat) (es : Array MapEntry) (clock : Nat) (w : World) (hb : w.heap[b]? = some (.map es clock)) :
    Calls Tryz.prog 29 #[.map (some b)] w fun e w' => e = .returned (.map (some w.heap.size)) ∧ w' = w.alloc (.map es clock) := by
  have hu := Tryz.underlying71
  have hq := fun w => run_eql_map_nil_sl (P := Tryz.prog) w 71 _ _ (some b) hu
  go_enter Tryz.func29, Tryz.ntmps29
  go_wp2
  rw [run_callFunc_extern Tryz.func45 (by kernel_rfl) (by kernel_rfl) (by kernel_rfl) (e := Extern.MapsClone.clone) (by kernel_rfl), run_maps_clone_sl w _ hb]
  simp only [Result.andThen]
  rw [Oper.upon_value]
  go_wp2
  rw [run_typeAssert_map_sl _ _ _ _ _ _ hu]
  simp only [Result.andThen]
  rw [Oper.upon_value]
  go_wp2
  go_ret
  exact ⟨rfl, rfl⟩
end Go.Proofs.YtbjmdnemeidpjaaGreat
/- shelf: the iterator over a ledger's ids, in order, with their verdicts. -/
namespace Go.Proofs.YtbjmdnemeidpjaaGreat
open Go.RowKit Go.Sort
set_option linter.unusedVariables false
set_option linter.unusedSimpArgs false
/-- What an iterator over a ledger sees. -/
def SeesL (m : Sh) (c b b2 bm : Nat) (w : World) : Prop := w.cell? ⟨b, 0, none⟩ = some (.pointer (some ⟨b2, 0, none⟩)) ∧ w.cell? ⟨b2, 1, none⟩ = some (.map (some bm)) ∧ w.heap[bm]? = some (mapObj m c)
theorem sees_led {m : Sh} {c : Nat} {Lc : List AObj} {i j k : Nat} {most : Int} (hi : Lc[i]? = some (.cells [.ptr j 0])) (hj : Lc[j]? = some (.cells [iA most, .mp k])) (hk : Lc[k]? = some (mapO kyD cD m c)) {us vs : List Value} {ρ0 : Nat → Option Value} {w : World}
    (h : ∃ F ρ H, Env F ρ H w ∧ (∀ (i : Nat) o, Lc[i]? = some o → o.live = true → H i = some o ∧ ∃ h, ρ0 i = some h ∧ ρ i = some h) ∧ RAs w F ρ [] us ∧ RAs w F ρ [.ptr i 0] vs) :
    us = [] ∧ ∃ b b2 bm, vs = [.pointer (some ⟨b, 0, none⟩)] ∧ SeesL m c b b2 bm w := by
  obtain ⟨F, ρ, H, E, ho, h1, h2⟩ := h
  cases h1
  refine ⟨rfl, ?_⟩
  obtain ⟨v, rfl, hv⟩ := h2.one_out
  cases hv with | @ptr _ _ b hρ =>
  obtain ⟨hHi, hh, e1, e2⟩ := ho i _ hi rfl
  obtain ⟨h', e3, ⟨b', t, vs, rfl, hB, hR, _⟩, _⟩ := E.rep i _ hHi rfl
  rw [hρ] at e3; injection e3 with e3; injection e3 with e3; injection e3 with e3; injection e3 with e3
  subst e3
  obtain ⟨u, e4, hu⟩ := hR.one_out
  cases hu with | @ptr _ _ b2 hρ2 =>
  obtain ⟨hHj, _, _, _⟩ := ho j _ hj rfl
  obtain ⟨h'', e5, ⟨b'', t2, vs2, rfl, hB2, hR2, _⟩, _⟩ := E.rep j _ hHj rfl
  rw [hρ2] at e5; injection e5 with e5; injection e5 with e5; injection e5 with e5; injection e5 with e5
  subst e5
  obtain ⟨u0, u, e6, _, hu⟩ := hR2.two_out
  obtain ⟨hHk, hh2, e7, e8⟩ := ho k _ hk rfl
  obtain ⟨bm, rfl, q1, q2⟩ := E.mapAt hHk hu
  refine ⟨b, b2, bm, rfl, ?_, ?_, q2⟩
  · have := hB.cell 0
    rw [this, ← Array.getElem?_toList, e4]; rfl
  · have := hB2.cell 1
    rw [this, ← Array.getElem?_toList, e6]; rfl
/-- A ledger's entries, by their ids' order. -/
def idsL (m : Sh) : List KeyZ := sorted cmpK (m.map (·.1))
def verL (m : Sh) (x : KeyZ) : Cel := (findX m x).getD zC
theorem idsL_len (m : Sh) : (idsL m).length = m.length := by unfold idsL; rw [sorted_len, List.length_map]
def NxL (m : Sh) (k : Nat) (x : KeyZ) (k' : Nat) : Prop := (idsL m)[k]? = some x ∧ k' = k + 1
theorem yield_two {e : Ending} {p q : Prop} (h : (e = .returned (.bool true) ∧ p) ∨ (e = .returned (.bool false) ∧ q)) : ∃ bb, e = .returned (.bool bb) ∧ (bb = true → p) ∧ (bb = false → q) := by
  rcases h with ⟨h1, h2⟩ | ⟨h1, h2⟩
  · exact ⟨true, h1, fun _ => h2, fun h => by cases h⟩
  · exact ⟨false, h1, fun h => (by cases h), fun _ => h2⟩
theorem keysFn_any (b : Nat) (w : World) : Calls Tryz.prog 32 #[.map (some b)] w fun e w' => e = .returned (.func (.func 48) #[] #[.pointer (some ⟨w.heap.size, 0, none⟩)]) ∧ w' = w.alloc (.cells #[.map (some b)] 71) := by
  go_enter Tryz.func32, Tryz.ntmps32
  go_wp2
  go_ret
  exact ⟨rfl, rfl⟩
attribute [local go_sem] Oper.semAt_some
set_option maxHeartbeats 1000000 in
set_option maxRecDepth 100000 in
theorem allItS {m : Sh} {c : Nat} (hf : fresh m c) (hm : m.length ≤ 1000000) {Lc : List AObj} {i j k : Nat} {most : Int} (hi : Lc[i]? = some (.cells [.ptr j 0])) (hj : Lc[j]? = some (.cells [iA most, .mp k])) (hk : Lc[k]? = some (mapO kyD cD m c)) :
    IterS Tryz.prog 30 [] [.ptr i 0] Lc (fun y : Nat => Nat.beq y 0) 0 (fun y x y' => ∃ e, NxL m y e y' ∧ x = [.d (kyD e), .d (cD (verL m e))]) (fun y => y = m.length) := by
  intro us vs lp ρ0
  refine ⟨fun y vals y' => ∃ e, NxL m y e y' ∧ vals = [vOf (kyD e), vOf (cD (verL m e))], fun y vals y' h => ?_, ?_⟩
  · obtain ⟨e, h, rfl⟩ := h
    exact ⟨_, ⟨e, h, rfl⟩, fun w F ρ => .cons (FlatW.ra (.d (closed_flat (ky_cl _)))) (.cons (FlatW.ra (.d (closed_flat (closed_cD _)))) .nil)⟩
  intro J Jx hJ hN hNx hY O w h0
  obtain ⟨rfl, b, b2, bm, rfl, c1, c2, c3⟩ := sees_led hi hj hk ((hJ 0 O w h0).1 rfl)
  have hO0 := (hJ 0 O w h0).2
  have HJ := hide hJ
  have HN := hide hN
  have HF := hide hf
  have HM := hide hm
  have hK := fun W g bm' t (h1 : Blk W g t #[.map (some bm')]) (h2 : W.heap[bm']? = some (mapObj m c)) (h3 : g ≠ bm') => sortedKeys_any hf (Nat.le_trans hm (by decide)) W g bm' t h1 h2 h3
  have hC := mclone_any bm _ c w c3
  have HK := hide hK
  have HC := hide hC
  clear hJ hN hi hj hk hf hNx hm hK hC
  refine (callsIn_wide (n := 1)).1 (callsIn_of_wp Tryz.func30 rfl trivial ?_ rfl)
  simp only [Tryz.ntmps30, List.size_toArray, List.length_cons, List.length_nil, Nat.reduceAdd, Nat.reduceSub, Array.replicate_succ, Array.replicate_zero, List.push_toArray, List.append_toArray, List.nil_append, List.cons_append]
  have hg2 : Blk ((w.alloc (mapObj m c)).alloc (.cells #[.map (some w.heap.size)] 71)) (w.alloc (mapObj m c)).heap.size 71 #[.map (some w.heap.size)] := Blk.new (w.alloc (mapObj m c)) 71 #[.map (some w.heap.size)]
  have hb2 : ((w.alloc (mapObj m c)).alloc (.cells #[.map (some w.heap.size)] 71)).heap[w.heap.size]? = some (mapObj m c) := by
    rw [Below.heap_alloc _ _ _ (alloc_lt w _)]
    exact (MapKept.heap_alloc w _).1
  have hsf := HK.out _ _ _ _ hg2 hb2 (Nat.ne_of_gt (alloc_lt w _))
  simp only [World.size_alloc, mapObj] at hsf hb2
  have HSF := hide hsf
  have HB2 := hide hb2
  clear hg2 hb2 hsf
  gi_wp2_with (first | (refine And.intro trivial ?_; gi_at_call 29; refine callsIn_wide.2 (HC.out.mono ?_); rintro e w' ⟨rfl, rfl⟩) | (refine And.intro trivial ?_; gi_at_call 32; refine callsIn_wide.2 ((keysFn_any _ _).mono ?_); rintro e w' ⟨rfl, rfl⟩) | (refine And.intro trivial ?_; gi_at_call 31; refine callsIn_wide.2 (HSF.out.mono ?_); rintro e W3 ⟨A, cc, rfl, hnear, hun, hsees⟩))
  have hun' : ∀ b, b < w.heap.size → W3.heap[b]? = w.heap[b]? := fun b hb => by
    rw [hun b (by omega) (by omega), Below.heap_alloc _ _ _ (by rw [World.size_alloc]; omega), Below.heap_alloc _ _ _ hb]
  have hm3 : W3.heap[w.heap.size]? = some (.map (m.map (entryOf kyD cD)).toArray c) := by
    rw [hun _ (by omega) (by omega)]; exact HB2.out
  have hs3 : w.heap.size + 1 + 1 ≤ W3.heap.size := by have := hnear.2.2.2; simpa using this
  have hJ3 : J 0 O W3 := HN.out 0 O w W3 h0 ⟨hnear.1, hnear.2.1, hnear.2.2.1, by omega, fun b hb => hun' b (hO0 b hb)⟩
  have hO3 : ∀ b, w.heap.size ≤ b → ¬ O b := fun b hb h => by have := hO0 b h; omega
  clear hun hnear hun' c1 c2 c3 h0
  gi_loopw [15] (fun i wr => ∃ (y : Nat) (O : Nat → Prop), y ≤ m.length ∧ i = .int .i64 y ∧ J y O wr ∧ W3.heap.size ≤ wr.heap.size ∧ ∀ b, w.heap.size ≤ b → b < W3.heap.size → wr.heap[b]? = W3.heap[b]? ∧ ¬ O b) (fun i _ => m.length - (intOf i).toNat)
  case atStart => exact ⟨0, O, Nat.zero_le _, rfl, hJ3, Nat.le_refl _, fun b h1 _ => ⟨rfl, hO3 b h1⟩⟩
  case round =>
    obtain ⟨y, O1, hy, rfl, hJy, hsz, hkeep⟩ := hrel
    clear hJ3 hO3
    by_cases hy1 : y < m.length
    · obtain ⟨x, hx⟩ : ∃ x, (idsL m)[y]? = some x := ⟨(idsL m)[y]'(by rw [idsL_len]; exact hy1), List.getElem?_eq_getElem _⟩
      obtain ⟨q, off, rfl, hq1, hq2, d0, d1⟩ := hsees y x hx
      have hq := (hkeep q (by omega) hq2).1
      have e0 := (World.cell?_of_block hq).trans d0
      have e1 := (World.cell?_of_block hq).trans d1
      have hmr := (hkeep w.heap.size (Nat.le_refl _) (by omega)).1.trans hm3
      have hMM := HM.out
      have HX := hide (show NxL m y x (y + 1) from ⟨hx, rfl⟩)
      have HKp := hide hkeep
      have HSS := hide hsees
      clear d0 d1 hx hkeep hsees
      have hJ4 : J y O1 (wr.alloc (.cells #[.int .i64 x.1, .string x.2] 24)).drew := HN.out y O1 wr _ hJy ⟨rfl, rfl, rfl, by rw [show (wr.alloc (.cells #[.int .i64 x.1, .string x.2] 24)).drew.heap.size = wr.heap.size + 1 from World.size_alloc _ _]; omega, fun b hb => Below.heap_alloc wr _ _ ((HJ.out y O1 wr hJy).2 b hb)⟩
      have hm4 : (wr.alloc (.cells #[.int .i64 x.1, .string x.2] 24)).drew.heap[w.heap.size]? = some (.map (m.map (entryOf kyD cD)).toArray c) := (Below.heap_alloc wr _ _ (by omega)).trans hmr
      have hk4 : ∀ b, w.heap.size ≤ b → b < W3.heap.size → (wr.alloc (.cells #[.int .i64 x.1, .string x.2] 24)).drew.heap[b]? = W3.heap[b]? ∧ ¬ O1 b := fun b h1 h2 => ⟨(Below.heap_alloc wr _ _ (by omega)).trans (HKp.out b h1 h2).1, (HKp.out b h1 h2).2⟩
      have hs4 : W3.heap.size ≤ (wr.alloc (.cells #[.int .i64 x.1, .string x.2] 24)).drew.heap.size := by
        have : (wr.alloc (.cells #[.int .i64 x.1, .string x.2] 24)).drew.heap.size = wr.heap.size + 1 := World.size_alloc _ _
        omega
      have hb4 := Blk.new wr 24 #[.int .i64 x.1, .string x.2]
      have f0 := hb4.cell 0
      have f1 := hb4.cell 1
      simp only [List.getElem?_toArray, List.getElem?_cons_zero, List.getElem?_cons_succ] at f0 f1
      gi_wp2
      generalize hW4 : wr.alloc (.cells #[.int .i64 x.1, .string x.2] 24) = W4 at hJ4 hm4 hk4 hs4 f0 f1 ⊢
      have hlk := run_lookup (P := Tryz.prog) (w := W4.drew) (cm := false) (z := zC) (m := m) (c := c) (ek := kyD) (ev := cD) Tryz.underlying71 kyT (zero_run (by kernel_rfl)) hm4 x
      have hvv : vOf (cD ((findX m x).getD zC)) = .agg (clW (verL m x)) := rfl
      have hvk : vOf (kyD x) = .agg #[.int .i64 x.1, .string x.2] := rfl
      rw [hvv, hvk] at hlk
      obtain ⟨fn, tmps, assign, body, hyl, hR⟩ := hY y O1 W4.drew [.agg #[.int .i64 x.1, .string x.2], .agg (clW (verL m x))] (y + 1) ⟨x, HX.out, rfl⟩ hJ4
      have HK4 := hide hk4
      have HS4 := hide hs4
      have HJ4 := hide hJ4
      have HH4 := hide hm4
      generalize verL m x = vv at hlk hyl hR
      clear hk4 hs4 hJ4 hm4 hvv hvk hW4 hb4 e0 e1 hmr hq hJy
      gi_region_with (refine hR.mono ?_; rintro e W5 ⟨O', hfar, hO', hcase⟩; obtain ⟨bb, rfl, hcc1, hcc2⟩ := yield_two hcase)
      all_goals
        have hk5 : ∀ b, w.heap.size ≤ b → b < W3.heap.size → W5.heap[b]? = W3.heap[b]? ∧ ¬ O' b := fun b h1 h2 => by
          obtain ⟨g1, g2⟩ := HK4.out b h1 h2
          have hlt : b < W4.drew.heap.size := Nat.lt_of_lt_of_le h2 HS4.out
          refine ⟨(hfar.2.2.2.2 b hlt g2).trans g1, fun h => ?_⟩
          rcases hO' b h with h | h
          · exact g2 h
          · omega
        have hs5 : W3.heap.size ≤ W5.heap.size := Nat.le_trans HS4.out hfar.2.2.2.1
        have HK5 := hide hk5
        have HS5 := hide hs5
        clear hk5 hs5 hfar hO' hcase hR hyl hlk f0 f1
        cases bb
        · have HJx := hide (hcc2 rfl)
          clear hcc1 hcc2
          gi_wp2
          refine bodyPost_ret (results_none rfl _ _ _) rfl ?_
          exact ⟨⟨_, rfl⟩, _, .inr HJx.out⟩
        · have HJx := hide (hcc1 rfl)
          clear hcc1 hcc2
          gi_wp2
          go_roundw
          case rel => exact ⟨y + 1, O', by omega, by go_num, HJx.out, HS5.out, HK5.out⟩
          case measure => simp [intOf]; omega
    · obtain rfl : y = m.length := by omega
      gi_wp2
      go_end0
      exact ⟨⟨_, rfl⟩, O1, .inl ⟨m.length, rfl, hJy⟩⟩
theorem allIt {m : Sh} {c : Nat} (hf : fresh m c) (hm : m.length ≤ 1000000) {Lc : List AObj} {i j k : Nat} {most : Int} (hi : Lc[i]? = some (.cells [.ptr j 0])) (hj : Lc[j]? = some (.cells [iA most, .mp k])) (hk : Lc[k]? = some (mapO kyD cD m c)) :
    IterN Tryz.prog 30 [] [.ptr i 0] Lc 0 (fun y x y' => ∃ e, NxL m y e y' ∧ x = [.d (kyD e), .d (cD (verL m e))]) (fun y => y = m.length) := (allItS hf hm hi hj hk).toN
end Go.Proofs.YtbjmdnemeidpjaaGreat
/- The shelf: All, Clone, Close. -/
namespace Go.Proofs.YtbjmdnemeidpjaaGreat
set_option linter.unusedSimpArgs false
set_option linter.unusedVariables false
open Go.RowKit Go.Sort
set_option maxRecDepth 100000
theorem shAll_sat (most : Int) (m : Sh) (c : Nat) : Sat Tryz.prog 17 [.ptr 0 0] (shH most m c) (.fn (.func 30) [] [.ptr 2 0]) [.cells [iA most, .mp 1], shO m c, .cells [.ptr 0 0]] := by
  refine sat_of_vc (T := tiOf Tryz.prog) (E := E0) Tryz.func17 rfl rfl hE0 hm0 rfl ?_
  conv => whnf
  repeat' (first | exact True.intro | ((first | refine Or.inl ?_ | refine And.intro (fun _ => ?_) tf | refine And.intro ft (fun _ => ?_) | refine And.intro (by kernel_rfl) ?_ | refine And.intro (by decide) ?_ | refine And.intro (fun _ => ?_) (fun h => absurd h (by decide)) | refine And.intro (fun h => absurd h (by decide)) (fun _ => ?_) | fail); conv => whnf) | (refine And.intro (fun _ => ?_) (fun _ => ?_) <;> conv => whnf) | fail)
  all_goals refine ⟨[], ?_⟩
  repeat (any_goals (first | exact True.intro | exact rfl | with_reducible_and_instances rfl | exact (by kernel_rfl) | refine And.intro ?_ ?_))
  all_goals conv => whnf
theorem mclone_sat (m : Sh) (c : Nat) : Sat Tryz.prog 29 [.mp 0] [shO m c] (.mp 1) [shO m c, shO m c] := by
  intro F ρ w vals En hv
  obtain ⟨u, rfl, hu⟩ := hv.one_out
  obtain ⟨bm, rfl, q1, q2⟩ := En.mapAt (i := 0) rfl hu
  refine (mclone_any bm _ c w q2).mono ?_
  rintro e w' ⟨rfl, rfl⟩
  obtain ⟨S1, K1, E1⟩ := En.new (n := 1) (o' := shO m c) (h := .map (some w.heap.size)) rfl (World.grownBy_alloc w (.map (m.map (entryOf kyD cD)).toArray c) none) (fun b hb => by simp [blkOf] at hb; subst hb; exact ⟨Nat.le_refl _, alloc_lt _ _⟩)
    ⟨w.heap.size, .map (m.map (entryOf kyD cD)).toArray c, .inr rfl, (MapKept.heap_alloc w _).1, rfl⟩
  have eh : updF (hp [shO m c]) 1 (some (shO m c)) = hp [shO m c, shO m c] := (hp_app (l := [shO m c]) (L := [shO m c])).symm
  rw [eh] at S1 E1
  exact ⟨_, rfl, F, _, S1, K1, E1, .mp (updF_same _ _ _)⟩
theorem shClone_sat (most : Int) (m : Sh) (c : Nat) : Sat Tryz.prog 14 [.ptr 0 0] (shH most m c) (.ptr 3 0) [.cells [iA most, .mp 1], shO m c, shO m c, .cells [iA most, .mp 2]] := by
  have mc := mclone_sat m c
  refine sat_of_vc (T := tiOf Tryz.prog) (E := E0) Tryz.func14 rfl rfl hE0 hm0 rfl ?_
  conv => whnf
  iterate 2
    repeat' (first | exact True.intro | ((first | refine And.intro (fun _ => ?_) tf | refine And.intro ft (fun _ => ?_) | refine And.intro (by kernel_rfl) ?_ | refine And.intro (by decide) ?_ | refine And.intro (fun _ => ?_) (fun h => absurd h (by decide)) | refine And.intro (fun h => absurd h (by decide)) (fun _ => ?_) | refine ⟨_, _, mc.at1 1 rfl rfl rfl, ?_⟩ | fail); conv => whnf) | (refine And.intro (fun _ => ?_) (fun _ => ?_) <;> conv => whnf) | fail)
    all_goals try (refine Or.inl ?_; conv => whnf)
  all_goals refine ⟨[], ?_⟩
  repeat (any_goals (first | exact True.intro | exact rfl | with_reducible_and_instances rfl | exact (by kernel_rfl) | refine And.intro ?_ ?_))
  all_goals conv => whnf
/-- .. without these. -/
def delAll (ks : List KeyW) (m : Sh) : Sh := ks.foldl (fun m k => delX k m) m
/-- How many keys are of windows below. -/
def belowN (m : Sh) (b : Int) : Nat := ((idsL m).takeWhile fun k => decide (k.1 < b)).length
def outsL (m : Sh) (n : Nat) : List (KeyW × Cel) := ((idsL m).take n).map fun k => (k, verL m k)
def closedL (m : Sh) (n : Nat) : Sh := delAll ((idsL m).take n) m
theorem below_at {m : Sh} {b : Int} {y : Nat} (h : ∀ i k, i < y → (idsL m)[i]? = some k → k.1 < b) (hy : y ≤ m.length) (he : ∀ k, (idsL m)[y]? = some k → ¬ k.1 < b) : belowN m b = y := by
  rw [← idsL_len m] at hy
  unfold belowN
  generalize idsL m = l at *
  induction l generalizing y with
  | nil => simp at hy; simp [hy]
  | cons a l ih =>
    cases y with
    | zero =>
      have := he a rfl
      rw [List.takeWhile_cons, decide_eq_false this]; rfl
    | succ y =>
      have h0 := h 0 a (Nat.succ_pos _) rfl
      rw [List.takeWhile_cons, decide_eq_true h0]
      simp only [if_true, List.length_cons]
      rw [ih (y := y) (fun i k hi hk => h (i + 1) k (by omega) (by simpa using hk)) (by simpa using hy) (fun k hk => he k (by simpa using hk))]
theorem outsL_succ {m : Sh} {n : Nat} {k : KeyW} (h : (idsL m)[n]? = some k) : outsL m (n + 1) = outsL m n ++ [(k, verL m k)] := by
  unfold outsL
  rw [List.take_add_one, h, List.map_append]; rfl
theorem closedL_succ {m : Sh} {n : Nat} {k : KeyW} (h : (idsL m)[n]? = some k) : closedL m (n + 1) = delX k (closedL m n) := by
  unfold closedL delAll
  rw [List.take_add_one, h, List.foldl_append]; rfl
theorem outsL_len {m : Sh} {n : Nat} (h : n ≤ m.length) : (outsL m n).length = n := by
  unfold outsL
  rw [List.length_map, List.length_take, idsL_len]; omega
set_option maxHeartbeats 8000000 in
theorem shClose_sat (most : Int) (m : Sh) (c : Nat) (before : Int) (hm : ShI m c) (hlen : m.length ≤ 100000) : Sat Tryz.prog 15 [.ptr 0 0, iA before] (shH most m c) (.own 2) [.cells [iA most, .mp 1], shO (closedL m (belowN m before)) c, .sl 74 ((outsL m (belowN m before)).map outR)] := by
  have al := shAll_sat most m c
  refine sat_of_vc (T := tiOf Tryz.prog) (E := E0) Tryz.func15 rfl rfl hE0 hm0 rfl ?_
  conv => whnf
  iterate 3
    repeat' (first | exact True.intro | ((first | refine And.intro (fun _ => ?_) tf | refine And.intro ft (fun _ => ?_) | refine And.intro (by kernel_rfl) ?_ | refine And.intro (by decide) ?_ | refine And.intro (fun _ => ?_) (fun h => absurd h (by decide)) | refine And.intro (fun h => absurd h (by decide)) (fun _ => ?_) | refine ⟨_, _, al.at2 0 1 rfl rfl rfl rfl rfl, ?_⟩ | fail); conv => whnf) | (refine And.intro (fun _ => ?_) (fun _ => ?_) <;> conv => whnf) | fail)
    all_goals try (refine Or.inl ?_; conv => whnf)
  refine ⟨Nat, Nat, fun y z => z = y ∧ y ≤ m.length ∧ ∀ i k, i < y → (idsL m)[i]? = some k → k.1 < before, fun z => [.cells [iA most, .mp 1], shO (closedL m z) c, .cells [.ptr 0 0], .cells [iA before], .cells [.own 6], .cells [.ptr 0 0], .sl 74 ((outsL m z).map outR)], [(9, .fn (.func 30) [] [.ptr 5 0]), (5, .ptr 4 0), (3, .ptr 3 0), (2, .ptr 2 0)], 6, _, _, _, ([.cells [iA most, .mp 1], shO m c, .dead, .dead, .dead, .cells [.ptr 0 0]], some fun y => Nat.beq y 0), 0, _, _, ⟨0, ⟨rfl, Nat.zero_le _, fun i k h => absurd h (Nat.not_lt_zero i)⟩, ?_⟩, rfl, by kernel_rfl, ⟨rfl, allItS (i := 5) (j := 0) (k := 1) ⟨hm.fr.nd, hm.fr.lt⟩ (by omega) rfl rfl rfl⟩, ?_, ?_, ?_, ?_⟩
  · all_goals refine ⟨[], ?_⟩
    repeat (any_goals (first | exact True.intro | exact rfl | with_reducible_and_instances rfl | exact (by kernel_rfl) | refine And.intro ?_ ?_))
    all_goals conv => whnf
  · rintro y x y' ⟨e, _, rfl⟩; rfl
  · rintro y z ⟨rfl, _, _⟩
    refine ⟨fun hz => ?_, (show 6 ≤ 7 by decide)⟩
    have hz : z = 0 := Nat.eq_of_beq_eq_true hz
    subst hz
    exact ⟨rfl, rfl, rfl, trivial⟩
  · rintro y z x y' ⟨rfl, hy, hb⟩ ⟨k, ⟨hk, rfl⟩, rfl⟩
    have hlt : z < m.length := by have := (List.getElem?_eq_some_iff.1 hk).1; rwa [idsL_len] at this
    have hsn := outsL_succ hk
    have hcn := closedL_succ hk
    have hxl : (verL m k).h.length = 65 := (hm.ok.at_ k).1.hl
    have hol := outR_len (x := (k, verL m k)) hxl
    have hbo := build_out (k := k) hxl
    have hll : ((outsL m z).map outR).length = z := by rw [List.length_map, outsL_len hy]
    conv => whnf
    by_cases hlt2 : k.1 < before
    · iterate 6
        repeat' (first | exact True.intro | ((first | refine ⟨_, hbo, ?_⟩ | refine And.intro hol ?_ | refine ⟨_, drop_id, ?_⟩ | refine ⟨_, _, at_n, ?_⟩ | refine ⟨_, _, at_hi, ?_⟩ | refine ⟨_, _, at_lo, ?_⟩ | refine ⟨_, _, at_mn, ?_⟩ | refine ⟨_, _, at_mx, ?_⟩ | refine ⟨_, _, at_ce, ?_⟩ | refine ⟨_, _, at_po, ?_⟩ | refine ⟨_, whole_z sC, clenz sC, ?_⟩ | refine ⟨_, setzC, ?_⟩ | refine And.intro (clenz sC) ?_ | refine And.intro fitzC ?_ | refine ⟨_, whole_cell sC hxl, clen sC hxl, ?_⟩ | refine And.intro (clen sC hxl) ?_ | refine And.intro (fitC hxl) ?_ | refine ⟨_, setC hxl, ?_⟩ | refine ⟨_, whole_z sF, clenz sF, ?_⟩ | refine ⟨_, setzF, ?_⟩ | refine And.intro (clenz sF) ?_ | refine And.intro fitzF ?_ | refine ⟨_, whole_cell sF hxl, clen sF hxl, ?_⟩ | refine And.intro (clen sF hxl) ?_ | refine And.intro (fitF hxl) ?_ | refine ⟨_, setF hxl, ?_⟩ | refine And.intro (fit1 hxl (by decide)) ?_ | refine And.intro (fit1 rfl (by decide)) ?_ | refine ⟨_, sum_cell s25, rfl, ?_⟩ | refine ⟨_, set_n _, ?_⟩ | refine ⟨_, set_mn _, ?_⟩ | refine ⟨_, set_mx _, ?_⟩ | refine ⟨_, set_ce _, ?_⟩ | refine ⟨_, set_po _, ?_⟩ | refine ⟨_, set_s _, ?_⟩ | refine ⟨_, set_hi _, ?_⟩ | refine ⟨_, set_lo _, ?_⟩ | refine And.intro (fun _ => ?_) tf | refine And.intro ft (fun _ => ?_) | refine And.intro (by kernel_rfl) ?_ | refine And.intro (by decide) ?_ | refine And.intro (fun _ => ?_) (fun h => absurd h (by decide)) | refine And.intro (fun h => absurd h (by decide)) (fun _ => ?_) | refine ⟨_, _, sh_del (k := k) rfl, ?_⟩ | refine ⟨_, _, ap 74 600 (by kernel_rfl) rfl rfl (by simp [hll]; omega), ?_⟩ | fail); conv => whnf) | (refine And.intro (fun _ => ?_) (fun _ => ?_) <;> conv => whnf) | fail)
        all_goals try (refine Or.inl ?_; conv => whnf)
      · exact (bno ‹_› (decide_eq_false (show ¬ k.1 ≥ before by omega))).elim
      refine ⟨z + 1, ⟨rfl, hlt, fun i q hi hq => ?_⟩, ?_⟩
      · by_cases e : i = z
        · subst e; rw [hk] at hq; rw [← Option.some.inj hq]; exact hlt2
        · exact hb i q (by omega) hq
      all_goals refine ⟨[(6, 10)], ?_⟩
      repeat (any_goals (first | exact True.intro | exact rfl | with_reducible_and_instances rfl | exact (by kernel_rfl) | refine And.intro ?_ ?_))
      all_goals conv => whnf
      · rw [hcn]
      · rw [hsn, List.map_append]; rfl
    · iterate 6
        repeat' (first | exact True.intro | ((first | refine ⟨_, hbo, ?_⟩ | refine And.intro hol ?_ | refine ⟨_, drop_id, ?_⟩ | refine ⟨_, _, at_n, ?_⟩ | refine ⟨_, _, at_hi, ?_⟩ | refine ⟨_, _, at_lo, ?_⟩ | refine ⟨_, _, at_mn, ?_⟩ | refine ⟨_, _, at_mx, ?_⟩ | refine ⟨_, _, at_ce, ?_⟩ | refine ⟨_, _, at_po, ?_⟩ | refine ⟨_, whole_z sC, clenz sC, ?_⟩ | refine ⟨_, setzC, ?_⟩ | refine And.intro (clenz sC) ?_ | refine And.intro fitzC ?_ | refine ⟨_, whole_cell sC hxl, clen sC hxl, ?_⟩ | refine And.intro (clen sC hxl) ?_ | refine And.intro (fitC hxl) ?_ | refine ⟨_, setC hxl, ?_⟩ | refine ⟨_, whole_z sF, clenz sF, ?_⟩ | refine ⟨_, setzF, ?_⟩ | refine And.intro (clenz sF) ?_ | refine And.intro fitzF ?_ | refine ⟨_, whole_cell sF hxl, clen sF hxl, ?_⟩ | refine And.intro (clen sF hxl) ?_ | refine And.intro (fitF hxl) ?_ | refine ⟨_, setF hxl, ?_⟩ | refine And.intro (fit1 hxl (by decide)) ?_ | refine And.intro (fit1 rfl (by decide)) ?_ | refine ⟨_, sum_cell s25, rfl, ?_⟩ | refine ⟨_, set_n _, ?_⟩ | refine ⟨_, set_mn _, ?_⟩ | refine ⟨_, set_mx _, ?_⟩ | refine ⟨_, set_ce _, ?_⟩ | refine ⟨_, set_po _, ?_⟩ | refine ⟨_, set_s _, ?_⟩ | refine ⟨_, set_hi _, ?_⟩ | refine ⟨_, set_lo _, ?_⟩ | refine And.intro (fun _ => ?_) tf | refine And.intro ft (fun _ => ?_) | refine And.intro (by kernel_rfl) ?_ | refine And.intro (by decide) ?_ | refine And.intro (fun _ => ?_) (fun h => absurd h (by decide)) | refine And.intro (fun h => absurd h (by decide)) (fun _ => ?_) | refine ⟨_, _, sh_del (k := k) rfl, ?_⟩ | refine ⟨_, _, ap 74 600 (by kernel_rfl) rfl rfl (by simp [hll]; omega), ?_⟩ | fail); conv => whnf) | (refine And.intro (fun _ => ?_) (fun _ => ?_) <;> conv => whnf) | fail)
        all_goals try (refine Or.inl ?_; conv => whnf)
      · have hbn := below_at hb hy (fun q hq => by rw [hk] at hq; rw [← Option.some.inj hq]; exact hlt2)
        rw [hbn]
        all_goals refine ⟨[(2, 6)], ?_⟩
        repeat (any_goals (first | exact True.intro | exact rfl | with_reducible_and_instances rfl | exact (by kernel_rfl) | refine And.intro ?_ ?_))
        all_goals conv => whnf
      · exact (bno (decide_eq_true (show k.1 ≥ before by omega)) ‹_›).elim
  · rintro y z hF ⟨rfl, hy, hb⟩
    have hF : z = m.length := hF
    have hbn := below_at hb hy (fun k hk => by have := (List.getElem?_eq_some_iff.1 hk).1; rw [idsL_len] at this; omega)
    rw [hbn]
    conv => whnf
    iterate 4
      repeat' (first | exact True.intro | ((first | refine And.intro (fun _ => ?_) tf | refine And.intro ft (fun _ => ?_) | refine And.intro (by kernel_rfl) ?_ | refine And.intro (by decide) ?_ | refine And.intro (fun _ => ?_) (fun h => absurd h (by decide)) | refine And.intro (fun h => absurd h (by decide)) (fun _ => ?_) | fail); conv => whnf) | (refine And.intro (fun _ => ?_) (fun _ => ?_) <;> conv => whnf) | fail)
      all_goals try (refine Or.inl ?_; conv => whnf)
    all_goals refine ⟨[(2, 6)], ?_⟩
    repeat (any_goals (first | exact True.intro | exact rfl | with_reducible_and_instances rfl | exact (by kernel_rfl) | refine And.intro ?_ ?_))
    all_goals conv => whnf
end Go.Proofs.YtbjmdnemeidpjaaGreat
/- The document's shelf in plain Lean: rows in order, looked up, laid and taken. -/
namespace Go.Proofs.YtbjmdnemeidpjaaGreat
set_option linter.unusedSimpArgs false
set_option linter.unusedVariables false
open Go.RowKit Go.Sort
set_option maxRecDepth 100000
def lookD (R : List Rw) (k : KeyW) : Option Cel := (R.find? fun y => decide (y.1 = k)).map (·.2)
def setD (R : List Rw) (k : KeyW) (c : Cel) : List Rw := R.map fun y => if y.1 = k then (k, c) else y
def putD (R : List Rw) (k : KeyW) (c : Cel) : List Rw := if (lookD R k).isSome then setD R k c else insD R (k, c)
theorem findD_none {R : List Rw} {k : KeyW} (h : lookD R k = none) : findD R k = -1 := by
  unfold lookD at h
  rw [Option.map_eq_none_iff, List.find?_eq_none] at h
  have : R.findIdx? (fun f => decide (f.1 = k)) = none := by
    rw [List.findIdx?_eq_none_iff]
    intro x hx
    exact Bool.eq_false_iff.2 (h x hx)
  unfold findD; rw [this]
theorem findD_some {R : List Rw} {k : KeyW} {c : Cel} (h : lookD R k = some c) : ∃ i : Nat, i < R.length ∧ findD R k = (i : Int) ∧ R[i]? = some (k, c) := by
  induction R with
  | nil => unfold lookD at h; simp at h
  | cons y R ih =>
    by_cases e : y.1 = k
    · have : lookD (y :: R) k = some y.2 := by unfold lookD; rw [List.find?_cons_of_pos (by simpa using e), Option.map_some]
      rw [this] at h
      refine ⟨0, Nat.succ_pos _, ?_, ?_⟩
      · unfold findD; rw [List.findIdx?_cons, if_pos (by simpa using e)]
      · rw [← Option.some.inj h, ← e]; rfl
    · have : lookD (y :: R) k = lookD R k := by unfold lookD; rw [List.find?_cons_of_neg (by simpa using e)]
      rw [this] at h
      obtain ⟨i, h1, h2, h3⟩ := ih h
      refine ⟨i + 1, Nat.succ_lt_succ h1, ?_, h3⟩
      unfold findD at h2 ⊢
      rw [List.findIdx?_cons, if_neg (by simpa using e)]
      cases hf : R.findIdx? fun f => decide (f.1 = k) with
      | none => rw [hf] at h2; simp only at h2; omega
      | some j => rw [hf] at h2; simp only [Option.map_some] at h2 ⊢; omega
theorem findD_neg (R : List Rw) (k : KeyW) : decide (findD R k < 0) = (lookD R k).isNone := by
  cases h : lookD R k with
  | none => rw [findD_none h]; rfl
  | some c =>
    obtain ⟨i, _, e, _⟩ := findD_some h
    rw [e]
    exact decide_eq_false (by omega)
theorem look_app (A B : List Rw) (k : KeyW) : lookD (A ++ B) k = (lookD A k).or (lookD B k) := by
  unfold lookD
  rw [List.find?_append]
  cases A.find? (fun y => decide (y.1 = k)) <;> rfl
theorem look_cons (x : Rw) (B : List Rw) (k : KeyW) : lookD (x :: B) k = if x.1 = k then some x.2 else lookD B k := by
  unfold lookD
  by_cases e : x.1 = k
  · rw [List.find?_cons_of_pos (by simpa using e), if_pos e]; rfl
  · rw [List.find?_cons_of_neg (by simpa using e), if_neg e]
theorem look_none {R : List Rw} {k : KeyW} : lookD R k = none ↔ ∀ y ∈ R, y.1 ≠ k := by
  unfold lookD
  rw [Option.map_eq_none_iff, List.find?_eq_none]
  simp
theorem cut_join (R : List Rw) (x : KeyW) : R.takeWhile (befD x) ++ R.dropWhile (befD x) = R := List.takeWhile_append_dropWhile
theorem look_ins {R : List Rw} {x : Rw} (h : lookD R x.1 = none) (k : KeyW) : lookD (insD R x) k = if k = x.1 then some x.2 else lookD R k := by
  unfold insD
  have hj := cut_join R x.1
  rw [look_app, look_cons]
  by_cases e : k = x.1
  · subst e
    rw [← hj, look_app] at h
    have h1 : lookD (R.takeWhile (befD x.1)) x.1 = none := (Option.or_eq_none_iff.1 h).1
    rw [h1, if_pos rfl, if_pos rfl]; rfl
  · rw [if_neg e, if_neg fun q => e q.symm, ← look_app, hj]
theorem so_ins {R : List Rw} (hs : SoD R) {x : Rw} (h : lookD R x.1 = none) : SoD (insD R x) := by
  have hn := look_none.1 h
  unfold SoD insD
  have hs' : (R.takeWhile (befD x.1) ++ R.dropWhile (befD x.1)).Pairwise fun a b => ltK a.1 b.1 := by rw [cut_join]; exact hs
  rw [List.pairwise_append] at hs' ⊢
  obtain ⟨h1, h2, h3⟩ := hs'
  refine ⟨h1, List.pairwise_cons.2 ⟨fun y hy => ?_, h2⟩, fun a ha b hb => ?_⟩
  · obtain ⟨j, hj⟩ := List.mem_iff_getElem?.1 hy
    have : R[(R.takeWhile (befD x.1)).length + j]? = some y := by
      rw [← (take_while (befD x.1) R).2, List.getElem?_drop] at hj; exact hj
    exact cut_behind hs (Nat.le_add_right _ _) this
  · have hab : ¬ ltK x.1 a.1 := by
      have := List.all_eq_true.1 (List.all_takeWhile (p := befD x.1) (l := R)) _ ha
      unfold befD at this
      simpa using this
    have hax : ltK a.1 x.1 := (ltK_total a.1 x.1).elim id fun e => e.elim (fun e => absurd e (hn a ((List.takeWhile_prefix _).subset ha))) fun e => absurd e hab
    rcases List.mem_cons.1 hb with q | q
    · rw [q]; exact hax
    · exact h3 a ha b q
theorem set_keys (R : List Rw) (k : KeyW) (c : Cel) : (setD R k c).map (·.1) = R.map (·.1) := by
  unfold setD
  rw [List.map_map]
  refine List.map_congr_left fun y _ => ?_
  show (if y.1 = k then (k, c) else y).1 = y.1
  split
  · rename_i e; exact e.symm
  · rfl
theorem so_keys (R : List Rw) : SoD R ↔ (R.map (·.1)).Pairwise ltK := by unfold SoD; rw [List.pairwise_map]
theorem so_set {R : List Rw} (hs : SoD R) (k : KeyW) (c : Cel) : SoD (setD R k c) := by
  rw [so_keys] at hs ⊢
  rw [set_keys]; exact hs
theorem look_set (R : List Rw) (k : KeyW) (c : Cel) (k' : KeyW) : lookD (setD R k c) k' = if k' = k then (lookD R k).map (fun _ => c) else lookD R k' := by
  induction R with
  | nil => unfold setD lookD; simp
  | cons y R ih =>
    have e : setD (y :: R) k c = (if y.1 = k then (k, c) else y) :: setD R k c := rfl
    rw [e, look_cons, look_cons, look_cons, ih]
    by_cases h : k' = k
    · subst h
      rw [if_pos rfl, if_pos rfl]
      by_cases g : y.1 = k'
      · rw [if_pos g, if_pos rfl, if_pos g]; rfl
      · rw [if_neg g, if_neg g, if_neg g]
    · rw [if_neg h, if_neg h]
      by_cases g : y.1 = k
      · rw [if_pos g, if_neg (fun q => h q.symm), if_neg (fun q => h (q.symm.trans g))]
      · rw [if_neg g]
theorem so_nodup {R : List Rw} (hs : SoD R) : (R.map (·.1)).Nodup := by
  rw [so_keys] at hs
  exact hs.imp fun h e => by rw [e] at h; exact ltK_irrefl _ h
theorem set_at {R : List Rw} (hs : SoD R) {k : KeyW} {c c' : Cel} {i : Nat} (h : R[i]? = some (k, c)) : R.set i (k, c') = setD R k c' := by
  have hn := so_nodup hs
  clear hs
  induction R generalizing i with
  | nil => simp at h
  | cons y R ih =>
    have e : setD (y :: R) k c' = (if y.1 = k then (k, c') else y) :: setD R k c' := rfl
    rw [List.map_cons, List.nodup_cons] at hn
    cases i with
    | zero =>
      have h : y = (k, c) := Option.some.inj h
      subst h
      rw [List.set_cons_zero, e, if_pos rfl]
      congr 1
      unfold setD
      refine (List.map_id' R).symm.trans (List.map_congr_left fun y hy => ?_)
      show y = if y.1 = k then (k, c') else y
      rw [if_neg]
      intro q
      exact hn.1 (by show k ∈ _; rw [← q]; exact List.mem_map_of_mem hy)
    | succ i =>
      have h : R[i]? = some (k, c) := by simpa using h
      rw [List.set_cons_succ, e, ih h hn.2, if_neg]
      intro q
      exact hn.1 (by rw [q]; exact List.mem_map.2 ⟨(k, c), List.mem_of_getElem? h, rfl⟩)
theorem look_mem {R : List Rw} {k : KeyW} {c : Cel} (h : lookD R k = some c) : (k, c) ∈ R := by
  obtain ⟨i, _, _, h⟩ := findD_some h
  exact List.mem_of_getElem? h
theorem set_ins {R : List Rw} {k : KeyW} (h : lookD R k = none) (c c' : Cel) : setD (insD R (k, c)) k c' = insD R (k, c') := by
  have hn := look_none.1 h
  unfold insD setD
  have e : ∀ l : List Rw, (∀ y ∈ l, y.1 ≠ k) → l.map (fun y => if y.1 = k then (k, c') else y) = l := fun l hl =>
    (List.map_congr_left fun y hy => by rw [if_neg (hl y hy)]).trans (List.map_id' l)
  rw [List.map_append, List.map_cons, e _ fun y hy => hn y ((List.takeWhile_prefix _).subset hy), e _ fun y hy => hn y ((List.dropWhile_suffix _).subset hy)]
  simp
theorem ins_len (R : List Rw) (x : Rw) : (insD R x).length = R.length + 1 := by
  have := congrArg List.length (cut_join R x.1)
  rw [List.length_append] at this
  unfold insD
  rw [List.length_append, List.length_cons]; omega
theorem put_len (R : List Rw) (k : KeyW) (c : Cel) : (putD R k c).length ≤ R.length + 1 := by
  unfold putD
  split
  · unfold setD; rw [List.length_map]; omega
  · rw [ins_len]; omega
theorem so_put {R : List Rw} (hs : SoD R) (k : KeyW) (c : Cel) : SoD (putD R k c) := by
  unfold putD
  split
  · exact so_set hs k c
  · rename_i h
    exact so_ins hs (x := (k, c)) (by simpa using h)
theorem look_put (R : List Rw) (k : KeyW) (c : Cel) (k' : KeyW) : lookD (putD R k c) k' = if k' = k then some c else lookD R k' := by
  unfold putD
  split
  · rename_i h
    rw [look_set]
    obtain ⟨c0, h0⟩ := Option.isSome_iff_exists.1 h
    rw [h0]; rfl
  · rename_i h
    exact look_ins (x := (k, c)) (by simpa using h) k'
/-- What the document's rows keep. -/
structure RwI (R : List Rw) : Prop where
  so : SoD R
  ok : ∀ y ∈ R, CelOK y.2
  rt : ∀ y ∈ R, RightC y.2
theorem RwI.nil : RwI [] := ⟨List.Pairwise.nil, fun y h => (by cases h), fun y h => (by cases h)⟩
theorem RwI.hl {R : List Rw} (h : RwI R) : ∀ y ∈ R, y.2.h.length = 65 := fun y hy => (h.ok y hy).hl
theorem put_mem {R : List Rw} {k : KeyW} {c : Cel} {y : Rw} (h : y ∈ putD R k c) : y ∈ R ∨ y = (k, c) := by
  unfold putD at h
  split at h
  · unfold setD at h
    obtain ⟨z, hz, rfl⟩ := List.mem_map.1 h
    split
    · exact .inr rfl
    · exact .inl hz
  · unfold insD at h
    rcases List.mem_append.1 h with q | q
    · exact .inl ((List.takeWhile_prefix _).subset q)
    · rcases List.mem_cons.1 q with q | q
      · exact .inr q
      · exact .inl ((List.dropWhile_suffix _).subset q)
theorem RwI.put {R : List Rw} (h : RwI R) (k : KeyW) {c : Cel} (h1 : CelOK c) (h2 : RightC c) : RwI (putD R k c) :=
  ⟨so_put h.so k c, fun y hy => (put_mem hy).elim (h.ok y) (fun e => by rw [e]; exact h1), fun y hy => (put_mem hy).elim (h.rt y) (fun e => by rw [e]; exact h2)⟩
theorem RwI.look {R : List Rw} (h : RwI R) (k : KeyW) : CelOK ((lookD R k).getD zC) ∧ RightC ((lookD R k).getD zC) := by
  cases h' : lookD R k with
  | none => exact ⟨zC_ok, right_iff.1 rightC_zC⟩
  | some c => exact ⟨h.ok _ (look_mem h'), h.rt _ (look_mem h')⟩
/-! ### the document's functions, in plain Lean -/
def lackD (R : List Rw) (first : Int) (s : ByteArray) (n : Nat) : Nat := (List.range n).countP fun (j : Nat) => (lookD R (first + (j : Int), s)).isNone
theorem lackD_succ (R : List Rw) (first : Int) (s : ByteArray) (n : Nat) : lackD R first s (n + 1) = lackD R first s n + if (lookD R (first + (n : Int), s)).isNone then 1 else 0 := by
  unfold lackD
  rw [List.range_succ, List.countP_append, List.countP_cons, List.countP_nil]
  simp
theorem lackD_le (R : List Rw) (first : Int) (s : ByteArray) (n : Nat) : lackD R first s n ≤ n := by
  unfold lackD
  have := List.countP_le_length (p := fun (j : Nat) => (lookD R (first + (j : Int), s)).isNone) (l := List.range n)
  simpa using this
def dRoom (most : Int) (R : List Rw) (first last : Int) (s : ByteArray) : Bool := if last < first then false else if most ≤ last - first then false else decide (((R.length + lackD R first s ((last - first).toNat + 1) : Nat) : Int) ≤ most)
def cellD (R : List Rw) (k : KeyW) : Cel := (lookD R k).getD zC
def notedD (R : List Rw) (first : Int) (s : ByteArray) (b : Bool) (n : Nat) : List Rw := (keysN first s n).map fun k => (k, (noteC (cellD R k) b).1)
def notD (R : List Rw) (first : Int) (s : ByteArray) (b : Bool) (n : Nat) : Bool := (keysN first s n).all fun k => decide ((noteC (cellD R k) b).2 = 0)
def putAllD (l : List Rw) (R : List Rw) : List Rw := l.foldl (fun R x => putD R x.1 x.2) R
def dNote (most : Int) (R : List Rw) (first last : Int) (s : ByteArray) : List Rw × Int := if last < first then (R, 10) else if dRoom most R first last s = false then (R, 20) else
  if notD R first s (decide (first = last)) ((last - first).toNat + 1) then (putAllD (notedD R first s (decide (first = last)) ((last - first).toNat + 1)) R, 0) else (R, 12)
def dCount (R : List Rw) (k : KeyW) (v : Int) : List Rw × Int := match lookD R k with
  | none => (R, 19)
  | some x => if (addC x v).2 = 0 then (setD R k (addC x v).1, 0) else (R, (addC x v).2)
def cutW (R : List Rw) (b : Int) : Nat := (R.takeWhile fun y => decide (y.1.1 < b)).length
def dSet (most : Int) (R : List Rw) (x : Rw) : List Rw × Int := if (lookD R x.1).isSome then (R, 18) else if rightC x.2 = false then (R, 10) else if most ≤ R.length then (R, 20) else (insD R x, 0)
theorem notedD_succ (R : List Rw) (first : Int) (s : ByteArray) (b : Bool) (n : Nat) : notedD R first s b (n + 1) = notedD R first s b n ++ [((first + (n : Int), s), (noteC (cellD R (first + (n : Int), s)) b).1)] := by
  unfold notedD; rw [keysN_succ, List.map_append]; rfl
theorem notD_succ (R : List Rw) (first : Int) (s : ByteArray) (b : Bool) (n : Nat) : notD R first s b (n + 1) = (notD R first s b n && decide ((noteC (cellD R (first + (n : Int), s)) b).2 = 0)) := by
  unfold notD; rw [keysN_succ, List.all_append, List.all_cons, List.all_nil, Bool.and_true]
theorem notD_le {R : List Rw} {first : Int} {s : ByteArray} {b : Bool} {i n : Nat} (h : notD R first s b n = true) (hi : i ≤ n) : notD R first s b i = true := by
  induction n with
  | zero => have : i = 0 := by omega
            subst this; exact h
  | succ n ih =>
    by_cases e : i = n + 1
    · subst e; exact h
    · rw [notD_succ, Bool.and_eq_true] at h
      exact ih h.1 (by omega)
/-- The rows behind n windows. -/
def midN (R : List Rw) (first : Int) (s : ByteArray) (b : Bool) (n : Nat) : List Rw := putAllD (notedD R first s b n) R
theorem midN_succ (R : List Rw) (first : Int) (s : ByteArray) (b : Bool) (n : Nat) : midN R first s b (n + 1) = putD (midN R first s b n) (first + (n : Int), s) (noteC (cellD R (first + (n : Int), s)) b).1 := by
  unfold midN putAllD
  rw [notedD_succ, List.foldl_append]; rfl
theorem midN_look (R : List Rw) (first : Int) (s : ByteArray) (b : Bool) : ∀ (n : Nat) (k : KeyW), (∀ i : Nat, i < n → k ≠ (first + (i : Int), s)) → lookD (midN R first s b n) k = lookD R k
  | 0, k, _ => rfl
  | n + 1, k, h => by
    rw [midN_succ, look_put, if_neg (h n (Nat.lt_succ_self n))]
    exact midN_look R first s b n k fun i hi => h i (by omega)
theorem midN_next (R : List Rw) (first : Int) (s : ByteArray) (b : Bool) (n : Nat) : lookD (midN R first s b n) (first + (n : Int), s) = lookD R (first + (n : Int), s) :=
  midN_look R first s b n _ fun i hi e => by injection e with e; omega
theorem midN_I {R : List Rw} (h : RwI R) (first : Int) (s : ByteArray) (b : Bool) : ∀ n, RwI (midN R first s b n)
  | 0 => h
  | n + 1 => by
    rw [midN_succ]
    have hl := h.look (first + (n : Int), s)
    exact (midN_I h first s b n).put _ (noteC_okA hl.1) (noteC_rightA hl.2)
theorem midN_len (R : List Rw) (first : Int) (s : ByteArray) (b : Bool) : ∀ n, (midN R first s b n).length ≤ R.length + n
  | 0 => Nat.le_refl _
  | n + 1 => by
    rw [midN_succ]
    have := midN_len R first s b n
    have := put_len (midN R first s b n) (first + (n : Int), s) (noteC (cellD R (first + (n : Int), s)) b).1
    omega
end Go.Proofs.YtbjmdnemeidpjaaGreat
/- code, by conditions: Uints, Ints, Texts, bytes.Clone; the reader. -/
namespace Go.Proofs.YtbjmdnemeidpjaaGreat
set_option linter.unusedSimpArgs false
set_option linter.unusedVariables false
open Go.RowKit
set_option maxRecDepth 100000
section
variable {P : Program} {g : FuncId}
end
abbrev byD (x : UInt8) : D := .v (.int .u8 (x.toNat : Int))
abbrev bR (x : UInt8) : List D := [byD x]
abbrev bsD (l : List UInt8) : D := .sl 1 (l.map bR)
abbrev uR (x : Nat) : List D := [.v (.int .u64 (x : Int))]
abbrev styD (s : ByteArray) : D := .v (.string s)
/-- A reader: what is left, its error. -/
abbrev rdO (l : List UInt8) (e : Int) : AObj := .cells [.d (bsD l), iA e]
end Go.Proofs.YtbjmdnemeidpjaaGreat
/- Strings and bytes: conversions as operations; wide.Bytes, wide.Back. -/
namespace Go.Proofs.YtbjmdnemeidpjaaGreat
set_option linter.unusedSimpArgs false
set_option linter.unusedVariables false
open Go.RowKit
set_option maxRecDepth 100000
end Go.Proofs.YtbjmdnemeidpjaaGreat
/- wide.Bytes, wide.Back at 13. -/
namespace Go.Proofs.YtbjmdnemeidpjaaGreat
set_option linter.unusedSimpArgs false
set_option linter.unusedVariables false
open Go.RowKit
set_option maxRecDepth 100000
abbrev b13 : List UInt8 := [0, 0, 0, 0, 0, 0, 0, 0, 0, 0, 0, 0, 0, 0, 0, 13]
abbrev b00 : List UInt8 := [0, 0, 0, 0, 0, 0, 0, 0, 0, 0, 0, 0, 0, 0, 0, 0]
end Go.Proofs.YtbjmdnemeidpjaaGreat
/- wide.Back at 13. -/
namespace Go.Proofs.YtbjmdnemeidpjaaGreat
set_option linter.unusedSimpArgs false
set_option linter.unusedVariables false
open Go.RowKit
set_option maxRecDepth 100000
end Go.Proofs.YtbjmdnemeidpjaaGreat
/- Bytes of one cell. -/
namespace Go.Proofs.YtbjmdnemeidpjaaGreat
set_option linter.unusedSimpArgs false
set_option linter.unusedVariables false
open Go.RowKit
set_option maxRecDepth 100000
def hMM : List Int := [2, 0, 0, 2, 0, 1] ++ List.replicate 59 0
abbrev b20 : List UInt8 := [5, 0, 0, 1, 18, 16] ++ b13
abbrev bM : List UInt8 := b20 ++ [3] ++ [0, 2, 3, 2, 5, 1]
end Go.Proofs.YtbjmdnemeidpjaaGreat
/- Back of these bytes. -/
namespace Go.Proofs.YtbjmdnemeidpjaaGreat
set_option linter.unusedSimpArgs false
set_option linter.unusedVariables false
open Go.RowKit
set_option maxRecDepth 100000
def hk : Nat → List Int
  | 0 => z65
  | 1 => [2] ++ List.replicate 64 0
  | 2 => [2, 0, 0, 2] ++ List.replicate 61 0
  | _ => hMM
end Go.Proofs.YtbjmdnemeidpjaaGreat
/- alive of the law 21. -/
namespace Go.Proofs.YtbjmdnemeidpjaaGreat
set_option linter.unusedSimpArgs false
set_option linter.unusedVariables false
open Go.RowKit
set_option maxRecDepth 100000
def hc2 : List Int := [1, 0, 0, 1] ++ List.replicate 61 0
def hd3 : List Int := [1, 0, 0, 1, 0, 1] ++ List.replicate 59 0
def c2 : Cel := ⟨2, 2, -1, 3, 0, 0, hc2⟩
def c3 : Cel := ⟨3, 11, -1, 9, 0, 0, hd3⟩
def c1 : Cel := ⟨1, 0, 0, 0, 0, 0, z65⟩
end Go.Proofs.YtbjmdnemeidpjaaGreat
/- CellParts: the cell of values is that of their parts, merged. -/
namespace Go.Proofs.YtbjmdnemeidpjaaGreat
set_option linter.unusedSimpArgs false
set_option linter.unusedVariables false
open Go.RowKit
set_option maxRecDepth 100000
theorem flat_cD (c : Cel) : flatD (cD c) = true := by
  show flatD (.agg (iD c.n :: iD (hiZ c.s) :: uZ (loZ c.s) :: iD c.mn :: iD c.mx :: iD c.ce :: iD c.po :: hR c.h)) = true
  simp only [flatD, flatDs, flat_hR, Bool.and_true]
theorem flat_cA (c : Cel) : flatA (.d (cD c)) = true := by rw [flatA]; exact flat_cD c
theorem flat_cE (c : Cel) (e : Int) : flatA (.tup [.d (cD c), iA e]) = true := by
  rw [flatA, flatAs, flatAs, flatAs, flat_cA]; rfl
theorem full_two (c d : Cel) : full [c, d] = (if c.n = 0 then [] else [c]) ++ (if d.n = 0 then [] else [d]) := by
  unfold full
  by_cases h : c.n = 0 <;> by_cases h' : d.n = 0 <;> simp [h, h']
end Go.Proofs.YtbjmdnemeidpjaaGreat
