/- Parts PrA, PrB, PrC, PrD, PrE, PrF, PrG, PrQ of the proof, put together. -/
import Derived.Test.YtamomaihmfdebaaM5
/- probe: slices.Delete, IndexFunc, DeleteFunc at what is out. -/
namespace Go.Proofs.Ytamomaihmfdebaa
set_option linter.unusedSimpArgs false
set_option linter.unusedVariables false
open Go.RowKit
set_option maxRecDepth 100000
def sntR (x : Snt) : List D := [iD x.b, iD x.c, iD x.g, iD x.e, iD x.a]
abbrev sntD (x : Snt) : D := .agg (sntR x)
abbrev ncD (n : NonceP) : D := .agg [iD n.1, iD n.2]
def snt0 : Snt := ⟨0, 0, 0, 0, 0⟩
theorem bno {a : Bool} (h : a = true) (q : a = false) : False := by rw [h] at q; exact Bool.noConfusion q
theorem bneB (a b : Int) : (a == b) = decide (a = b) := by rw [Bool.eq_iff_iff, beq_iff_eq, decide_eq_true_eq]
theorem zrow_snt : zrow Try.prog 46 = sntR snt0 := by kernel_rfl
theorem piece_rows (out : List Snt) (i j : Nat) (hij : i < j) (hj : j ≤ out.length) : ((out.map sntR).take i ++ (out.map sntR).drop j ++ (out.map sntR).drop (i + ((out.map sntR).length - j))).take (i + ((out.map sntR).length - j) - 0) ++ List.replicate ((out.map sntR).length - (i + ((out.map sntR).length - j) - 0)) (sntR snt0) ++
      ((out.map sntR).take i ++ (out.map sntR).drop j ++ (out.map sntR).drop (i + ((out.map sntR).length - j))).drop (out.map sntR).length = (out.take i ++ out.drop j ++ List.replicate (j - i) snt0).map sntR := by
  have hm : (out.map sntR).length = out.length := List.length_map _
  rw [List.map_append, List.map_append, List.map_replicate, List.map_take, List.map_drop]
  generalize out.map sntR = R at *
  rw [← hm] at hj
  have hd : (R.take i ++ R.drop j ++ R.drop (i + (R.length - j))).drop R.length = [] := List.drop_of_length_le (by simp only [List.length_append, List.length_take, List.length_drop]; omega)
  have ht : (R.take i ++ R.drop j ++ R.drop (i + (R.length - j))).take (i + (R.length - j) - 0) = R.take i ++ R.drop j := List.take_left' (by simp only [List.length_append, List.length_take, List.length_drop]; omega)
  rw [hd, ht, List.append_nil, show R.length - (i + (R.length - j) - 0) = j - i by omega]
theorem delete_pc (out : List Snt) (i j : Nat) (hij : i < j) (hj : j ≤ out.length) (hn : out.length ≤ 100000) :
    Sat Try.prog 13 [.own 0, iA i, iA j] [.sl 5 (out.map sntR)] (.rel 0 (pcP 5 0 (i + (out.length - j)))) [.sl 5 ((out.take i ++ out.drop j ++ List.replicate (j - i) snt0).map sntR)] := by
  have hm : (out.map sntR).length = out.length := List.length_map _
  refine sat_of_vc (T := tiOf Try.prog) (E := E0) Try.func13 rfl rfl hE0 hm0 rfl ?_
  conv => whnf
  have hl2 : ((out.map sntR).take i ++ (out.map sntR).drop j ++ (out.map sntR).drop (i + ((out.map sntR).length - j))).length = out.length := by
    simp only [List.length_append, List.length_take, List.length_drop]; omega
  iterate 4
    repeat' (first | exact True.intro | ((first | refine And.intro (fun _ => ?_) tf | refine And.intro ft (fun _ => ?_) | refine And.intro (by kernel_rfl) ?_ | refine And.intro (by decide) ?_ | refine And.intro (fun _ => ?_) (fun h => absurd h (by decide)) | refine And.intro (fun h => absurd h (by decide)) (fun _ => ?_) | refine ⟨_, _, pc3 5 40 (by kernel_rfl) rfl (Nat.le_of_lt hij) (show j ≤ (out.map sntR).length by omega) (Nat.le_refl _), ?_⟩ | refine ⟨_, _, pcUpto 5 40 (by kernel_rfl) rfl (show i ≤ (out.map sntR).length by omega), ?_⟩ | refine ⟨_, _, pcFrom 5 40 (by kernel_rfl) rfl (show j ≤ (out.map sntR).length by omega), ?_⟩ | refine ⟨_, _, pcApp 5 40 (by kernel_rfl) rfl (Nat.le_of_lt hij) (show j ≤ (out.map sntR).length by omega) (by omega), ?_⟩ | refine ⟨_, _, pcLen 5 40 (by kernel_rfl), ?_⟩ | refine ⟨_, _, pcOf 5 40 (lo := i + ((out.map sntR).length - j) - 0) (hi := (out.map sntR).length) (by kernel_rfl) rfl (by omega) (by rw [hl2]; omega), ?_⟩ | refine ⟨_, _, pcClear 5 40 (by kernel_rfl) rfl (by rw [hl2]; omega) (by rw [hl2]; omega), ?_⟩ | fail); conv => whnf) | (refine And.intro (fun _ => ?_) (fun _ => ?_) <;> conv => whnf) | fail)
    all_goals try (refine Or.inl ?_; conv => whnf)
  · exact (bno ‹((i : Int) == (j : Int)) = true› (by rw [bneB]; exact decide_eq_false (by omega))).elim
  have hrows : ((out.map sntR).take i ++ (out.map sntR).drop j ++ (out.map sntR).drop (i + ((out.map sntR).length - j))).take (i + ((out.map sntR).length - j) - 0) ++ List.replicate ((out.map sntR).length - (i + ((out.map sntR).length - j) - 0)) (zrow Try.prog 46) ++
      ((out.map sntR).take i ++ (out.map sntR).drop j ++ (out.map sntR).drop (i + ((out.map sntR).length - j))).drop (out.map sntR).length = (out.take i ++ out.drop j ++ List.replicate (j - i) snt0).map sntR := by
    rw [zrow_snt]
    exact piece_rows out i j hij hj
  rw [hrows, hm]
  all_goals refine ⟨[], ?_⟩
  repeat (any_goals (first | exact True.intro | exact rfl | with_reducible_and_instances rfl | exact (by kernel_rfl) | refine And.intro ?_ ?_))
  all_goals conv => whnf
theorem delete_sat (out : List Snt) (i j : Nat) (hij : i < j) (hj : j ≤ out.length) (hn : out.length ≤ 100000) :
    Sat Try.prog 13 [.own 0, iA i, iA j] [.sl 5 (out.map sntR)] (.own 1) [.dead, .sl 5 ((out.take i ++ out.drop j).map sntR)] := by
  have h := Sat.ofPc (delete_pc out i j hij hj hn) (by simp only [List.length_map, List.length_append, List.length_take, List.length_drop, List.length_replicate]; omega)
  rw [← List.map_take, List.take_left' (by simp only [List.length_append, List.length_take, List.length_drop]; omega)] at h
  exact h
/-- The first one that a test takes. -/
def idxF (p : Snt → Bool) (out : List Snt) : Int := match out.findIdx? p with
  | some i => (i : Int)
  | none => -1
theorem ix_at {α : Type} {p : α → Bool} : ∀ {l : List α} {k : Nat} {x : α}, (l.take k).findIdx? p = none → l[k]? = some x → p x = true → l.findIdx? p = some k
  | [], _, _, _, h, _ => by cases h
  | y :: l, 0, x, _, h, hp => by
    have : y = x := Option.some.inj h
    subst this
    rw [List.findIdx?_cons, if_pos hp]
  | y :: l, k + 1, x, hn, h, hp => by
    rw [List.take_succ_cons, List.findIdx?_cons] at hn
    by_cases hy : p y = true
    · rw [if_pos hy] at hn; cases hn
    · rw [if_neg hy] at hn
      have := ix_at (p := p) (l := l) (k := k) (x := x) (by simpa using hn) h hp
      rw [List.findIdx?_cons, if_neg hy, this]; rfl
theorem ix_not {α : Type} {p : α → Bool} {l : List α} {k : Nat} {x : α} (hn : (l.take k).findIdx? p = none) (h : l[k]? = some x) (hp : p x = false) : (l.take (k + 1)).findIdx? p = none := by
  rw [List.findIdx?_eq_none_iff] at hn ⊢
  rw [List.take_add_one, h]
  intro y hy
  rcases List.mem_append.1 hy with hy | hy
  · exact hn y hy
  · simp at hy; subst hy; exact hp
theorem ansF_sat (b c : Int) (x : Snt) : Sat Try.prog 15 [.d (sntD x), .ptr 0 0] [.cells [iA b, iA c]] (bA (decide (x.n = (b, c)))) [.cells [iA b, iA c]] := by
  have e : (x.b == b && x.c == c) = decide (x.n = (b, c)) := by
    rw [Bool.eq_iff_iff]
    simp [Snt.n]
  rw [← e]
  refine sat_of_vc (T := tiOf Try.prog) (E := E0) Try.func15 rfl rfl hE0 hm0 rfl ?_
  conv => whnf
  iterate 2
    repeat' (first | exact True.intro | ((first | refine And.intro (fun _ => ?_) tf | refine And.intro ft (fun _ => ?_) | refine And.intro (by kernel_rfl) ?_ | refine And.intro (by decide) ?_ | refine And.intro (fun _ => ?_) (fun h => absurd h (by decide)) | refine And.intro (fun h => absurd h (by decide)) (fun _ => ?_) | refine ⟨_, _, eqS (by kernel_rfl), ?_⟩ | fail); conv => whnf) | (refine And.intro (fun _ => ?_) (fun _ => ?_) <;> conv => whnf) | fail)
    all_goals try (refine Or.inl ?_; conv => whnf)
  all_goals refine ⟨[], ?_⟩
  repeat (any_goals (first | exact True.intro | exact rfl | with_reducible_and_instances rfl | exact (by kernel_rfl) | refine And.intro ?_ ?_))
  all_goals conv => whnf
theorem forF_sat (g : Int) (x : Snt) : Sat Try.prog 17 [.d (sntD x), .ptr 0 0] [.cells [iA g]] (bA (decide (x.g = g))) [.cells [iA g]] := by
  rw [← bneB]
  refine sat_of_vc (T := tiOf Try.prog) (E := E0) Try.func17 rfl rfl hE0 hm0 rfl ?_
  conv => whnf
  iterate 2
    repeat' (first | exact True.intro | ((first | refine And.intro (fun _ => ?_) tf | refine And.intro ft (fun _ => ?_) | refine And.intro (by kernel_rfl) ?_ | refine And.intro (by decide) ?_ | refine And.intro (fun _ => ?_) (fun h => absurd h (by decide)) | refine And.intro (fun h => absurd h (by decide)) (fun _ => ?_) | fail); conv => whnf) | (refine And.intro (fun _ => ?_) (fun _ => ?_) <;> conv => whnf) | fail)
    all_goals try (refine Or.inl ?_; conv => whnf)
  all_goals refine ⟨[], ?_⟩
  repeat (any_goals (first | exact True.intro | exact rfl | with_reducible_and_instances rfl | exact (by kernel_rfl) | refine And.intro ?_ ?_))
  all_goals conv => whnf
theorem indexA_sat (out : List Snt) (hn : out.length ≤ 100000) (b c : Int) :
    Sat Try.prog 14 [.own 0, .fn (.func 15) [] [.ptr 1 0]] [.sl 5 (out.map sntR), .cells [iA b, iA c]] (iA (idxF (fun x => decide (x.n = (b, c))) out)) [.sl 5 (out.map sntR), .cells [iA b, iA c]] := by
  have hm : (out.map sntR).length = out.length := List.length_map _
  have hp := fun x => ansF_sat b c x
  refine sat_of_vc (T := tiOf Try.prog) (E := E0) Try.func14 rfl rfl hE0 hm0 rfl ?_
  conv => whnf
  iterate 2
    repeat' (first | exact True.intro | ((first | refine And.intro (fun _ => ?_) tf | refine And.intro ft (fun _ => ?_) | refine And.intro (by kernel_rfl) ?_ | refine And.intro (by decide) ?_ | refine And.intro (fun _ => ?_) (fun h => absurd h (by decide)) | refine And.intro (fun h => absurd h (by decide)) (fun _ => ?_) | fail); conv => whnf) | (refine And.intro (fun _ => ?_) (fun _ => ?_) <;> conv => whnf) | fail)
    all_goals try (refine Or.inl ?_; conv => whnf)
  refine ⟨Nat, fun k => k ≤ out.length ∧ (out.take k).findIdx? (fun x => decide (x.n = (b, c))) = none, fun k => ([(8, iA k), (7, iA out.length), (0, .own 0), (1, .fn (.func 15) [] [.ptr 1 0])], [.sl 5 (out.map sntR), .cells [iA b, iA c]]), fun k => out.length - k, ⟨0, ⟨Nat.zero_le _, rfl⟩, ?_⟩, ?_⟩
  · all_goals refine ⟨[], ?_⟩
    repeat (any_goals (first | exact True.intro | exact rfl | with_reducible_and_instances rfl | exact (by kernel_rfl) | refine And.intro ?_ ?_))
    all_goals conv => whnf
    rw [hm]
  rintro k ⟨hk, hno⟩
  replace hk : k ≤ out.length := hk
  replace hno : (out.take k).findIdx? (fun x => decide (x.n = (b, c))) = none := hno
  conv => whnf
  by_cases hlt : k < out.length
  · have hx : out[k]? = some out[k] := List.getElem?_eq_getElem hlt
    generalize out[k] = x at hx
    have hg := map_get (f := sntR) hx
    have hkl : k < (out.map sntR).length := by omega
    have c1 := hp x
    cases hpx : (fun x => decide (x.n = (b, c))) x with
    | true =>
      have e : idxF (fun x => decide (x.n = (b, c))) out = (k : Int) := by unfold idxF; rw [ix_at hno hx hpx]
      have hpx : decide _ = true := hpx
      rw [hpx] at c1
      rw [e]
      iterate 4
        repeat' (first | exact True.intro | ((first | refine ⟨k, rfl, hkl, ?_⟩ | refine ⟨_, hg, ?_⟩ | refine And.intro (fun _ => ?_) tf | refine And.intro ft (fun _ => ?_) | refine And.intro (by kernel_rfl) ?_ | refine And.intro (by decide) ?_ | refine And.intro (fun _ => ?_) (fun h => absurd h (by decide)) | refine And.intro (fun h => absurd h (by decide)) (fun _ => ?_) | refine ⟨_, _, c1.at1 1 rfl rfl rfl, ?_⟩ | fail); conv => whnf) | (refine And.intro (fun _ => ?_) (fun _ => ?_) <;> conv => whnf) | fail)
        all_goals try (refine Or.inl ?_; conv => whnf)
      all_goals try exact (bno (decide_eq_true (show (k : Int) < (out.length : Int) by omega)) ‹decide ((k : Int) < (out.length : Int)) = false›).elim
      all_goals refine ⟨[], ?_⟩
      repeat (any_goals (first | exact True.intro | exact rfl | with_reducible_and_instances rfl | exact (by kernel_rfl) | refine And.intro ?_ ?_))
      all_goals conv => whnf
    | false =>
      have hnn := ix_not hno hx hpx
      have hpx : decide _ = false := hpx
      rw [hpx] at c1
      iterate 4
        repeat' (first | exact True.intro | ((first | refine ⟨k, rfl, hkl, ?_⟩ | refine ⟨_, hg, ?_⟩ | refine And.intro (fun _ => ?_) tf | refine And.intro ft (fun _ => ?_) | refine And.intro (by kernel_rfl) ?_ | refine And.intro (by decide) ?_ | refine And.intro (fun _ => ?_) (fun h => absurd h (by decide)) | refine And.intro (fun h => absurd h (by decide)) (fun _ => ?_) | refine ⟨_, _, c1.at1 1 rfl rfl rfl, ?_⟩ | fail); conv => whnf) | (refine And.intro (fun _ => ?_) (fun _ => ?_) <;> conv => whnf) | fail)
        all_goals try (refine Or.inl ?_; conv => whnf)
      all_goals try exact (bno (decide_eq_true (show (k : Int) < (out.length : Int) by omega)) ‹decide ((k : Int) < (out.length : Int)) = false›).elim
      refine ⟨k + 1, ⟨hlt, hnn⟩, show out.length - (k + 1) < out.length - k by omega, ?_⟩
      all_goals refine ⟨[], ?_⟩
      repeat (any_goals (first | exact True.intro | exact rfl | with_reducible_and_instances rfl | exact (by kernel_rfl) | refine And.intro ?_ ?_))
      all_goals conv => whnf
      exact wk1 (by omega)
  · have hke : k = out.length := by omega
    subst hke
    rw [List.take_length] at hno
    have e : idxF (fun x => decide (x.n = (b, c))) out = -1 := by unfold idxF; rw [hno]
    rw [e]
    iterate 3
      repeat' (first | exact True.intro | ((first | refine And.intro (fun _ => ?_) tf | refine And.intro ft (fun _ => ?_) | refine And.intro (by kernel_rfl) ?_ | refine And.intro (by decide) ?_ | refine And.intro (fun _ => ?_) (fun h => absurd h (by decide)) | refine And.intro (fun h => absurd h (by decide)) (fun _ => ?_) | fail); conv => whnf) | (refine And.intro (fun _ => ?_) (fun _ => ?_) <;> conv => whnf) | fail)
      all_goals try (refine Or.inl ?_; conv => whnf)
    all_goals try exact (bno ‹decide ((out.length : Int) < (out.length : Int)) = true› (decide_eq_false (by omega))).elim
    all_goals refine ⟨[], ?_⟩
    repeat (any_goals (first | exact True.intro | exact rfl | with_reducible_and_instances rfl | exact (by kernel_rfl) | refine And.intro ?_ ?_))
    all_goals conv => whnf
theorem indexF_sat (out : List Snt) (hn : out.length ≤ 100000) (g : Int) :
    Sat Try.prog 14 [.own 0, .fn (.func 17) [] [.ptr 1 0]] [.sl 5 (out.map sntR), .cells [iA g]] (iA (idxF (fun x => decide (x.g = g)) out)) [.sl 5 (out.map sntR), .cells [iA g]] := by
  have hm : (out.map sntR).length = out.length := List.length_map _
  have hp := fun x => forF_sat g x
  refine sat_of_vc (T := tiOf Try.prog) (E := E0) Try.func14 rfl rfl hE0 hm0 rfl ?_
  conv => whnf
  iterate 2
    repeat' (first | exact True.intro | ((first | refine And.intro (fun _ => ?_) tf | refine And.intro ft (fun _ => ?_) | refine And.intro (by kernel_rfl) ?_ | refine And.intro (by decide) ?_ | refine And.intro (fun _ => ?_) (fun h => absurd h (by decide)) | refine And.intro (fun h => absurd h (by decide)) (fun _ => ?_) | fail); conv => whnf) | (refine And.intro (fun _ => ?_) (fun _ => ?_) <;> conv => whnf) | fail)
    all_goals try (refine Or.inl ?_; conv => whnf)
  refine ⟨Nat, fun k => k ≤ out.length ∧ (out.take k).findIdx? (fun x => decide (x.g = g)) = none, fun k => ([(8, iA k), (7, iA out.length), (0, .own 0), (1, .fn (.func 17) [] [.ptr 1 0])], [.sl 5 (out.map sntR), .cells [iA g]]), fun k => out.length - k, ⟨0, ⟨Nat.zero_le _, rfl⟩, ?_⟩, ?_⟩
  · all_goals refine ⟨[], ?_⟩
    repeat (any_goals (first | exact True.intro | exact rfl | with_reducible_and_instances rfl | exact (by kernel_rfl) | refine And.intro ?_ ?_))
    all_goals conv => whnf
    rw [hm]
  rintro k ⟨hk, hno⟩
  replace hk : k ≤ out.length := hk
  replace hno : (out.take k).findIdx? (fun x => decide (x.g = g)) = none := hno
  conv => whnf
  by_cases hlt : k < out.length
  · have hx : out[k]? = some out[k] := List.getElem?_eq_getElem hlt
    generalize out[k] = x at hx
    have hg := map_get (f := sntR) hx
    have hkl : k < (out.map sntR).length := by omega
    have c1 := hp x
    cases hpx : (fun x => decide (x.g = g)) x with
    | true =>
      have e : idxF (fun x => decide (x.g = g)) out = (k : Int) := by unfold idxF; rw [ix_at hno hx hpx]
      have hpx : decide _ = true := hpx
      rw [hpx] at c1
      rw [e]
      iterate 4
        repeat' (first | exact True.intro | ((first | refine ⟨k, rfl, hkl, ?_⟩ | refine ⟨_, hg, ?_⟩ | refine And.intro (fun _ => ?_) tf | refine And.intro ft (fun _ => ?_) | refine And.intro (by kernel_rfl) ?_ | refine And.intro (by decide) ?_ | refine And.intro (fun _ => ?_) (fun h => absurd h (by decide)) | refine And.intro (fun h => absurd h (by decide)) (fun _ => ?_) | refine ⟨_, _, c1.at1 1 rfl rfl rfl, ?_⟩ | fail); conv => whnf) | (refine And.intro (fun _ => ?_) (fun _ => ?_) <;> conv => whnf) | fail)
        all_goals try (refine Or.inl ?_; conv => whnf)
      all_goals try exact (bno (decide_eq_true (show (k : Int) < (out.length : Int) by omega)) ‹decide ((k : Int) < (out.length : Int)) = false›).elim
      all_goals refine ⟨[], ?_⟩
      repeat (any_goals (first | exact True.intro | exact rfl | with_reducible_and_instances rfl | exact (by kernel_rfl) | refine And.intro ?_ ?_))
      all_goals conv => whnf
    | false =>
      have hnn := ix_not hno hx hpx
      have hpx : decide _ = false := hpx
      rw [hpx] at c1
      iterate 4
        repeat' (first | exact True.intro | ((first | refine ⟨k, rfl, hkl, ?_⟩ | refine ⟨_, hg, ?_⟩ | refine And.intro (fun _ => ?_) tf | refine And.intro ft (fun _ => ?_) | refine And.intro (by kernel_rfl) ?_ | refine And.intro (by decide) ?_ | refine And.intro (fun _ => ?_) (fun h => absurd h (by decide)) | refine And.intro (fun h => absurd h (by decide)) (fun _ => ?_) | refine ⟨_, _, c1.at1 1 rfl rfl rfl, ?_⟩ | fail); conv => whnf) | (refine And.intro (fun _ => ?_) (fun _ => ?_) <;> conv => whnf) | fail)
        all_goals try (refine Or.inl ?_; conv => whnf)
      all_goals try exact (bno (decide_eq_true (show (k : Int) < (out.length : Int) by omega)) ‹decide ((k : Int) < (out.length : Int)) = false›).elim
      refine ⟨k + 1, ⟨hlt, hnn⟩, show out.length - (k + 1) < out.length - k by omega, ?_⟩
      all_goals refine ⟨[], ?_⟩
      repeat (any_goals (first | exact True.intro | exact rfl | with_reducible_and_instances rfl | exact (by kernel_rfl) | refine And.intro ?_ ?_))
      all_goals conv => whnf
      exact wk1 (by omega)
  · have hke : k = out.length := by omega
    subst hke
    rw [List.take_length] at hno
    have e : idxF (fun x => decide (x.g = g)) out = -1 := by unfold idxF; rw [hno]
    rw [e]
    iterate 3
      repeat' (first | exact True.intro | ((first | refine And.intro (fun _ => ?_) tf | refine And.intro ft (fun _ => ?_) | refine And.intro (by kernel_rfl) ?_ | refine And.intro (by decide) ?_ | refine And.intro (fun _ => ?_) (fun h => absurd h (by decide)) | refine And.intro (fun h => absurd h (by decide)) (fun _ => ?_) | fail); conv => whnf) | (refine And.intro (fun _ => ?_) (fun _ => ?_) <;> conv => whnf) | fail)
      all_goals try (refine Or.inl ?_; conv => whnf)
    all_goals try exact (bno ‹decide ((out.length : Int) < (out.length : Int)) = true› (decide_eq_false (by omega))).elim
    all_goals refine ⟨[], ?_⟩
    repeat (any_goals (first | exact True.intro | exact rfl | with_reducible_and_instances rfl | exact (by kernel_rfl) | refine And.intro ?_ ?_))
    all_goals conv => whnf
end Go.Proofs.Ytamomaihmfdebaa
/- probe: slices.DeleteFunc of an agent's. -/
namespace Go.Proofs.Ytamomaihmfdebaa
set_option linter.unusedSimpArgs false
set_option linter.unusedVariables false
open Go.RowKit
set_option maxRecDepth 100000
def keepO (g : Int) (x : Snt) : Bool := !decide (x.g = g)
theorem deleteF_none (out : List Snt) (hn : out.length ≤ 100000) (g : Int) (hi : idxF (fun x => decide (x.g = g)) out = -1) :
    Sat Try.prog 16 [.own 0, .fn (.func 17) [] [.ptr 1 0]] [.sl 5 (out.map sntR), .cells [iA g]] (.own 0) [.sl 5 (out.map sntR), .cells [iA g]] := by
  have ix := indexF_sat out hn g
  rw [hi] at ix
  refine sat_of_vc (T := tiOf Try.prog) (E := E0) Try.func16 rfl rfl hE0 hm0 rfl ?_
  conv => whnf
  iterate 3
    repeat' (first | exact True.intro | ((first | refine And.intro (fun _ => ?_) tf | refine And.intro ft (fun _ => ?_) | refine And.intro (by kernel_rfl) ?_ | refine And.intro (by decide) ?_ | refine And.intro (fun _ => ?_) (fun h => absurd h (by decide)) | refine And.intro (fun h => absurd h (by decide)) (fun _ => ?_) | refine ⟨_, _, ix.at2 0 1 rfl rfl rfl rfl rfl, ?_⟩ | fail); conv => whnf) | (refine And.intro (fun _ => ?_) (fun _ => ?_) <;> conv => whnf) | fail)
    all_goals try (refine Or.inl ?_; conv => whnf)
  all_goals try (exfalso; simp only [decide_eq_true_eq, decide_eq_false_iff_not, Bool.not_eq_true', Bool.not_eq_false', Bool.not_eq_true, Bool.not_eq_false, beq_iff_eq, bne_iff_ne, beq_eq_false_iff_ne, bne_eq_false_iff_eq, ne_eq, Decidable.not_not] at *; first | omega | contradiction | (simp_all; done) | (simp_all; omega))
  all_goals refine ⟨[], ?_⟩
  repeat (any_goals (first | exact True.intro | exact rfl | with_reducible_and_instances rfl | exact (by kernel_rfl) | refine And.intro ?_ ?_))
  all_goals conv => whnf
theorem idx_first {p : Snt → Bool} {out : List Snt} {i : Nat} (h : out.findIdx? p = some i) : (out.take (i + 1)).filter (fun x => !p x) = out.take i ∧ i < out.length := by
  induction out generalizing i with
  | nil => simp at h
  | cons x out ih =>
    rw [List.findIdx?_cons] at h
    by_cases hp : p x = true
    · rw [if_pos hp] at h
      injection h with h
      subst h
      simp [hp]
    · rw [if_neg hp] at h
      obtain ⟨k, hk, rfl⟩ := Option.map_eq_some_iff.1 h
      obtain ⟨h1, h2⟩ := ih hk
      refine ⟨?_, Nat.succ_lt_succ h2⟩
      rw [List.take_succ_cons, List.filter_cons_of_pos (by simpa using hp), h1]; rfl
/-- The rows on the way: what is kept, what is left over, what is to come. -/
def midF (g : Int) (out : List Snt) (j : Nat) (G : List Snt) : List Snt := (out.take j).filter (keepO g) ++ G ++ out.drop j
def cntF (g : Int) (out : List Snt) (j : Nat) : Nat := ((out.take j).filter (keepO g)).length
theorem take_snoc {out : List Snt} {j : Nat} {x : Snt} (h : out[j]? = some x) : out.take (j + 1) = out.take j ++ [x] := by rw [List.take_add_one, h]; rfl
theorem drop_snoc {out : List Snt} {j : Nat} {x : Snt} (h : out[j]? = some x) : out.drop j = x :: out.drop (j + 1) := by
  obtain ⟨h1, h2⟩ := List.getElem?_eq_some_iff.1 h
  rw [List.drop_eq_getElem_cons h1, h2]
theorem midF_at {g : Int} {out : List Snt} {j : Nat} {G : List Snt} {x : Snt} (hG : cntF g out j + G.length = j) (h : out[j]? = some x) : (midF g out j G)[j]? = some x := by
  unfold midF
  rw [drop_snoc h, List.getElem?_append_right (by rw [List.length_append]; unfold cntF at hG; omega), List.length_append, show j - (((out.take j).filter (keepO g)).length + G.length) = 0 by unfold cntF at hG; omega]; rfl
theorem midF_drop {g : Int} {out : List Snt} {j : Nat} {G : List Snt} {x : Snt} (h : out[j]? = some x) (hk : keepO g x = false) : midF g out j G = midF g out (j + 1) (G ++ [x]) ∧ cntF g out (j + 1) = cntF g out j := by
  unfold midF cntF
  rw [take_snoc h, drop_snoc h, List.filter_append, List.filter_cons_of_neg (by rw [hk]; simp), List.filter_nil, List.append_nil]
  simp
theorem midF_keep {g : Int} {out : List Snt} {j : Nat} {y : Snt} {G : List Snt} {x : Snt} (h : out[j]? = some x) (hk : keepO g x = true) : (midF g out j (y :: G)).set (cntF g out j) x = midF g out (j + 1) (G ++ [x]) ∧ cntF g out (j + 1) = cntF g out j + 1 := by
  unfold midF cntF
  rw [take_snoc h, drop_snoc h, List.filter_append, List.filter_cons_of_pos (by rw [hk]), List.filter_nil]
  refine ⟨?_, by rw [List.length_append]; rfl⟩
  rw [List.append_assoc, List.set_append_right _ _ (Nat.le_refl _), Nat.sub_self]
  simp
theorem midF_len {g : Int} {out : List Snt} {j : Nat} {G : List Snt} (hG : cntF g out j + G.length = j) (hj : j ≤ out.length) : (midF g out j G).length = out.length := by
  unfold midF
  rw [List.length_append, List.length_append, List.length_drop]
  unfold cntF at hG
  omega
set_option maxHeartbeats 8000000 in
theorem deleteF_some (out : List Snt) (hn : out.length ≤ 100000) (g : Int) (i : Nat) (hi : out.findIdx? (fun x => decide (x.g = g)) = some i) :
    Sat Try.prog 16 [.own 0, .fn (.func 17) [] [.ptr 1 0]] [.sl 5 (out.map sntR), .cells [iA g]] (.own 2) [.dead, .cells [iA g], .sl 5 ((out.filter (keepO g)).map sntR)] := by
  have hm : (out.map sntR).length = out.length := List.length_map _
  have ix := indexF_sat out hn g
  have hix : idxF (fun x => decide (x.g = g)) out = (i : Int) := by unfold idxF; rw [hi]
  rw [hix] at ix
  obtain ⟨h1, h2⟩ := idx_first hi
  have hc0 : cntF g out (i + 1) = i := by
    unfold cntF keepO
    rw [h1, List.length_take]; omega
  obtain ⟨x0, hx0⟩ : ∃ x0, out[i]? = some x0 := ⟨_, List.getElem?_eq_getElem h2⟩
  have hmid : midF g out (i + 1) [x0] = out := by
    unfold midF keepO
    rw [h1, List.append_assoc, List.singleton_append, ← drop_snoc hx0, List.take_append_drop]
  refine sat_of_vc (T := tiOf Try.prog) (E := E0) Try.func16 rfl rfl hE0 hm0 rfl ?_
  conv => whnf
  iterate 3
    repeat' (first | exact True.intro | ((first | refine And.intro (fun _ => ?_) tf | refine And.intro ft (fun _ => ?_) | refine And.intro (by kernel_rfl) ?_ | refine And.intro (by decide) ?_ | refine And.intro (fun _ => ?_) (fun h => absurd h (by decide)) | refine And.intro (fun h => absurd h (by decide)) (fun _ => ?_) | refine ⟨_, _, ix.at2 0 1 rfl rfl rfl rfl rfl, ?_⟩ | fail); conv => whnf) | (refine And.intro (fun _ => ?_) (fun _ => ?_) <;> conv => whnf) | fail)
    all_goals try (refine Or.inl ?_; conv => whnf)
  all_goals try exact (bno ‹((i : Int) == -1) = true› (by rw [bneB]; exact decide_eq_false (by omega))).elim
  refine ⟨Nat × List Snt, fun y => y.1 ≤ out.length ∧ cntF g out y.1 + y.2.length = y.1 ∧ 0 < y.2.length, fun y => ([(6, iA y.1), (5, iA (cntF g out y.1)), (0, .own 0), (1, .fn (.func 17) [] [.ptr 1 0])], [.sl 5 ((midF g out y.1 y.2).map sntR), .cells [iA g]]), fun y => out.length - y.1, ⟨(i + 1, [x0]), ⟨h2, by rw [hc0]; rfl, Nat.succ_pos _⟩, ?_⟩, ?_⟩
  · all_goals refine ⟨[], ?_⟩
    repeat (any_goals (first | exact True.intro | exact rfl | with_reducible_and_instances rfl | exact (by kernel_rfl) | refine And.intro ?_ ?_))
    all_goals conv => whnf
    · exact wk1 (by omega)
    · rw [hc0]
    · rw [hmid]
  rintro ⟨j, G⟩ ⟨hj, hG, hG0⟩
  replace hj : j ≤ out.length := hj
  replace hG : cntF g out j + G.length = j := hG
  replace hG0 : 0 < G.length := hG0
  have hml : ((midF g out j G).map sntR).length = out.length := by rw [List.length_map, midF_len hG hj]
  conv => whnf
  by_cases hlt : j < out.length
  · have hx : out[j]? = some out[j] := List.getElem?_eq_getElem hlt
    generalize out[j] = x at hx
    have hg := map_get (f := sntR) (midF_at hG hx)
    have hjl : j < ((midF g out j G).map sntR).length := by omega
    have c1 := forF_sat g x
    cases hk : keepO g x with
    | false =>
      have hpx : decide (x.g = g) = true := by unfold keepO at hk; simpa using hk
      rw [hpx] at c1
      obtain ⟨k1, k2⟩ := midF_drop (G := G) hx hk
      iterate 4
        repeat' (first | exact True.intro | ((first | refine ⟨j, rfl, hjl, ?_⟩ | refine ⟨_, hg, ?_⟩ | refine And.intro (fun _ => ?_) tf | refine And.intro ft (fun _ => ?_) | refine And.intro (by kernel_rfl) ?_ | refine And.intro (by decide) ?_ | refine And.intro (fun _ => ?_) (fun h => absurd h (by decide)) | refine And.intro (fun h => absurd h (by decide)) (fun _ => ?_) | refine ⟨_, _, c1.at1 1 rfl rfl rfl, ?_⟩ | fail); conv => whnf) | (refine And.intro (fun _ => ?_) (fun _ => ?_) <;> conv => whnf) | fail)
        all_goals try (refine Or.inl ?_; conv => whnf)
      all_goals try exact (bno (decide_eq_true (show (j : Int) < (((midF g out j G).map sntR).length : Nat) by omega)) ‹decide ((j : Int) < (((midF g out j G).map sntR).length : Nat)) = false›).elim
      refine ⟨(j + 1, G ++ [x]), ⟨hlt, by rw [k2, List.length_append, List.length_singleton]; omega, by simp⟩, show out.length - (j + 1) < out.length - j by omega, ?_⟩
      all_goals refine ⟨[], ?_⟩
      repeat (any_goals (first | exact True.intro | exact rfl | with_reducible_and_instances rfl | exact (by kernel_rfl) | refine And.intro ?_ ?_))
      all_goals conv => whnf
      · exact wk1 (by omega)
      · rw [k2]
      · rw [← k1]
    | true =>
      have hpx : decide (x.g = g) = false := by unfold keepO at hk; simpa using hk
      rw [hpx] at c1
      cases G with
      | nil => simp at hG0
      | cons y G =>
        obtain ⟨k1, k2⟩ := midF_keep (y := y) (G := G) hx hk
        have hil : cntF g out j < ((midF g out j (y :: G)).map sntR).length := by rw [List.length_cons] at hG; omega
        have hz : ∃ z, (midF g out j (y :: G))[cntF g out j]? = some z := ⟨_, List.getElem?_eq_getElem (by rw [List.length_map] at hil; exact hil)⟩
        obtain ⟨z, hz⟩ := hz
        have hgz := map_get (f := sntR) hz
        iterate 4
          repeat' (first | exact True.intro | ((first | refine ⟨j, rfl, hjl, ?_⟩ | refine ⟨_, hg, ?_⟩ | refine ⟨cntF g out j, rfl, hil, ?_⟩ | refine ⟨_, _, hgz, rfl, ?_⟩ | refine And.intro (show 0 + 5 ≤ 5 from Nat.le_refl _) ?_ | refine And.intro (fun _ => ?_) tf | refine And.intro ft (fun _ => ?_) | refine And.intro (by kernel_rfl) ?_ | refine And.intro (by decide) ?_ | refine And.intro (fun _ => ?_) (fun h => absurd h (by decide)) | refine And.intro (fun h => absurd h (by decide)) (fun _ => ?_) | refine ⟨_, _, c1.at1 1 rfl rfl rfl, ?_⟩ | fail); conv => whnf) | (refine And.intro (fun _ => ?_) (fun _ => ?_) <;> conv => whnf) | fail)
          all_goals try (refine Or.inl ?_; conv => whnf)
        all_goals try exact (bno (decide_eq_true (show (j : Int) < (((midF g out j (y :: G)).map sntR).length : Nat) by omega)) ‹decide ((j : Int) < (((midF g out j (y :: G)).map sntR).length : Nat)) = false›).elim
        refine ⟨(j + 1, G ++ [x]), ⟨hlt, by rw [k2, List.length_append, List.length_singleton]; rw [List.length_cons] at hG; omega, by simp⟩, show out.length - (j + 1) < out.length - j by omega, ?_⟩
        all_goals refine ⟨[], ?_⟩
        repeat (any_goals (first | exact True.intro | exact rfl | with_reducible_and_instances rfl | exact (by kernel_rfl) | refine And.intro ?_ ?_))
        all_goals conv => whnf
        · exact wk1 (by omega)
        · exact (wk1 (show cntF g out j ≤ 9223372036854775806 by rw [List.length_cons] at hG; omega)).trans (by rw [k2])
        · show AObj.sl 5 (((midF g out j (y :: G)).map sntR).set (cntF g out j) (sntR x)) = _
          rw [← List.map_set, k1]
  · have hje : j = out.length := by omega
    have hcl : cntF g out j ≤ ((midF g out j G).map sntR).length := by omega
    have hl0 : 0 < ((midF g out j G).map sntR).length := by omega
    have hl3 : cntF g out j ≤ (((midF g out j G).map sntR).take (cntF g out j) ++ List.replicate (((midF g out j G).map sntR).length - cntF g out j) (zrow Try.prog 46) ++ ((midF g out j G).map sntR).drop ((midF g out j G).map sntR).length).length := by
      simp only [List.length_append, List.length_take]; omega
    iterate 4
      repeat' (first | exact True.intro | ((first | refine And.intro (fun _ => ?_) tf | refine And.intro ft (fun _ => ?_) | refine And.intro (by kernel_rfl) ?_ | refine And.intro (by decide) ?_ | refine And.intro (fun _ => ?_) (fun h => absurd h (by decide)) | refine And.intro (fun h => absurd h (by decide)) (fun _ => ?_) | refine ⟨_, _, pcFrom 5 40 (by kernel_rfl) rfl hcl, ?_⟩ | refine ⟨_, _, pcClear 5 40 (by kernel_rfl) rfl (Nat.le_refl _) hl0, ?_⟩ | refine ⟨_, _, upto_o 5 40 (by kernel_rfl) rfl hl3, ?_⟩ | fail); conv => whnf) | (refine And.intro (fun _ => ?_) (fun _ => ?_) <;> conv => whnf) | fail)
      all_goals try (refine Or.inl ?_; conv => whnf)
    · exact (bno ‹decide ((j : Int) < (((midF g out j G).map sntR).length : Nat)) = true› (decide_eq_false (by omega))).elim
    have hfin : (((midF g out j G).map sntR).take (cntF g out j) ++ List.replicate (((midF g out j G).map sntR).length - cntF g out j) (zrow Try.prog 46) ++ ((midF g out j G).map sntR).drop ((midF g out j G).map sntR).length).take (cntF g out j) = (out.filter (keepO g)).map sntR := by
      rw [List.append_assoc, List.take_left' (by rw [List.length_take]; omega), ← List.map_take]
      congr 1
      unfold midF cntF
      rw [List.append_assoc, List.take_left' rfl, hje, List.take_length]
    all_goals refine ⟨[], ?_⟩
    repeat (any_goals (first | exact True.intro | exact rfl | with_reducible_and_instances rfl | exact (by kernel_rfl) | refine And.intro ?_ ?_))
    all_goals conv => whnf
    rw [hfin]
end Go.Proofs.Ytamomaihmfdebaa
/- probe: New, Boot, Due, Forget, Answer. -/
namespace Go.Proofs.Ytamomaihmfdebaa
set_option linter.unusedSimpArgs false
set_option linter.unusedVariables false
open Go.RowKit
set_option maxRecDepth 100000
abbrev LastM := Es Int Int
abbrev laO (m : LastM) (c : Nat) : AObj := mapO (intD .i64) (intD .i64) m c
abbrev prC (boot most count : Int) : AObj := .cells [iA boot, iA most, iA count, .own 1, .mp 2]
abbrev prH (boot most count : Int) (out : List Snt) (m : LastM) (c : Nat) : List AObj := [prC boot most count, .sl 5 (out.map sntR), laO m c]
theorem kI : KeyT Try.prog 2 (intD .i64) := key_int Try.underlying2
theorem prNew_ok (boot most : Int) (h1 : 1 ≤ boot ∧ boot ≤ 1099511627776) (h2 : 1 ≤ most ∧ most ≤ 1024) : Sat Try.prog 5 [iA boot, iA most] [] (.tup [.ptr 1 0, iA 0]) [laO [] 0, .cells [iA boot, iA most, iA 0, .d (.v (.slice none 0 0)), .mp 0]] := by
  refine sat_of_vc (T := tiOf Try.prog) (E := E0) Try.func5 rfl rfl hE0 hm0 rfl ?_
  conv => whnf
  iterate 5
    repeat' (first | exact True.intro | ((first | refine And.intro (fun _ => ?_) tf | refine And.intro ft (fun _ => ?_) | refine And.intro (by kernel_rfl) ?_ | refine And.intro (by decide) ?_ | refine And.intro (fun _ => ?_) (fun h => absurd h (by decide)) | refine And.intro (fun h => absurd h (by decide)) (fun _ => ?_) | refine ⟨_, _, mp_make (ek := intD .i64) (ev := intD .i64), ?_⟩ | fail); conv => whnf) | (refine And.intro (fun _ => ?_) (fun _ => ?_) <;> conv => whnf) | fail)
    all_goals try (exfalso; simp only [decide_eq_true_eq, decide_eq_false_iff_not, Bool.not_eq_true', Bool.not_eq_false', Bool.not_eq_true, Bool.not_eq_false, beq_iff_eq, bne_iff_ne, beq_eq_false_iff_ne, bne_eq_false_iff_eq, ne_eq, Decidable.not_not] at *; first | omega | contradiction | (simp_all; done) | (simp_all; omega))
    all_goals try (refine Or.inl ?_; conv => whnf)
  all_goals refine ⟨[], ?_⟩
  repeat (any_goals (first | exact True.intro | exact rfl | with_reducible_and_instances rfl | exact (by kernel_rfl) | refine And.intro ?_ ?_))
  all_goals conv => whnf
theorem prNew_err (boot most : Int) (h : ¬ (1 ≤ boot ∧ boot ≤ 1099511627776 ∧ 1 ≤ most ∧ most ≤ 1024)) : Sat Try.prog 5 [iA boot, iA most] [] (.tup [.d (.v (.pointer none)), iA 11]) [] := by
  refine sat_of_vc (T := tiOf Try.prog) (E := E0) Try.func5 rfl rfl hE0 hm0 rfl ?_
  conv => whnf
  iterate 5
    repeat' (first | exact True.intro | ((first | refine And.intro (fun _ => ?_) tf | refine And.intro ft (fun _ => ?_) | refine And.intro (by kernel_rfl) ?_ | refine And.intro (by decide) ?_ | refine And.intro (fun _ => ?_) (fun h => absurd h (by decide)) | refine And.intro (fun h => absurd h (by decide)) (fun _ => ?_) | refine ⟨_, _, mp_make (ek := intD .i64) (ev := intD .i64), ?_⟩ | fail); conv => whnf) | (refine And.intro (fun _ => ?_) (fun _ => ?_) <;> conv => whnf) | fail)
    all_goals try (exfalso; simp only [decide_eq_true_eq, decide_eq_false_iff_not, Bool.not_eq_true', Bool.not_eq_false', Bool.not_eq_true, Bool.not_eq_false, beq_iff_eq, bne_iff_ne, beq_eq_false_iff_ne, bne_eq_false_iff_eq, ne_eq, Decidable.not_not] at *; first | omega | contradiction | (simp_all; done) | (simp_all; omega))
    all_goals try (refine Or.inl ?_; conv => whnf)
  all_goals refine ⟨[], ?_⟩
  repeat (any_goals (first | exact True.intro | exact rfl | with_reducible_and_instances rfl | exact (by kernel_rfl) | refine And.intro ?_ ?_))
  all_goals conv => whnf
theorem forget_none (boot most count : Int) (out : List Snt) (m : LastM) (c : Nat) (g : Int) (hn : out.length ≤ 100000) (hi : idxF (fun x => decide (x.g = g)) out = -1) :
    Sat Try.prog 8 [.ptr 0 0, iA g] (prH boot most count out m c) (iA 0) (prH boot most count out (delX g m) c) := by
  have hm : (out.map sntR).length = out.length := List.length_map _
  have d1 := deleteF_none out hn g hi
  refine sat_of_vc (T := tiOf Try.prog) (E := E0) Try.func8 rfl rfl hE0 hm0 rfl ?_
  conv => whnf
  iterate 3
    repeat' (first | exact True.intro | ((first | refine And.intro (fun _ => ?_) tf | refine And.intro ft (fun _ => ?_) | refine And.intro (by kernel_rfl) ?_ | refine And.intro (by decide) ?_ | refine And.intro (fun _ => ?_) (fun h => absurd h (by decide)) | refine And.intro (fun h => absurd h (by decide)) (fun _ => ?_) | refine ⟨_, _, mp_del kI Try.underlying45 g rfl, ?_⟩ | refine ⟨_, _, d1.at2 1 3 rfl rfl rfl rfl rfl, ?_⟩ | fail); conv => whnf) | (refine And.intro (fun _ => ?_) (fun _ => ?_) <;> conv => whnf) | fail)
    all_goals try (refine Or.inl ?_; conv => whnf)
  all_goals refine ⟨[], ?_⟩
  repeat (any_goals (first | exact True.intro | exact rfl | with_reducible_and_instances rfl | exact (by kernel_rfl) | refine And.intro ?_ ?_))
  all_goals conv => whnf
  show iA (IntKind.i64.wrap (((out.map sntR).length : Int) - ((out.map sntR).length : Int))) = iA 0
  rw [Int.sub_self]; rfl
abbrev prM (boot most count : Int) (out : List Snt) (m : LastM) (c : Nat) : List AObj := [.cells [iA boot, iA most, iA count, .own 3, .mp 2], .dead, laO m c, .sl 5 (out.map sntR)]
theorem forget_some (boot most count : Int) (out : List Snt) (m : LastM) (c : Nat) (g : Int) (hn : out.length ≤ 100000) (i : Nat) (hi : out.findIdx? (fun x => decide (x.g = g)) = some i) :
    Sat Try.prog 8 [.ptr 0 0, iA g] (prH boot most count out m c) (iA (IntKind.i64.wrap ((out.length : Int) - ((out.filter (keepO g)).length : Int)))) (prM boot most count (out.filter (keepO g)) (delX g m) c) := by
  have hm : (out.map sntR).length = out.length := List.length_map _
  have hm2 : ((out.filter (keepO g)).map sntR).length = (out.filter (keepO g)).length := List.length_map _
  have d1 := deleteF_some out hn g i hi
  refine sat_of_vc (T := tiOf Try.prog) (E := E0) Try.func8 rfl rfl hE0 hm0 rfl ?_
  conv => whnf
  iterate 3
    repeat' (first | exact True.intro | ((first | refine And.intro (fun _ => ?_) tf | refine And.intro ft (fun _ => ?_) | refine And.intro (by kernel_rfl) ?_ | refine And.intro (by decide) ?_ | refine And.intro (fun _ => ?_) (fun h => absurd h (by decide)) | refine And.intro (fun h => absurd h (by decide)) (fun _ => ?_) | refine ⟨_, _, mp_del kI Try.underlying45 g rfl, ?_⟩ | refine ⟨_, _, d1.at2 1 3 rfl rfl rfl rfl rfl, ?_⟩ | fail); conv => whnf) | (refine And.intro (fun _ => ?_) (fun _ => ?_) <;> conv => whnf) | fail)
    all_goals try (refine Or.inl ?_; conv => whnf)
  all_goals refine ⟨[(3, 4)], ?_⟩
  repeat (any_goals (first | exact True.intro | exact rfl | with_reducible_and_instances rfl | exact (by kernel_rfl) | refine And.intro ?_ ?_))
  all_goals conv => whnf
  rw [← hm, ← hm2]
/-! ### Answer -/
theorem answer_old (boot most count : Int) (out : List Snt) (m : LastM) (c : Nat) (g e b q : Int) (hb : b ≠ boot) : Sat Try.prog 7 [.ptr 0 0, iA g, iA e, .d (ncD (b, q))] (prH boot most count out m c) (.tup [iA (-1), iA 22]) (prH boot most count out m c) := by
  refine sat_of_vc (T := tiOf Try.prog) (E := E0) Try.func7 rfl rfl hE0 hm0 rfl ?_
  conv => whnf
  iterate 3
    repeat' (first | exact True.intro | ((first | refine And.intro (fun _ => ?_) tf | refine And.intro ft (fun _ => ?_) | refine And.intro (by kernel_rfl) ?_ | refine And.intro (by decide) ?_ | refine And.intro (fun _ => ?_) (fun h => absurd h (by decide)) | refine And.intro (fun h => absurd h (by decide)) (fun _ => ?_) | fail); conv => whnf) | (refine And.intro (fun _ => ?_) (fun _ => ?_) <;> conv => whnf) | fail)
    all_goals try (refine Or.inl ?_; conv => whnf)
  all_goals try (exfalso; simp only [decide_eq_true_eq, decide_eq_false_iff_not, Bool.not_eq_true', Bool.not_eq_false', Bool.not_eq_true, Bool.not_eq_false, beq_iff_eq, bne_iff_ne, beq_eq_false_iff_ne, bne_eq_false_iff_eq, ne_eq, Decidable.not_not] at *; first | omega | contradiction | (simp_all; done) | (simp_all; omega))
  all_goals refine ⟨[], ?_⟩
  repeat (any_goals (first | exact True.intro | exact rfl | with_reducible_and_instances rfl | exact (by kernel_rfl) | refine And.intro ?_ ?_))
  all_goals conv => whnf
theorem answer_none (boot most count : Int) (out : List Snt) (m : LastM) (c : Nat) (g e q : Int) (hn : out.length ≤ 100000) (hi : idxF (fun x => decide (x.n = (boot, q))) out = -1) : Sat Try.prog 7 [.ptr 0 0, iA g, iA e, .d (ncD (boot, q))] (prH boot most count out m c) (.tup [iA (-1), iA 19]) (prH boot most count out m c) := by
  have ix := indexA_sat out hn boot q
  rw [hi] at ix
  refine sat_of_vc (T := tiOf Try.prog) (E := E0) Try.func7 rfl rfl hE0 hm0 rfl ?_
  conv => whnf
  iterate 4
    repeat' (first | exact True.intro | ((first | refine And.intro (fun _ => ?_) tf | refine And.intro ft (fun _ => ?_) | refine And.intro (by kernel_rfl) ?_ | refine And.intro (by decide) ?_ | refine And.intro (fun _ => ?_) (fun h => absurd h (by decide)) | refine And.intro (fun h => absurd h (by decide)) (fun _ => ?_) | refine ⟨_, _, ix.at2 1 3 rfl rfl rfl rfl rfl, ?_⟩ | fail); conv => whnf) | (refine And.intro (fun _ => ?_) (fun _ => ?_) <;> conv => whnf) | fail)
    all_goals try (refine Or.inl ?_; conv => whnf)
  all_goals try (exfalso; simp only [decide_eq_true_eq, decide_eq_false_iff_not, Bool.not_eq_true', Bool.not_eq_false', Bool.not_eq_true, Bool.not_eq_false, beq_iff_eq, bne_iff_ne, beq_eq_false_iff_ne, bne_eq_false_iff_eq, ne_eq, Decidable.not_not] at *; first | omega | contradiction | (simp_all; done) | (simp_all; omega))
  all_goals refine ⟨[], ?_⟩
  repeat (any_goals (first | exact True.intro | exact rfl | with_reducible_and_instances rfl | exact (by kernel_rfl) | refine And.intro ?_ ?_))
  all_goals conv => whnf
theorem answer_bad (boot most count : Int) (out : List Snt) (m : LastM) (c : Nat) (g e q : Int) (hn : out.length ≤ 100000) (i : Nat) (x : Snt) (hi : out.findIdx? (fun x => decide (x.n = (boot, q))) = some i) (hx : out[i]? = some x) (hb : ¬ (x.g = g ∧ x.e = e)) : Sat Try.prog 7 [.ptr 0 0, iA g, iA e, .d (ncD (boot, q))] (prH boot most count out m c) (.tup [iA (-1), iA 10]) (prH boot most count out m c) := by
  have hm : (out.map sntR).length = out.length := List.length_map _
  have ix := indexA_sat out hn boot q
  have hix : idxF (fun x => decide (x.n = (boot, q))) out = (i : Int) := by unfold idxF; rw [hi]
  rw [hix] at ix
  have hil : i < (out.map sntR).length := by rw [hm]; exact (List.getElem?_eq_some_iff.1 hx).1
  have hg := map_get (f := sntR) hx
  refine sat_of_vc (T := tiOf Try.prog) (E := E0) Try.func7 rfl rfl hE0 hm0 rfl ?_
  conv => whnf
  iterate 6
    repeat' (first | exact True.intro | ((first | refine ⟨i, rfl, hil, ?_⟩ | refine ⟨_, hg, ?_⟩ | refine And.intro (fun _ => ?_) tf | refine And.intro ft (fun _ => ?_) | refine And.intro (by kernel_rfl) ?_ | refine And.intro (by decide) ?_ | refine And.intro (fun _ => ?_) (fun h => absurd h (by decide)) | refine And.intro (fun h => absurd h (by decide)) (fun _ => ?_) | refine ⟨_, _, ix.at2 1 3 rfl rfl rfl rfl rfl, ?_⟩ | fail); conv => whnf) | (refine And.intro (fun _ => ?_) (fun _ => ?_) <;> conv => whnf) | fail)
    all_goals try (refine Or.inl ?_; conv => whnf)
  all_goals try exact (bno ‹decide ((i : Int) < 0) = true› (decide_eq_false (by omega))).elim
  all_goals try exact (bno ‹(boot != boot) = true› (by simp)).elim
  · all_goals refine ⟨[], ?_⟩
    repeat (any_goals (first | exact True.intro | exact rfl | with_reducible_and_instances rfl | exact (by kernel_rfl) | refine And.intro ?_ ?_))
    all_goals conv => whnf
  · have h1 : (x.g != g) = false := ‹_›
    have h2 : (x.e != e) = false := ‹_›
    simp at h1 h2
    exact (hb ⟨h1, h2⟩).elim
  · all_goals refine ⟨[], ?_⟩
    repeat (any_goals (first | exact True.intro | exact rfl | with_reducible_and_instances rfl | exact (by kernel_rfl) | refine And.intro ?_ ?_))
    all_goals conv => whnf
theorem answer_ok (boot most count : Int) (out : List Snt) (m : LastM) (c : Nat) (q : Int) (hn : out.length ≤ 100000) (i : Nat) (x : Snt) (hi : out.findIdx? (fun x => decide (x.n = (boot, q))) = some i) (hx : out[i]? = some x) : Sat Try.prog 7 [.ptr 0 0, iA x.g, iA x.e, .d (ncD (boot, q))] (prH boot most count out m c) (.tup [iA x.a, iA 0]) (prM boot most count (out.take i ++ out.drop (i + 1)) m c) := by
  have hm : (out.map sntR).length = out.length := List.length_map _
  have ix := indexA_sat out hn boot q
  have hix : idxF (fun x => decide (x.n = (boot, q))) out = (i : Int) := by unfold idxF; rw [hi]
  rw [hix] at ix
  have hl := (List.getElem?_eq_some_iff.1 hx).1
  have hil : i < (out.map sntR).length := by rw [hm]; exact hl
  have hg := map_get (f := sntR) hx
  have d1 := delete_sat out i (i + 1) (Nat.lt_succ_self i) hl hn
  rw [show ((i + 1 : Nat) : Int) = IntKind.i64.wrap ((i : Int) + 1) by rw [wi (by omega) (by omega)]; rfl] at d1
  refine sat_of_vc (T := tiOf Try.prog) (E := E0) Try.func7 rfl rfl hE0 hm0 rfl ?_
  conv => whnf
  iterate 6
    repeat' (first | exact True.intro | ((first | refine ⟨i, rfl, hil, ?_⟩ | refine ⟨_, hg, ?_⟩ | refine And.intro (fun _ => ?_) tf | refine And.intro ft (fun _ => ?_) | refine And.intro (by kernel_rfl) ?_ | refine And.intro (by decide) ?_ | refine And.intro (fun _ => ?_) (fun h => absurd h (by decide)) | refine And.intro (fun h => absurd h (by decide)) (fun _ => ?_) | refine ⟨_, _, ix.at2 1 3 rfl rfl rfl rfl rfl, ?_⟩ | refine ⟨_, _, d1.at1 1 rfl rfl rfl, ?_⟩ | fail); conv => whnf) | (refine And.intro (fun _ => ?_) (fun _ => ?_) <;> conv => whnf) | fail)
    all_goals try (refine Or.inl ?_; conv => whnf)
  all_goals try exact (bno ‹decide ((i : Int) < 0) = true› (decide_eq_false (by omega))).elim
  all_goals try exact (bno ‹(boot != boot) = true› (by simp)).elim
  all_goals try exact (bno ‹(x.g != x.g) = true› (by simp)).elim
  all_goals try exact (bno ‹(x.e != x.e) = true› (by simp)).elim
  all_goals refine ⟨[(3, 5)], ?_⟩
  repeat (any_goals (first | exact True.intro | exact rfl | with_reducible_and_instances rfl | exact (by kernel_rfl) | refine And.intro ?_ ?_))
  all_goals conv => whnf
end Go.Proofs.Ytamomaihmfdebaa
/- probe: Out, Due, Boot. -/
namespace Go.Proofs.Ytamomaihmfdebaa
set_option linter.unusedSimpArgs false
set_option linter.unusedVariables false
open Go.RowKit
set_option maxRecDepth 100000
def ncR (n : NonceP) : List D := [iD n.1, iD n.2]
theorem out_sat (boot most count : Int) (out : List Snt) (m : LastM) (c : Nat) (hn : out.length ≤ 100000) : Sat Try.prog 9 [.ptr 0 0] (prH boot most count out m c) (.own 3) [prC boot most count, .sl 5 (out.map sntR), laO m c, .sl 2 (out.map fun x => ncR x.n)] := by
  have hm : (out.map sntR).length = out.length := List.length_map _
  refine sat_of_vc (T := tiOf Try.prog) (E := E0) Try.func9 rfl rfl hE0 hm0 rfl ?_
  conv => whnf
  iterate 3
    repeat' (first | exact True.intro | ((first | refine And.intro (fun _ => ?_) tf | refine And.intro ft (fun _ => ?_) | refine And.intro (by kernel_rfl) ?_ | refine And.intro (by decide) ?_ | refine And.intro (fun _ => ?_) (fun h => absurd h (by decide)) | refine And.intro (fun h => absurd h (by decide)) (fun _ => ?_) | refine ⟨_, _, mk0 (c := (out.map sntR).length) 2 16 (by kernel_rfl) (by omega) (by unfold maxLen; omega), ?_⟩ | fail); conv => whnf) | (refine And.intro (fun _ => ?_) (fun _ => ?_) <;> conv => whnf) | fail)
    all_goals try (refine Or.inl ?_; conv => whnf)
  refine ⟨Nat, fun k => k ≤ out.length, fun k => ([(17, iA k), (16, iA out.length), (15, .own 1), (3, .own 3)], [prC boot most count, .sl 5 (out.map sntR), laO m c, .sl 2 ((out.take k).map fun x => ncR x.n)]), fun k => out.length - k, ⟨0, Nat.zero_le _, ?_⟩, ?_⟩
  · all_goals refine ⟨[], ?_⟩
    repeat (any_goals (first | exact True.intro | exact rfl | with_reducible_and_instances rfl | exact (by kernel_rfl) | refine And.intro ?_ ?_))
    all_goals conv => whnf
    rw [hm]
  intro k hk
  replace hk : k ≤ out.length := hk
  have hl2 : ((out.take k).map fun x => ncR x.n).length = k := by rw [List.length_map, List.length_take]; omega
  conv => whnf
  by_cases hlt : k < out.length
  · have hx : out[k]? = some out[k] := List.getElem?_eq_getElem hlt
    generalize out[k] = x at hx
    have hg := map_get (f := sntR) hx
    have hkl : k < (out.map sntR).length := by omega
    have hts : out.take (k + 1) = out.take k ++ [x] := by rw [List.take_add_one, hx]; rfl
    iterate 4
      repeat' (first | exact True.intro | ((first | refine ⟨k, rfl, hkl, ?_⟩ | refine ⟨_, hg, ?_⟩ | refine And.intro (fun _ => ?_) tf | refine And.intro ft (fun _ => ?_) | refine And.intro (by kernel_rfl) ?_ | refine And.intro (by decide) ?_ | refine And.intro (fun _ => ?_) (fun h => absurd h (by decide)) | refine And.intro (fun h => absurd h (by decide)) (fun _ => ?_) | refine ⟨_, _, ap 2 16 (by kernel_rfl) rfl rfl (by simp at hl2 ⊢; omega), ?_⟩ | fail); conv => whnf) | (refine And.intro (fun _ => ?_) (fun _ => ?_) <;> conv => whnf) | fail)
      all_goals try (refine Or.inl ?_; conv => whnf)
    all_goals try exact (bno (decide_eq_true (show (k : Int) < (out.length : Int) by omega)) ‹decide ((k : Int) < (out.length : Int)) = false›).elim
    refine ⟨k + 1, hlt, show out.length - (k + 1) < out.length - k by omega, ?_⟩
    all_goals refine ⟨[(3, 6)], ?_⟩
    repeat (any_goals (first | exact True.intro | exact rfl | with_reducible_and_instances rfl | exact (by kernel_rfl) | refine And.intro ?_ ?_))
    all_goals conv => whnf
    · exact wk1 (by omega)
    · rw [hts, List.map_append]; rfl
  · have hke : k = out.length := by omega
    subst hke
    rw [List.take_length]
    iterate 3
      repeat' (first | exact True.intro | ((first | refine And.intro (fun _ => ?_) tf | refine And.intro ft (fun _ => ?_) | refine And.intro (by kernel_rfl) ?_ | refine And.intro (by decide) ?_ | refine And.intro (fun _ => ?_) (fun h => absurd h (by decide)) | refine And.intro (fun h => absurd h (by decide)) (fun _ => ?_) | fail); conv => whnf) | (refine And.intro (fun _ => ?_) (fun _ => ?_) <;> conv => whnf) | fail)
      all_goals try (refine Or.inl ?_; conv => whnf)
    all_goals try (exfalso; simp only [decide_eq_true_eq, decide_eq_false_iff_not, Bool.not_eq_true', Bool.not_eq_false', Bool.not_eq_true, Bool.not_eq_false, beq_iff_eq, bne_iff_ne, beq_eq_false_iff_ne, bne_eq_false_iff_eq, ne_eq, Decidable.not_not] at *; first | omega | contradiction | (simp_all; done) | (simp_all; omega))
    all_goals refine ⟨[], ?_⟩
    repeat (any_goals (first | exact True.intro | exact rfl | with_reducible_and_instances rfl | exact (by kernel_rfl) | refine And.intro ?_ ?_))
    all_goals conv => whnf
end Go.Proofs.Ytamomaihmfdebaa
/- probe: Send. -/
namespace Go.Proofs.Ytamomaihmfdebaa
set_option linter.unusedSimpArgs false
set_option linter.unusedVariables false
open Go.RowKit
set_option maxRecDepth 100000
def timeP (t : Int) : Bool := decide (t ≥ 0) && decide (t ≤ 4611686018427387903)
theorem isTime_sat (t : Int) : Sat Try.prog 12 [iA t] [] (bA (timeP t)) [] := by
  unfold timeP
  by_cases h : t ≥ 0
  · rw [decide_eq_true h, Bool.true_and]
    refine sat_of_vc (T := tiOf Try.prog) (E := E0) Try.func12 rfl rfl hE0 hm0 rfl ?_
    conv => whnf
    iterate 2
      repeat' (first | exact True.intro | ((first | refine And.intro (fun _ => ?_) tf | refine And.intro ft (fun _ => ?_) | refine And.intro (by kernel_rfl) ?_ | refine And.intro (by decide) ?_ | refine And.intro (fun _ => ?_) (fun h => absurd h (by decide)) | refine And.intro (fun h => absurd h (by decide)) (fun _ => ?_) | fail); conv => whnf) | (refine And.intro (fun _ => ?_) (fun _ => ?_) <;> conv => whnf) | fail)
      all_goals try (refine Or.inl ?_; conv => whnf)
    all_goals try exact (bno (decide_eq_true h) ‹decide (t ≥ 0) = false›).elim
    all_goals refine ⟨[], ?_⟩
    repeat (any_goals (first | exact True.intro | exact rfl | with_reducible_and_instances rfl | exact (by kernel_rfl) | refine And.intro ?_ ?_))
    all_goals conv => whnf
  · rw [decide_eq_false h, Bool.false_and]
    refine sat_of_vc (T := tiOf Try.prog) (E := E0) Try.func12 rfl rfl hE0 hm0 rfl ?_
    conv => whnf
    iterate 2
      repeat' (first | exact True.intro | ((first | refine And.intro (fun _ => ?_) tf | refine And.intro ft (fun _ => ?_) | refine And.intro (by kernel_rfl) ?_ | refine And.intro (by decide) ?_ | refine And.intro (fun _ => ?_) (fun h => absurd h (by decide)) | refine And.intro (fun h => absurd h (by decide)) (fun _ => ?_) | fail); conv => whnf) | (refine And.intro (fun _ => ?_) (fun _ => ?_) <;> conv => whnf) | fail)
      all_goals try (refine Or.inl ?_; conv => whnf)
    all_goals try exact (bno ‹decide (t ≥ 0) = true› (decide_eq_false h)).elim
    all_goals refine ⟨[], ?_⟩
    repeat (any_goals (first | exact True.intro | exact rfl | with_reducible_and_instances rfl | exact (by kernel_rfl) | refine And.intro ?_ ?_))
    all_goals conv => whnf
def sendOK (g e a : Int) : Prop := 0 ≤ g ∧ g < 64 ∧ 1 ≤ e ∧ e ≤ 1099511627776 ∧ timeP a = true
theorem send_ok1 (boot most count : Int) (out : List Snt) (m : LastM) (c : Nat) (g e a : Int) (hn : out.length ≤ 100000) (hc : 0 ≤ count ∧ count ≤ 1000000) (ho : sendOK g e a) (hl : ((out.length + 1 : Nat) : Int) ≤ most) :
    Sat Try.prog 6 [.ptr 0 0, iA g, iA e, iA a] (prH boot most count out m c) (.tup [.d (ncD (boot, count)), iA 0]) (prM boot most (count + 1) (out ++ [⟨boot, count, g, e, a⟩]) (putX g a c m) (clkX g m c)) := by
  have hm : (out.map sntR).length = out.length := List.length_map _
  obtain ⟨h1, h2, h3, h4, h5⟩ := ho
  have it := isTime_sat a
  rw [h5] at it
  refine sat_of_vc (T := tiOf Try.prog) (E := E0) Try.func6 rfl rfl hE0 hm0 rfl ?_
  conv => whnf
  iterate 6
    repeat' (first | exact True.intro | ((first | refine And.intro (fun _ => ?_) tf | refine And.intro ft (fun _ => ?_) | refine And.intro (by kernel_rfl) ?_ | refine And.intro (by decide) ?_ | refine And.intro (fun _ => ?_) (fun h => absurd h (by decide)) | refine And.intro (fun h => absurd h (by decide)) (fun _ => ?_) | refine ⟨_, _, it.pu rfl rfl, ?_⟩ | refine ⟨_, _, ap 5 40 (by kernel_rfl) rfl rfl (by simp; omega), ?_⟩ | refine ⟨_, _, mp_put kI (ek := intD .i64) (ev := intD .i64) (fun _ => rfl) Try.underlying45 g a rfl, ?_⟩ | fail); conv => whnf) | (refine And.intro (fun _ => ?_) (fun _ => ?_) <;> conv => whnf) | fail)
    all_goals try (refine Or.inl ?_; conv => whnf)
  all_goals try (exfalso; simp only [decide_eq_true_eq, decide_eq_false_iff_not, Bool.not_eq_true', Bool.not_eq_false', Bool.not_eq_true, Bool.not_eq_false, beq_iff_eq, bne_iff_ne, beq_eq_false_iff_ne, bne_eq_false_iff_eq, ne_eq, Decidable.not_not] at *; first | omega | contradiction | (simp_all; done) | (simp_all; omega))
  all_goals refine ⟨[(3, 6)], ?_⟩
  repeat (any_goals (first | exact True.intro | exact rfl | with_reducible_and_instances rfl | exact (by kernel_rfl) | refine And.intro ?_ ?_))
  all_goals conv => whnf
  · rw [wi (by omega) (by omega)]
  · rw [List.map_append]; rfl
theorem send_ok2 (boot most count : Int) (out : List Snt) (m : LastM) (c : Nat) (g e a : Int) (hn : out.length ≤ 90000) (hc : 0 ≤ count ∧ count ≤ 1000000) (ho : sendOK g e a) (hmo : 1 ≤ most) (hl : most < ((out.length + 1 : Nat) : Int)) :
    Sat Try.prog 6 [.ptr 0 0, iA g, iA e, iA a] (prH boot most count out m c) (.tup [.d (ncD (boot, count)), iA 0]) (prM boot most (count + 1) ((out ++ [Snt.mk boot count g e a]).drop 1) (putX g a c m) (clkX g m c)) := by
  have hm : (out.map sntR).length = out.length := List.length_map _
  obtain ⟨h1, h2, h3, h4, h5⟩ := ho
  have it := isTime_sat a
  rw [h5] at it
  have d1 := delete_sat (out ++ [Snt.mk boot count g e a]) 0 1 (by decide) (by simp) (by simp; omega)
  rw [List.take_zero, List.nil_append, List.map_append] at d1
  refine sat_of_vc (T := tiOf Try.prog) (E := E0) Try.func6 rfl rfl hE0 hm0 rfl ?_
  conv => whnf
  iterate 6
    repeat' (first | exact True.intro | ((first | refine And.intro (fun _ => ?_) tf | refine And.intro ft (fun _ => ?_) | refine And.intro (by kernel_rfl) ?_ | refine And.intro (by decide) ?_ | refine And.intro (fun _ => ?_) (fun h => absurd h (by decide)) | refine And.intro (fun h => absurd h (by decide)) (fun _ => ?_) | refine ⟨_, _, it.pu rfl rfl, ?_⟩ | refine ⟨_, _, ap 5 40 (by kernel_rfl) rfl rfl (by simp; omega), ?_⟩ | refine ⟨_, _, d1.at1 6 rfl rfl rfl, ?_⟩ | refine ⟨_, _, mp_put kI (ek := intD .i64) (ev := intD .i64) (fun _ => rfl) Try.underlying45 g a rfl, ?_⟩ | fail); conv => whnf) | (refine And.intro (fun _ => ?_) (fun _ => ?_) <;> conv => whnf) | fail)
    all_goals try (refine Or.inl ?_; conv => whnf)
  all_goals try (exfalso; simp only [decide_eq_true_eq, decide_eq_false_iff_not, Bool.not_eq_true', Bool.not_eq_false', Bool.not_eq_true, Bool.not_eq_false, beq_iff_eq, bne_iff_ne, beq_eq_false_iff_ne, bne_eq_false_iff_eq, ne_eq, Decidable.not_not] at *; first | omega | contradiction | (simp_all; done) | (simp_all; omega))
  all_goals refine ⟨[(3, 7)], ?_⟩
  repeat (any_goals (first | exact True.intro | exact rfl | with_reducible_and_instances rfl | exact (by kernel_rfl) | refine And.intro ?_ ?_))
  all_goals conv => whnf
  rw [wi (by omega) (by omega)]
theorem send_bad (boot most count : Int) (out : List Snt) (m : LastM) (c : Nat) (g e a : Int) (ho : ¬ sendOK g e a) :
    Sat Try.prog 6 [.ptr 0 0, iA g, iA e, iA a] (prH boot most count out m c) (.tup [.d (ncD (0, 0)), iA 11]) (prH boot most count out m c) := by
  have it := isTime_sat a
  unfold sendOK at ho
  refine sat_of_vc (T := tiOf Try.prog) (E := E0) Try.func6 rfl rfl hE0 hm0 rfl ?_
  conv => whnf
  iterate 6
    repeat' (first | exact True.intro | ((first | refine And.intro (fun _ => ?_) tf | refine And.intro ft (fun _ => ?_) | refine And.intro (by kernel_rfl) ?_ | refine And.intro (by decide) ?_ | refine And.intro (fun _ => ?_) (fun h => absurd h (by decide)) | refine And.intro (fun h => absurd h (by decide)) (fun _ => ?_) | refine ⟨_, _, it.pu rfl rfl, ?_⟩ | fail); conv => whnf) | (refine And.intro (fun _ => ?_) (fun _ => ?_) <;> conv => whnf) | fail)
    all_goals try (refine Or.inl ?_; conv => whnf)
  all_goals try (exfalso; simp only [decide_eq_true_eq, decide_eq_false_iff_not, Bool.not_eq_true', Bool.not_eq_false', Bool.not_eq_true, Bool.not_eq_false, beq_iff_eq, bne_iff_ne, beq_eq_false_iff_ne, bne_eq_false_iff_eq, ne_eq, Decidable.not_not] at *; first | omega | contradiction | (simp_all; done) | (simp_all; omega))
  all_goals refine ⟨[], ?_⟩
  repeat (any_goals (first | exact True.intro | exact rfl | with_reducible_and_instances rfl | exact (by kernel_rfl) | refine And.intro ?_ ?_))
  all_goals conv => whnf
end Go.Proofs.Ytamomaihmfdebaa
/- probe: Due, Boot. -/
namespace Go.Proofs.Ytamomaihmfdebaa
set_option linter.unusedSimpArgs false
set_option linter.unusedVariables false
open Go.RowKit
set_option maxRecDepth 100000
theorem lI (i : Nat) {L : List AObj} {ty n : Nat} {m : LastM} {c : Nat} {mx kx : Operand} (k : Int) (hi : L[i]? = some (laO m c)) : Does Try.prog (.lookup 45 mx kx true) ty L n [.mp i, iA k] ⟨[i], [], []⟩ (.tup [iA ((findX m k).getD 0), bA (findX m k).isSome]) :=
  mp_looks kI (ev := intD .i64) (fun _ => rfl) 0 Try.underlying45 (by kernel_rfl) k hi
def dueP (m : LastM) (g now per : Int) : Bool := timeP now && timeP per && (!(findX m g).isSome || decide (IntKind.i64.wrap (now - (findX m g).getD 0) ≥ per))
theorem due_own (boot most count : Int) (out : List Snt) (m : LastM) (c : Nat) (g now per : Int) (h1 : timeP now = true) (h2 : timeP per = true) : Sat Try.prog 10 [.ptr 0 0, iA g, iA now, iA per] (prH boot most count out m c) (bA (dueP m g now per)) (prH boot most count out m c) := by
  have i1 := isTime_sat now
  have i2 := isTime_sat per
  unfold dueP
  rw [h1, h2, Bool.true_and, Bool.true_and]
  rw [h1] at i1
  rw [h2] at i2
  cases hf : (findX m g).isSome with
  | false =>
    have h0 : (!(findX m g).isSome) = true := by rw [hf]; rfl
    refine sat_of_vc (T := tiOf Try.prog) (E := E0) Try.func10 rfl rfl hE0 hm0 rfl ?_
    conv => whnf
    iterate 4
      repeat' (first | exact True.intro | ((first | refine And.intro (fun _ => ?_) tf | refine And.intro ft (fun _ => ?_) | refine And.intro (by kernel_rfl) ?_ | refine And.intro (by decide) ?_ | refine And.intro (fun _ => ?_) (fun h => absurd h (by decide)) | refine And.intro (fun h => absurd h (by decide)) (fun _ => ?_) | refine ⟨_, _, i1.pu rfl rfl, ?_⟩ | refine ⟨_, _, i2.pu rfl rfl, ?_⟩ | refine ⟨_, _, lI 2 g rfl, ?_⟩ | fail); conv => whnf) | (refine And.intro (fun _ => ?_) (fun _ => ?_) <;> conv => whnf) | fail)
      all_goals try (refine Or.inl ?_; conv => whnf)
    all_goals try exact (bno h0 ‹(!(findX m g).isSome) = false›).elim
    all_goals refine ⟨[], ?_⟩
    repeat (any_goals (first | exact True.intro | exact rfl | with_reducible_and_instances rfl | exact (by kernel_rfl) | refine And.intro ?_ ?_))
    all_goals conv => whnf
  | true =>
    have h0 : (!(findX m g).isSome) = false := by rw [hf]; rfl
    refine sat_of_vc (T := tiOf Try.prog) (E := E0) Try.func10 rfl rfl hE0 hm0 rfl ?_
    conv => whnf
    iterate 4
      repeat' (first | exact True.intro | ((first | refine And.intro (fun _ => ?_) tf | refine And.intro ft (fun _ => ?_) | refine And.intro (by kernel_rfl) ?_ | refine And.intro (by decide) ?_ | refine And.intro (fun _ => ?_) (fun h => absurd h (by decide)) | refine And.intro (fun h => absurd h (by decide)) (fun _ => ?_) | refine ⟨_, _, i1.pu rfl rfl, ?_⟩ | refine ⟨_, _, i2.pu rfl rfl, ?_⟩ | refine ⟨_, _, lI 2 g rfl, ?_⟩ | fail); conv => whnf) | (refine And.intro (fun _ => ?_) (fun _ => ?_) <;> conv => whnf) | fail)
      all_goals try (refine Or.inl ?_; conv => whnf)
    all_goals try exact (bno ‹(!(findX m g).isSome) = true› h0).elim
    all_goals refine ⟨[], ?_⟩
    repeat (any_goals (first | exact True.intro | exact rfl | with_reducible_and_instances rfl | exact (by kernel_rfl) | refine And.intro ?_ ?_))
    all_goals conv => whnf
abbrev prZ (boot most count : Int) (m : LastM) (c : Nat) : List AObj := [.cells [iA boot, iA most, iA count, .d (.v (.slice none 0 0)), .mp 1], laO m c]
theorem due_nil (boot most count : Int) (m : LastM) (c : Nat) (g now per : Int) (h1 : timeP now = true) (h2 : timeP per = true) : Sat Try.prog 10 [.ptr 0 0, iA g, iA now, iA per] (prZ boot most count m c) (bA (dueP m g now per)) (prZ boot most count m c) := by
  have i1 := isTime_sat now
  have i2 := isTime_sat per
  unfold dueP
  rw [h1, h2, Bool.true_and, Bool.true_and]
  rw [h1] at i1
  rw [h2] at i2
  cases hf : (findX m g).isSome with
  | false =>
    have h0 : (!(findX m g).isSome) = true := by rw [hf]; rfl
    refine sat_of_vc (T := tiOf Try.prog) (E := E0) Try.func10 rfl rfl hE0 hm0 rfl ?_
    conv => whnf
    iterate 4
      repeat' (first | exact True.intro | ((first | refine And.intro (fun _ => ?_) tf | refine And.intro ft (fun _ => ?_) | refine And.intro (by kernel_rfl) ?_ | refine And.intro (by decide) ?_ | refine And.intro (fun _ => ?_) (fun h => absurd h (by decide)) | refine And.intro (fun h => absurd h (by decide)) (fun _ => ?_) | refine ⟨_, _, i1.pu rfl rfl, ?_⟩ | refine ⟨_, _, i2.pu rfl rfl, ?_⟩ | refine ⟨_, _, lI 1 g rfl, ?_⟩ | fail); conv => whnf) | (refine And.intro (fun _ => ?_) (fun _ => ?_) <;> conv => whnf) | fail)
      all_goals try (refine Or.inl ?_; conv => whnf)
    all_goals try exact (bno h0 ‹(!(findX m g).isSome) = false›).elim
    all_goals refine ⟨[], ?_⟩
    repeat (any_goals (first | exact True.intro | exact rfl | with_reducible_and_instances rfl | exact (by kernel_rfl) | refine And.intro ?_ ?_))
    all_goals conv => whnf
  | true =>
    have h0 : (!(findX m g).isSome) = false := by rw [hf]; rfl
    refine sat_of_vc (T := tiOf Try.prog) (E := E0) Try.func10 rfl rfl hE0 hm0 rfl ?_
    conv => whnf
    iterate 4
      repeat' (first | exact True.intro | ((first | refine And.intro (fun _ => ?_) tf | refine And.intro ft (fun _ => ?_) | refine And.intro (by kernel_rfl) ?_ | refine And.intro (by decide) ?_ | refine And.intro (fun _ => ?_) (fun h => absurd h (by decide)) | refine And.intro (fun h => absurd h (by decide)) (fun _ => ?_) | refine ⟨_, _, i1.pu rfl rfl, ?_⟩ | refine ⟨_, _, i2.pu rfl rfl, ?_⟩ | refine ⟨_, _, lI 1 g rfl, ?_⟩ | fail); conv => whnf) | (refine And.intro (fun _ => ?_) (fun _ => ?_) <;> conv => whnf) | fail)
      all_goals try (refine Or.inl ?_; conv => whnf)
    all_goals try exact (bno ‹(!(findX m g).isSome) = true› h0).elim
    all_goals refine ⟨[], ?_⟩
    repeat (any_goals (first | exact True.intro | exact rfl | with_reducible_and_instances rfl | exact (by kernel_rfl) | refine And.intro ?_ ?_))
    all_goals conv => whnf
theorem boot_sat (boot most count : Int) (out : List Snt) (m : LastM) (c : Nat) : Sat Try.prog 11 [.ptr 0 0] (prH boot most count out m c) (iA boot) (prH boot most count out m c) := by
  refine sat_of_vc (T := tiOf Try.prog) (E := E0) Try.func11 rfl rfl hE0 hm0 rfl ?_
  conv => whnf
  iterate 2
    repeat' (first | exact True.intro | ((first | refine And.intro (fun _ => ?_) tf | refine And.intro ft (fun _ => ?_) | refine And.intro (by kernel_rfl) ?_ | refine And.intro (by decide) ?_ | refine And.intro (fun _ => ?_) (fun h => absurd h (by decide)) | refine And.intro (fun h => absurd h (by decide)) (fun _ => ?_) | fail); conv => whnf) | (refine And.intro (fun _ => ?_) (fun _ => ?_) <;> conv => whnf) | fail)
    all_goals try (refine Or.inl ?_; conv => whnf)
  all_goals refine ⟨[], ?_⟩
  repeat (any_goals (first | exact True.intro | exact rfl | with_reducible_and_instances rfl | exact (by kernel_rfl) | refine And.intro ?_ ?_))
  all_goals conv => whnf
theorem send_nil (boot most count : Int) (m : LastM) (c : Nat) (g e a : Int) (hc : 0 ≤ count ∧ count ≤ 1000000) (ho : sendOK g e a) (hl : 1 ≤ most) :
    Sat Try.prog 6 [.ptr 0 0, iA g, iA e, iA a] (prZ boot most count m c) (.tup [.d (ncD (boot, count)), iA 0]) [.cells [iA boot, iA most, iA (count + 1), .own 2, .mp 1], laO (putX g a c m) (clkX g m c), .sl 5 ([Snt.mk boot count g e a].map sntR)] := by
  obtain ⟨h1, h2, h3, h4, h5⟩ := ho
  have it := isTime_sat a
  rw [h5] at it
  refine sat_of_vc (T := tiOf Try.prog) (E := E0) Try.func6 rfl rfl hE0 hm0 rfl ?_
  conv => whnf
  iterate 6
    repeat' (first | exact True.intro | ((first | refine And.intro (fun _ => ?_) tf | refine And.intro ft (fun _ => ?_) | refine And.intro (by kernel_rfl) ?_ | refine And.intro (by decide) ?_ | refine And.intro (fun _ => ?_) (fun h => absurd h (by decide)) | refine And.intro (fun h => absurd h (by decide)) (fun _ => ?_) | refine ⟨_, _, it.pu rfl rfl, ?_⟩ | refine ⟨_, _, ap0 5 40 (by kernel_rfl) rfl (by simp), ?_⟩ | refine ⟨_, _, mp_put kI (ek := intD .i64) (ev := intD .i64) (fun _ => rfl) Try.underlying45 g a rfl, ?_⟩ | fail); conv => whnf) | (refine And.intro (fun _ => ?_) (fun _ => ?_) <;> conv => whnf) | fail)
    all_goals try (refine Or.inl ?_; conv => whnf)
  all_goals try (exfalso; simp only [decide_eq_true_eq, decide_eq_false_iff_not, Bool.not_eq_true', Bool.not_eq_false', Bool.not_eq_true, Bool.not_eq_false, beq_iff_eq, bne_iff_ne, beq_eq_false_iff_ne, bne_eq_false_iff_eq, ne_eq, Decidable.not_not] at *; first | omega | contradiction | (simp_all; done) | (simp_all; omega))
  all_goals refine ⟨[(2, 5)], ?_⟩
  repeat (any_goals (first | exact True.intro | exact rfl | with_reducible_and_instances rfl | exact (by kernel_rfl) | refine And.intro ?_ ?_))
  all_goals conv => whnf
  rw [wi (by omega) (by omega)]
end Go.Proofs.Ytamomaihmfdebaa
/- alive of the law 16. -/
namespace Go.Proofs.Ytamomaihmfdebaa
set_option linter.unusedSimpArgs false
set_option linter.unusedVariables false
open Go.RowKit
set_option maxRecDepth 100000
def s1 : Snt := ⟨4, 0, 3, 1, 10⟩
def s2 : Snt := ⟨4, 1, 3, 1, 20⟩
def l1 : LastM := [(3, 10, 0)]
def l2 : LastM := [(3, 20, 0)]
theorem alive16 : Sat Try.prog 4 [] [] (bA true) [] := by
  have w0 := prNew_ok 4 2 (by decide) (by decide)
  have d1 := due_nil 4 2 0 [] 0 3 0 9 (by decide) (by decide)
  have n1 := send_nil 4 2 0 [] 0 3 1 10 (by decide) (by unfold sendOK; decide) (by decide)
  have d2 := due_own 4 2 1 [s1] l1 1 3 18 9 (by decide) (by decide)
  have d3 := due_own 4 2 1 [s1] l1 1 3 19 9 (by decide) (by decide)
  have a1 := answer_bad 4 2 1 [s1] l1 1 3 2 0 (by decide) 0 s1 (by decide) rfl (by decide)
  have a2 := answer_old 4 2 1 [s1] l1 1 3 1 5 0 (by decide)
  have a3 := answer_ok 4 2 1 [s1] l1 1 0 (by decide) 0 s1 (by decide) rfl
  have a4 := answer_none 4 2 1 [] l1 1 3 1 0 (by decide) (by decide)
  have n2 := send_ok1 4 2 1 [] l1 1 3 1 20 (by decide) (by decide) (by unfold sendOK; decide) (by decide)
  have o1 := out_sat 4 2 2 [s2] l2 1 (by decide)
  have f1 := forget_some 4 2 2 [s2] l2 1 3 (by decide) 0 (by decide)
  have d4 := due_own 4 2 2 [] [] 1 3 20 9 (by decide) (by decide)
  have o2 := out_sat 4 2 2 [] [] 1 (by decide)
  have b1 := boot_sat 4 2 2 [] [] 1
  refine sat_of_vc (T := tiOf Try.prog) (E := E0) Try.func4 rfl rfl hE0 hm0 rfl ?_
  conv => whnf
  iterate 5
    repeat' (first | exact True.intro | ((first | refine ⟨0, rfl, (show 0 < 1 by decide), ?_⟩ | refine ⟨ncR s2.n, rfl, ?_⟩ | refine And.intro (fun _ => ?_) tf | refine And.intro ft (fun _ => ?_) | refine And.intro (by kernel_rfl) ?_ | refine And.intro (by decide) ?_ | refine And.intro (fun _ => ?_) (fun h => absurd h (by decide)) | refine And.intro (fun h => absurd h (by decide)) (fun _ => ?_) | refine ⟨_, _, w0.nw rfl, ?_⟩ | refine ⟨_, _, d1.at2 1 0 rfl rfl rfl rfl rfl, ?_⟩ | refine ⟨_, _, n1.at2 1 0 rfl rfl rfl rfl rfl, ?_⟩ | refine ⟨_, _, d2.at3 1 2 0 rfl rfl rfl rfl rfl rfl, ?_⟩ | refine ⟨_, _, d3.at3 1 2 0 rfl rfl rfl rfl rfl rfl, ?_⟩ | refine ⟨_, _, a1.at3 1 2 0 rfl rfl rfl rfl rfl rfl, ?_⟩ | refine ⟨_, _, a2.at3 1 2 0 rfl rfl rfl rfl rfl rfl, ?_⟩ | refine ⟨_, _, a3.at3 1 2 0 rfl rfl rfl rfl rfl rfl, ?_⟩ | refine ⟨_, _, a4.at3 1 4 0 rfl rfl rfl rfl rfl rfl, ?_⟩ | refine ⟨_, _, n2.at3 1 4 0 rfl rfl rfl rfl rfl rfl, ?_⟩ | refine ⟨_, _, o1.at3 1 5 0 rfl rfl rfl rfl rfl rfl, ?_⟩ | refine ⟨_, _, f1.at3 1 5 0 rfl rfl rfl rfl rfl rfl, ?_⟩ | refine ⟨_, _, d4.at3 1 7 0 rfl rfl rfl rfl rfl rfl, ?_⟩ | refine ⟨_, _, o2.at3 1 7 0 rfl rfl rfl rfl rfl rfl, ?_⟩ | refine ⟨_, _, b1.at3 1 7 0 rfl rfl rfl rfl rfl rfl, ?_⟩ | refine ⟨_, _, eqS (by kernel_rfl), ?_⟩ | refine ⟨_, _, eqP (by kernel_rfl), ?_⟩ | fail); conv => whnf) | (refine And.intro (fun _ => ?_) (fun _ => ?_) <;> conv => whnf) | fail)
    all_goals try (refine Or.inl ?_; conv => whnf)
  all_goals refine ⟨[], ?_⟩
  repeat (any_goals (first | exact True.intro | exact rfl | with_reducible_and_instances rfl | exact (by kernel_rfl) | refine And.intro ?_ ?_))
  all_goals conv => whnf
end Go.Proofs.Ytamomaihmfdebaa
/- done[n]++ where nothing is kept for n yet, in a region that draws its order. -/
namespace Go.Proofs.Ytamomaihmfdebaa
set_option linter.unusedSimpArgs false
open Go.RowKit
set_option linter.unusedVariables false
set_option linter.unusedSectionVars false
set_option maxRecDepth 100000
section
variable {P : Program} {κ ν : Type} [DecidableEq κ] {ek : κ → D} {ev : ν → D} {m : Es κ ν} {c : Nat} {t kt et : TypeId} {w : World} {b : Nat} {z : ν} {k : κ}
theorem run_mapEntry_new (ht : P.underlying t = some (.map kt et)) (K : KeyT P kt ek) (hz : (P.info? et).bind (·.zero) = some (vOf (ev z))) (hb : w.heap[b]? = some (.map (m.map (entryOf ek ev)).toArray c)) (hn : findX m k = none) :
    (Instr.mapEntry t (.map (some b)) (vOf (ek k))).run P w = .ok (.tuple #[vOf (ev z), goInt c]) { w with heap := w.heap.setIfInBounds b (.map ((m ++ [(k, z, c)]).map (entryOf ek ev)).toArray (c + 1)) } := by
  have hg := MapKept.run_getObj_map (P := P) hb
  have hc := K.chk false k w
  rcases run_found (ev := ev) K m k w with ⟨h1, h2, h3⟩ | ⟨j, x, h1, h2, h3, h4, h5⟩
  · have e : (.map ((m ++ [(k, z, c)]).map (entryOf ek ev)).toArray (c + 1) : Obj) = .map ((m.map (entryOf ek ev)).toArray.push { key := vOf (ek k), val := vOf (ev z), born := c }) (c + 1) := by simp [entryOf]
    rw [e]
    simp only [Instr.mapEntry, Sem.run_bind, run_underlying ht, Result.andThen_ok, hg, hc, h2, zero_run hz, MapKept.run_setObj_map _ hb, Sem.run_pure]
  · rw [hn] at h1; cases h1
theorem findIdx_last (hl : ∀ p ∈ m, p.2.2 < c) (k : κ) (z : ν) : ((m ++ [(k, z, c)]).map (entryOf ek ev)).toArray.findIdx? (fun e => ((e.born : Nat) : Int) == ((c : Nat) : Int)) = some m.length := by
  rw [List.findIdx?_toArray, List.map_append, List.findIdx?_append, List.findIdx?_eq_none_iff.2]
  · simp [entryOf]
  · intro x hx
    obtain ⟨p, hp, rfl⟩ := List.mem_map.1 hx
    have := hl p hp
    simp [entryOf]
    omega
theorem run_entryStore_last (hb : w.heap[b]? = some (.map ((m ++ [(k, z, c)]).map (entryOf ek ev)).toArray (c + 1))) (hl : ∀ p ∈ m, p.2.2 < c) (v : ν) :
    (Instr.entryStore t (.map (some b)) (goInt c) (vOf (ev v))).run P w = .ok () { w with heap := w.heap.setIfInBounds b (.map ((m ++ [(k, v, c)]).map (entryOf ek ev)).toArray (c + 1)) } := by
  have hg := MapKept.run_getObj_map (P := P) hb
  have e : ((m ++ [(k, v, c)]).map (entryOf ek ev)).toArray = ((m ++ [(k, z, c)]).map (entryOf ek ev)).toArray.modify m.length fun e => { e with val := vOf (ev v) } := by
    rw [modify_list]
    congr 1
    apply List.ext_getElem?
    intro q
    rw [List.getElem?_modify, List.getElem?_map, List.getElem?_map]
    rcases Nat.lt_trichotomy q m.length with h | h | h
    · have hne : ¬ m.length = q := by omega
      rw [List.getElem?_append_left h, List.getElem?_append_left h]; simp [hne]
    · subst h; simp [entryOf]
    · rw [List.getElem?_eq_none (by simp; omega), List.getElem?_eq_none (by simp; omega)]; simp
  rw [e]
  simp only [Instr.entryStore, Sem.run_bind, Sem.run_pure, Result.andThen_ok, hg, goInt, asInt, asIntOf, findIdx_last hl k z, MapKept.run_setObj_map _ hb]
theorem Slots.put1 {w : World} {F : Nat → Prop} {ρ : Nat → Option Value} {N : Nat} {tm : Tm} {a : Act} (h : Slots w F ρ N tm a) {d : Nat} {x : AV} {v : Value} (hv : RA w F ρ x v) (hd : d < N) : Slots w F ρ N ((d, x) :: tm) (a.put (some d) v) := by
  refine ⟨fun j => ?_, by simp [Act.put, h.2]⟩
  rw [lk_cons]
  by_cases e : d = j
  · subst e
    rw [if_pos rfl]
    have hlt : d < a.tmps.size := by rw [h.2]; exact hd
    simpa [Act.put, hlt] using hv
  · rw [if_neg e]
    have e2 : (a.put (some d) v).tmps.getD j undef = a.tmps.getD j undef := by simp [Act.put, Array.getElem?_setIfInBounds_ne e]
    rw [e2]; exact h.1 j
end
theorem kN : KeyT Try.prog 31 ncD := key_flat [1, 1] (by kernel_rfl) fun a b => by
  obtain ⟨a1, a2⟩ := a
  obtain ⟨b1, b2⟩ := b
  show some (a1 == b1 && a2 == b2) = _
  congr 1
  rw [Bool.eq_iff_iff]
  simp only [Bool.and_eq_true, beq_iff_eq, decide_eq_true_eq, Prod.mk.injEq]
  constructor <;> (rintro ⟨h1, h2⟩; exact ⟨h1.symm, h2.symm⟩)
abbrev doO (m : DoneM) (c : Nat) : AObj := mapO ncD (intD .i64) m c
/-- What the map is while the region goes on. -/
def doAt (m : DoneM) (n : NonceP) (c : Nat) (l : Nat → Bool) : AObj := if l 7 = true then doO (m ++ [(n, 1, c)]) (c + 1) else if l 5 = true then doO (m ++ [(n, 0, c)]) (c + 1) else doO m c
theorem doAt_upd {m : DoneM} {n : NonceP} {c : Nat} {l : Nat → Bool} {i : Nat} (h7 : i ≠ 7) (h5 : i ≠ 5) : doAt m n c (updL l i) = doAt m n c l := by
  have e7 : updL l i 7 = l 7 := if_neg fun e => h7 e.symm
  have e5 : updL l i 5 = l 5 := if_neg fun e => h5 e.symm
  unfold doAt
  rw [e7, e5]
theorem fld5 (b : Nat) (w : World) : (Instr.fieldAt 33 (.pointer (some ⟨b, 0, none⟩)) 5).run Try.prog w = .ok (.pointer (some ⟨b, 5, none⟩)) w := by
  go_simp
theorem atX_none {κ ν : Type} [DecidableEq κ] {m : Es κ ν} {k : κ} (h : findX m k = none) : atX m k = none := by
  rw [findX_idx] at h
  cases hj : atX m k with
  | none => rfl
  | some j =>
    rw [hj] at h
    have hlt := (findIdx_lt hj).1
    rw [List.length_map] at hlt
    simp [List.getElem?_eq_getElem hlt] at h
theorem findX_app {κ ν : Type} [DecidableEq κ] {m : Es κ ν} {k : κ} (h : findX m k = none) (v : ν) (c : Nat) : findX (m ++ [(k, v, c)]) k = some v := by
  unfold findX at h ⊢
  rw [Option.map_eq_none_iff] at h
  rw [List.find?_append, h]
  simp
theorem putAll8 {o0 o1 o2 o3 o4 o5 o6 o7 : Oper} {v0 v1 v2 v3 v4 v5 v6 v7 : Value} {a : Act} : putAll [o0, o1, o2, o3, o4, o5, o6, o7] [v0, v1, v2, v3, v4, v5, v6, v7] a = (((((((a.put o0.dst v0).put o1.dst v1).put o2.dst v2).put o3.dst v3).put o4.dst v4).put o5.dst v5).put o6.dst v6).put o7.dst v7 := rfl
theorem slots8 {o0 o1 o2 o3 o4 o5 o6 o7 : Oper} {ops : List Oper} {tm : Tm} {w : World} {F : Nat → Prop} {ρ : Nat → Option Value} {a : Act} (S0 : Slots w F ρ 196 tm a) {v0 v1 v2 v3 v4 v5 v6 v7 : Value}
    (hl : ops = [o0, o1, o2, o3, o4, o5, o6, o7]) (h0 : o0.dst = some 114) (h1 : o1.dst = some 115) (h2 : o2.dst = some 116) (h3 : o3.dst = some 117) (h4 : o4.dst = some 118) (h5 : o5.dst = some 119) (h6 : o6.dst = some 120) (h7 : o7.dst = none) :
    Slots w F ρ 196 ((120, .any) :: (119, .any) :: (118, .any) :: (117, .any) :: (116, .any) :: (115, .any) :: (114, .any) :: tm) (putAll ops [v0, v1, v2, v3, v4, v5, v6, v7] a) := by
  rw [hl, putAll8, h0, h1, h2, h3, h4, h5, h6, h7, show ∀ (x : Act) (v : Value), x.put none v = x from fun _ _ => rfl]
  refine Slots.put1 ?_ (.any _) (by decide)
  refine Slots.put1 ?_ (.any _) (by decide)
  refine Slots.put1 ?_ (.any _) (by decide)
  refine Slots.put1 ?_ (.any _) (by decide)
  refine Slots.put1 ?_ (.any _) (by decide)
  refine Slots.put1 ?_ (.any _) (by decide)
  refine Slots.put1 ?_ (.any _) (by decide)
  exact S0
theorem getOK_in {k : AObj → Prop} : ∀ {xs : List AObj} {n : Nat} {x : AObj}, xs[n]? = some x → k x → getOK xs n k
  | [], _, _, h, _ => by cases h
  | y :: _, 0, x, h, hk => by
    injection h with h
    subst h
    exact fO_iff.2 hk
  | _ :: r, n + 1, x, h, hk => getOK_in (xs := r) (n := n) (by simpa using h) hk
theorem load_nonce {L : List AObj} {p : Nat} {x0 x1 x2 x3 x4 : Int} {n : NonceP} (hp : L[p]? = some (.cells [iA x0, iA x1, iA x2, iA x3, iA x4, iA n.1, iA n.2])) : loadK (tiOf Try.prog 31) (.ptr p 5) L fun e r => e.rs = [p] ∧ r = .d (ncD n) := by
  have hk : (tiOf Try.prog 31).kind = .st := by kernel_rfl
  have hs : (tiOf Try.prog 31).size = 2 := by kernel_rfl
  unfold loadK
  refine getOK_in hp ?_
  show aggAK (tiOf Try.prog 31) [iA n.1, iA n.2] (fun r => (⟨[p], [], []⟩ : Eff).rs = [p] ∧ r = .d (ncD n))
  unfold aggAK
  rw [hk]
  show takeK [iA n.1, iA n.2] (tiOf Try.prog 31).size (fun ys => mkAggK ys fun r => (⟨[p], [], []⟩ : Eff).rs = [p] ∧ r = .d (ncD n))
  rw [hs]
  exact ⟨rfl, rfl⟩
set_option maxHeartbeats 4000000 in
theorem inc_reg {y0 y1 y2 y3 y4 y5 y6 y7 : TypeId} {p0 p1 p2 p3 p4 p5 p6 p7 : String} {f0 f1 f2 f3 f4 f5 f6 f7 : Array Edge} {ops : Array Oper} {tm : Tm} {L : List AObj} {d p : Nat} {m : DoneM} {c : Nat} {n : NonceP}
    (hops : ops = #[⟨some 114, .move (.tmp 12), y0, p0, f0, none⟩, ⟨some 115, .fieldAddr 33 (.tmp 14) 5, y1, p1, f1, none⟩, ⟨some 116, .load 31 (.tmp 115), y2, p2, f2, none⟩, ⟨some 117, .lookup 29 (.tmp 114) (.tmp 116) false, y3, p3, f3, none⟩, ⟨some 118, .binOp .add 3 (.tmp 117) (.const (.int .i64 1)) 3, y4, p4, f4, none⟩, ⟨some 119, .mapEntry 29 (.tmp 114) (.tmp 116), y5, p5, f5, none⟩, ⟨some 120, .extract (.tmp 119) 1, y6, p6, f6, none⟩, ⟨none, .entryStore 29 (.tmp 114) (.tmp 120) (.tmp 118), y7, p7, f7, none⟩])
    (hreg : (flowOk ops && dstsOk ops.toList 196 && guardsOk ops && noDefer ops.toList) = true) (hdep : (f7.any fun e => e.on == 4 && Region.binds .any e) = true ∧ (f7.any fun e => e.on == 5 && Region.binds .any e) = true ∧ (f4.any fun e => e.on == 3 && Region.binds .any e) = true)
    (h12 : lk tm 12 = .mp d) (h14 : lk tm 14 = .ptr p 0) (hd : L[d]? = some (doO m c)) (hpd : p ≠ d)
    {x0 x1 x2 x3 x4 : Int} (hpc : L[p]? = some (.cells [iA x0, iA x1, iA x2, iA x3, iA x4, iA n.1, iA n.2])) (hn : findX m n = none) (hc : ∀ q ∈ m, q.2.2 < c) :
    RegOK Try.prog 196 ops true tm L ((120, .any) :: (119, .any) :: (118, .any) :: (117, .any) :: (116, .any) :: (115, .any) :: (114, .any) :: tm) (L.set d (doO (putX n 1 c m) (c + 1))) := by
  have hdl : d < L.length := (List.getElem?_eq_some_iff.1 hd).1
  have hload := load_nonce hpc
  refine ⟨by simp, fun id ro nF F ρ w a Q En Sl hQ => ?_⟩
  have r12 := Sl.eval (.tmp 12)
  have r14 := Sl.eval (.tmp 14)
  rw [show evAV tm (.tmp 12) = .mp d from h12] at r12
  rw [show evAV tm (.tmp 14) = .ptr p 0 from h14] at r14
  obtain ⟨b, e12, hρ, hb⟩ := En.mapAt (i := d) hd r12
  obtain ⟨g, e14, hg⟩ : ∃ g, a.eval (.tmp 14) = .pointer (some ⟨g, 0, none⟩) ∧ ρ p = some (.pointer (some ⟨g, 0, none⟩)) := by
    generalize a.eval (.tmp 14) = v at r14
    cases r14 with | ptr h => exact ⟨_, rfl, h⟩
  rw [Bool.and_eq_true] at hreg
  obtain ⟨hreg, hnd⟩ := hreg
  have hput : putX n 1 c m = m ++ [(n, 1, c)] := by rw [putX_idx, atX_none hn]
  -- the map object
  have blk : ∀ {l : Nat → Bool} {V : World}, Env F ρ (updF (hp L) d (some (doAt m n c l))) V → ∀ {x : DoneM} {q : Nat}, doAt m n c l = doO x q → V.heap[b]? = some (.map (x.map (entryOf ncD (intD .i64))).toArray q) := by
    intro l V E x q e
    obtain ⟨b', h1, h2, h3⟩ := E.mapAt (i := d) (m := x) (c := q) (ek := ncD) (ev := intD .i64) (by rw [updF_same, e]) (u := .map (some b)) (.mp hρ)
    injection h1 with h1; injection h1 with h1; subst h1
    exact h3
  have upd : ∀ {l l' : Nat → Bool} {V V' : World}, Step F ρ (hp L) w F ρ (updF (hp L) d (some (doAt m n c l))) V → Env F ρ (updF (hp L) d (some (doAt m n c l))) V → ∀ {x : DoneM} {q : Nat} {o : Obj}, V.heap[b]? = some o → doAt m n c l' = doO x q → V' = { V with heap := V.heap.setIfInBounds b (.map (x.map (entryOf ncD (intD .i64))).toArray q) } →
      Step F ρ (hp L) w F ρ (updF (hp L) d (some (doAt m n c l'))) V' ∧ Env F ρ (updF (hp L) d (some (doAt m n c l'))) V' := by
    intro l l' V V' S E x q o hVb e hV'
    subst hV'
    have hli : ∀ y, (doAt m n c y).live = true := fun y => by
      unfold doAt
      by_cases h7 : y 7 = true
      · rw [if_pos h7]; rfl
      · rw [if_neg h7]
        by_cases h5 : y 5 = true
        · rw [if_pos h5]; rfl
        · rw [if_neg h5]; rfl
    obtain ⟨S1, E1⟩ := E.upd (i := d) (o' := doAt m n c l') (updF_same _ _ _) (hli l) hρ (grown_mp hVb) (by rw [e]; exact ⟨b, _, .inr rfl, (MapKept.heap_set hVb).1, rfl⟩)
    have eU : updF (updF (hp L) d (some (doAt m n c l))) d (some (doAt m n c l')) = updF (hp L) d (some (doAt m n c l')) := by
      funext i
      by_cases h : i = d
      · subst h; rw [updF_same, updF_same]
      · rw [updF_ne _ _ h, updF_ne _ _ h, updF_ne _ _ h]
    rw [eU] at S1 E1
    exact ⟨S.trans S1, E1⟩
  have on : ∀ {f : Array Edge} {j : Nat} {l : Nat → Bool}, (f.any fun e => e.on == j && Region.binds .any e) = true → (∀ e ∈ f, Region.binds .any e = true → l e.on = true) → l j = true := by
    intro f j l h hw
    obtain ⟨e, he, h2⟩ := Array.any_eq_true'.1 h
    simp only [Bool.and_eq_true, beq_iff_eq] at h2
    rw [← h2.1]
    exact hw e he h2.2
  have start : updF (hp L) d (some (doAt m n c fun _ => false)) = hp L := by
    funext i
    by_cases h : i = d
    · subst h; rw [updF_same]; exact hd.symm
    · rw [updF_ne _ _ h]
  refine wpIn_mono (Q := fun e a w => match e with | .normal => Q .normal a w | _ => False) (wpIn_region_any hm0 (wpAnyIn_ro hnd (fun ⟨_, _, h⟩ => h) _ _ _ _ ?_)) (fun e a w h => by cases e <;> first | exact h | exact h.elim)
  refine any_flow (Γ := Unit) (by rw [Sl.2]; exact hreg) (fun _ => [.map (some b), .pointer (some ⟨g, 5, none⟩), vOf (ncD n), .int .i64 0, .int .i64 1, .tuple #[.int .i64 0, goInt c], goInt c, undef])
    (fun l _ V => Step F ρ (hp L) w F ρ (updF (hp L) d (some (doAt m n c l))) V ∧ Env F ρ (updF (hp L) d (some (doAt m n c l))) V) (fun _ => by rw [hops]; rfl) () ?_ ?_ ?_
  · show Step F ρ (hp L) w F ρ (updF (hp L) d (some (doAt m n c fun _ => false))) w.drew ∧ Env F ρ (updF (hp L) d (some (doAt m n c fun _ => false))) w.drew
    rw [start]
    exact ⟨Step.drew _ _ _ _, En.drew⟩
  · subst hops
    refine ⟨?_, ?_, ?_, ?_, ?_, ?_, ?_, ?_, trivial⟩
    · intro l _ V hG hl hw hcl
      refine stepV_value rfl (.map (some b)) ?_ (.inr rfl) (by rw [doAt_upd (by decide) (by decide)]; exact hG)
      show Result.ok (Next.value (a.eval (.tmp 12))) V = _
      rw [e12]
    · intro l _ V hG hl hw hcl
      refine stepV_value rfl _ (exec_fieldAddr _ _ _ rfl ?_) (.inr rfl) (by rw [doAt_upd (by decide) (by decide)]; exact hG)
      show (Instr.fieldAt _ (a.eval (.tmp 14)) 5).run _ _ = _
      rw [e14]
      exact fld5 _ _
    · intro l _ V hG hl hw hcl
      refine stepV_value rfl _ (exec_load _ _ rfl ?_) (.inr rfl) (by rw [doAt_upd (by decide) (by decide)]; exact hG)
      obtain ⟨e, r, ⟨h1, h2⟩, _, _, hr⟩ := loadK_run hload
      subst h2
      obtain ⟨u, h3, h4⟩ := hr _ F ρ V (.pointer (some ⟨g, 5, none⟩)) hG.2 (fun i hi => by rw [h1] at hi; obtain rfl := List.mem_singleton.1 hi; rw [updF_ne _ _ hpd]; rfl) (.ptr hg)
      have := FlatW.eq (.d (closed_flat (kN.cl n))) h4
      subst this
      exact h3
    · intro l _ V hG hl hw hcl
      have h7 : l 7 = false := by
        cases h : l 7 with
        | false => rfl
        | true =>
          have := on hdep.1 (hcl 7 _ rfl h)
          have := on hdep.2.2 (hcl 4 _ rfl this)
          rw [hl] at this; cases this
      refine stepV_value rfl (.int .i64 0) ?_ (.inr rfl) (by rw [doAt_upd (by decide) (by decide)]; exact hG)
      have hz : (Try.prog.info? 3).bind (·.zero) = some (vOf (intD .i64 0)) := by kernel_rfl
      have ex : ∀ (x : DoneM) (q : Nat), doAt m n c l = doO x q → (findX x n).getD 0 = 0 → (Instr.lookup 29 (.map (some b)) (vOf (ncD n)) false).run Try.prog V = .ok (.int .i64 0) V := by
        intro x q e hf
        have := run_lookup (cm := false) (z := (0 : Int)) Try.underlying29 kN (zero_run hz) (blk hG.2 e) n
        rw [hf] at this
        exact this
      have : (Instr.lookup 29 (.map (some b)) (vOf (ncD n)) false).run Try.prog V = .ok (.int .i64 0) V := by
        cases h5 : l 5 with
        | false => exact ex m c (by unfold doAt; rw [h7, h5]; rfl) (by rw [hn]; rfl)
        | true => exact ex (m ++ [(n, 0, c)]) (c + 1) (by unfold doAt; rw [h7, h5]; rfl) (by rw [findX_app hn]; rfl)
      show ((Instr.lookup 29 (.map (some b)) (vOf (ncD n)) false >>= fun v => pure (Next.value v)) : Sem Next).run Try.prog V = _
      rw [Sem.run_bind, this]
      rfl
    · intro l _ V hG hl hw hcl
      exact stepV_value rfl _ (exec_binOp _ _ _ _ _ rfl (show (eqGuard .add 3 (.tmp 117) (.const (.int .i64 1)) (.int .i64 0) (.int .i64 1)).run Try.prog V = .ok () V by go_simp) (show (binOp .add 3 (.int .i64 0) (.int .i64 1)).run Try.prog V = .ok (.int .i64 1) V by go_simp; decide)) (.inr rfl) (by rw [doAt_upd (by decide) (by decide)]; exact hG)
    · intro l _ V hG hl hw hcl
      have h7 : l 7 = false := by
        cases h : l 7 with
        | false => rfl
        | true =>
          have := on hdep.2.1 (hcl 7 _ rfl h)
          rw [hl] at this; cases this
      have hz : (Try.prog.info? 3).bind (·.zero) = some (vOf (intD .i64 0)) := by kernel_rfl
      have hB := blk hG.2 (x := m) (q := c) (by unfold doAt; rw [h7, hl]; rfl)
      have hr := run_mapEntry_new (z := (0 : Int)) Try.underlying29 kN hz hB hn
      refine stepV_run rfl (.tuple #[.int .i64 0, goInt c]) _ () (?_ : _ = Result.ok (Next.value _) { V with heap := V.heap.setIfInBounds b (.map ((m ++ [(n, 0, c)]).map (entryOf ncD (intD .i64))).toArray (c + 1)) }) (SameV.refl _ _ _) (.inr rfl) (upd hG.1 hG.2 hB (x := m ++ [(n, 0, c)]) (q := c + 1) (by
        have e7 : updL l 5 7 = l 7 := if_neg (by decide)
        have e5 : updL l 5 5 = true := if_pos rfl
        unfold doAt; rw [e7, e5, h7]; rfl) rfl)
      show ((Instr.mapEntry 29 (.map (some b)) (vOf (ncD n)) >>= fun v => pure (Next.value v)) : Sem Next).run Try.prog V = _
      rw [Sem.run_bind, hr]
      rfl
    · intro l _ V hG hl hw hcl
      exact stepV_value rfl _ (exec_extract _ _ rfl _ rfl rfl) (.inr rfl) (by rw [doAt_upd (by decide) (by decide)]; exact hG)
    · intro l _ V hG hl hw hcl
      have h5 : l 5 = true := on hdep.2.1 hw
      have hB := blk hG.2 (x := m ++ [(n, 0, c)]) (q := c + 1) (by unfold doAt; rw [hl, h5]; rfl)
      have hr := run_entryStore_last (P := Try.prog) (t := 29) hB hc (1 : Int)
      refine stepV_skip rfl { V with heap := V.heap.setIfInBounds b (.map ((m ++ [(n, 1, c)]).map (entryOf ncD (intD .i64))).toArray (c + 1)) } rfl ?_ (upd hG.1 hG.2 hB (x := m ++ [(n, 1, c)]) (q := c + 1) (by
        have e7 : updL l 7 7 = true := if_pos rfl
        unfold doAt; rw [e7]; rfl) rfl)
      show ((Instr.entryStore 29 (.map (some b)) (goInt c) (vOf (intD .i64 1)) >>= fun _ => pure Next.skip) : Sem Next).run Try.prog V = _
      rw [Sem.run_bind, hr]
      rfl
  · intro l _ V hall hG
    have h7 : l 7 = true := hall 7 (by rw [hops]; show 7 < 8; decide)
    have e : updF (hp L) d (some (doAt m n c l)) = hp (L.set d (doO (putX n 1 c m) (c + 1))) := by
      rw [hp_set hdl, hput]
      unfold doAt
      rw [h7]; rfl
    rw [e] at hG
    refine hQ _ _ F ρ hG.1 (Keep.refl _) hG.2 ?_ (putAll_defs _ _ _).1
    exact slots8 ⟨fun j => hG.1.ra En (Keep.refl _) (Sl.1 j), Sl.2⟩ (congrArg Array.toList hops) rfl rfl rfl rfl rfl rfl rfl rfl
end Go.Proofs.Ytamomaihmfdebaa
