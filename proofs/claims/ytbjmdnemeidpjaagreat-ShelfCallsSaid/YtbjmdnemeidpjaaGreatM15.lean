/- Parts ShQ, ShR, ShS, ShV, Laid, ShW, ShX of the proof, put together. -/
import Derived.Test.YtbjmdnemeidpjaaGreatM14
import Derived.Test.YtbjmdnemeidpjaaGreatChecked
import Derived.Test.YtbjmdnemeidpjaaGreatRows
/- law 22: told: a call on both shelves. -/
namespace Go.Proofs.YtbjmdnemeidpjaaGreat
set_option linter.unusedSimpArgs false
set_option linter.unusedVariables false
open Go.RowKit Go.Sort
set_option maxRecDepth 100000
/-- A call as it is handed in. -/
structure CallP where
  what : Int
  first : Int
  last : Int
  s : ByteArray
  v : Int
  x : Cel
structure CallOk (k : CallP) : Prop where
  what : in64 k.what
  first : in64 k.first
  last : in64 k.last
  v : in64 k.v
  x : CelOK k.x
def clR (k : CallP) : List D := iD k.what :: iD k.first :: iD k.last :: .v (.string k.s) :: iD k.v :: cR k.x
theorem clR_len {k : CallP} (h : k.x.h.length = 65) : (clR k).length = 77 := by
  show (cR k.x).length + 5 = 77
  rw [cR_len h]
theorem sCl : (tiOf Tryz.prog 43).size = 77 := by kernel_rfl
theorem cl_len {k : CallP} {n : Nat} (hn : n = 77) (h : k.x.h.length = 65) : (clR k).length = n := by rw [clR_len h, hn]
theorem cl_take {k : CallP} {n : Nat} (hn : n = 77) (h : k.x.h.length = 65) : (clR k).take n = clR k := List.take_of_length_le (by rw [clR_len h]; omega)
theorem cl_take0 {k : CallP} {n : Nat} (hn : n = 77) (h : k.x.h.length = 65) : ((clR k).drop 0).take n = clR k := cl_take hn h
theorem cl_0 {k : CallP} : (clR k).drop 0 = iD k.what :: (clR k).drop 1 := rfl
theorem cl_1 {k : CallP} : (clR k).drop (0 + 1) = iD k.first :: (clR k).drop 2 := rfl
theorem cl_2 {k : CallP} : (clR k).drop (0 + 2) = iD k.last :: (clR k).drop 3 := rfl
theorem cl_3 {k : CallP} : (clR k).drop (0 + 3) = .v (.string k.s) :: (clR k).drop 4 := rfl
theorem cl_4 {k : CallP} : (clR k).drop (0 + 4) = iD k.v :: (clR k).drop 5 := rfl
theorem cl_cell {k : CallP} {n : Nat} (hn : n = 72) (h : k.x.h.length = 65) : ((clR k).drop (0 + 5)).take n = cR k.x := by
  show (cR k.x).take n = _
  exact List.take_of_length_le (by rw [cR_len h]; omega)
/-- Both shelves. -/
structure TS where
  m : Sh
  c : Nat
  R : List Rw
def toldM (most most' : Int) (S : TS) (k : CallP) : Bool × TS :=
  if k.what = 0 then
    (if shRoom most S.m k.first k.last k.s = dRoom most' S.R k.first k.last k.s then
      (decide ((shNote most S.m S.c k.first k.last k.s).2 = (dNote most' S.R k.first k.last k.s).2), ⟨(shNote most S.m S.c k.first k.last k.s).1.1, (shNote most S.m S.c k.first k.last k.s).1.2, (dNote most' S.R k.first k.last k.s).1⟩)
    else (false, S))
  else if k.what = 1 then
    (decide ((shCount S.m S.c (k.first, k.s) k.v).2 = (dCount S.R (k.first, k.s) k.v).2), ⟨(shCount S.m S.c (k.first, k.s) k.v).1.1, (shCount S.m S.c (k.first, k.s) k.v).1.2, (dCount S.R (k.first, k.s) k.v).1⟩)
  else if k.what = 2 then
    (decide (outsL S.m (belowN S.m k.first) = S.R.take (cutW S.R k.first)), ⟨closedL S.m (belowN S.m k.first), S.c, S.R.drop (cutW S.R k.first)⟩)
  else if k.what = 3 then
    (decide ((shSet most S.m S.c (k.first, k.s) k.x).2 = (dSet most' S.R ((k.first, k.s), k.x)).2), ⟨(shSet most S.m S.c (k.first, k.s) k.x).1.1, (shSet most S.m S.c (k.first, k.s) k.x).1.2, (dSet most' S.R ((k.first, k.s), k.x)).1⟩)
  else (true, S)
abbrev tsH (most most' : Int) (S : TS) : List AObj := [.cells [iA most, .mp 1], shO S.m S.c, .cells [iA most', .own 3], .sl 74 (S.R.map outR)]
abbrev tsM (most most' : Int) (S : TS) : List AObj := [.cells [iA most, .mp 1], shO S.m S.c, .cells [iA most', .own 4], .dead, .sl 74 (S.R.map outR)]
def ToldOK (most most' : Int) (S : TS) (k : CallP) : Prop :=
  Sat Tryz.prog 9 [.ptr 0 0, .ptr 2 0, .d (.agg (clR k))] (tsH most most' S) (bA (toldM most most' S k).1) (tsH most most' (toldM most most' S k).2) ∨
  Sat Tryz.prog 9 [.ptr 0 0, .ptr 2 0, .d (.agg (clR k))] (tsH most most' S) (bA (toldM most most' S k).1) (tsM most most' (toldM most most' S k).2)
structure TSI (S : TS) : Prop where
  m : ShI S.m S.c
  R : RwI S.R
  ml : S.m.length ≤ 50000
  rl : S.R.length ≤ 50000
set_option maxHeartbeats 16000000 in
theorem told_else (most most' : Int) (S : TS) (k : CallP) (hk : CallOk k) (h0 : k.what ≠ 0) (h1 : k.what ≠ 1) (h2 : k.what ≠ 2) (h3 : k.what ≠ 3) : ToldOK most most' S k := by
  have hl := hk.x.hl
  have e : toldM most most' S k = (true, S) := by unfold toldM; rw [if_neg h0, if_neg h1, if_neg h2, if_neg h3]
  refine Or.inl ?_
  rw [e]
  have b0 : (k.what == 0) = false := by simpa using h0
  have b1 : (k.what == 1) = false := by simpa using h1
  have b2 : (k.what == 2) = false := by simpa using h2
  have b3 : (k.what == 3) = false := by simpa using h3
  refine sat_of_vc (T := tiOf Tryz.prog) (E := E0) Tryz.func9 rfl rfl hE0 hm0 rfl ?_
  conv => whnf
  iterate 6
    repeat' (first | exact True.intro | ((first | refine ⟨_, drop_id, ?_⟩ | refine ⟨_, _, cl_0, ?_⟩ | refine ⟨_, _, cl_1, ?_⟩ | refine ⟨_, _, cl_2, ?_⟩ | refine ⟨_, _, cl_3, ?_⟩ | refine ⟨_, _, cl_4, ?_⟩ | refine ⟨_, cl_cell sC hl, clen sC hl, ?_⟩ | refine ⟨_, cl_take sCl hl, cl_len sCl hl, ?_⟩ | refine ⟨_, cl_take0 sCl hl, cl_len sCl hl, ?_⟩ | refine And.intro (cl_len sCl hl) ?_ | refine And.intro (fun _ => ?_) tf | refine And.intro ft (fun _ => ?_) | refine And.intro (by kernel_rfl) ?_ | refine And.intro (by decide) ?_ | refine And.intro (fun _ => ?_) (fun h => absurd h (by decide)) | refine And.intro (fun h => absurd h (by decide)) (fun _ => ?_) | fail); conv => whnf) | (refine And.intro (fun _ => ?_) (fun _ => ?_) <;> conv => whnf) | fail)
    all_goals try (refine Or.inl ?_; conv => whnf)
  all_goals try exact (bno ‹(k.what == 0) = true› b0).elim
  all_goals try exact (bno ‹(k.what == 1) = true› b1).elim
  all_goals try exact (bno ‹(k.what == 2) = true› b2).elim
  all_goals try exact (bno ‹(k.what == 3) = true› b3).elim
  all_goals refine ⟨[], ?_⟩
  repeat (any_goals (first | exact True.intro | exact rfl | with_reducible_and_instances rfl | exact (by kernel_rfl) | refine And.intro ?_ ?_))
  all_goals conv => whnf
set_option maxHeartbeats 32000000 in
theorem told_0 (most most' : Int) (S : TS) (k : CallP) (hS : TSI S) (hk : CallOk k) (hmo : 1 ≤ most ∧ most ≤ 1024) (hmo' : 1 ≤ most' ∧ most' ≤ 1024) (h0 : k.what = 0) : ToldOK most most' S k := by
  have hl := hk.x.hl
  have b0 : (k.what == 0) = true := by simp [h0]
  obtain ⟨m, c, R⟩ := S
  have hm : ShI m c := hS.m
  have hR : RwI R := hS.R
  have hml : m.length ≤ 50000 := hS.ml
  have hrl : R.length ≤ 50000 := hS.rl
  have r1 := shRoom_sat most m c k.first k.last k.s hm.ok hk.first hk.last hmo (by omega)
  have r2 := dRoom_sat most' R k.first k.last k.s hk.first hk.last hmo' (by omega)
  have n1 := shNote_sat most m c k.first k.last k.s hm.ok hk.first hk.last hmo (by omega)
  by_cases hr : shRoom most m k.first k.last k.s = dRoom most' R k.first k.last k.s
  case neg =>
    have e : toldM most most' ⟨m, c, R⟩ k = (false, ⟨m, c, R⟩) := by unfold toldM; rw [if_pos h0]; exact if_neg hr
    refine Or.inl ?_
    rw [e]
    have be : (shRoom most m k.first k.last k.s == dRoom most' R k.first k.last k.s) = false := by simpa using hr
    refine sat_of_vc (T := tiOf Tryz.prog) (E := E0) Tryz.func9 rfl rfl hE0 hm0 rfl ?_
    conv => whnf
    iterate 6
      repeat' (first | exact True.intro | ((first | refine ⟨_, drop_id, ?_⟩ | refine ⟨_, _, cl_0, ?_⟩ | refine ⟨_, _, cl_1, ?_⟩ | refine ⟨_, _, cl_2, ?_⟩ | refine ⟨_, _, cl_3, ?_⟩ | refine ⟨_, _, cl_4, ?_⟩ | refine ⟨_, cl_cell sC hl, clen sC hl, ?_⟩ | refine ⟨_, cl_take sCl hl, cl_len sCl hl, ?_⟩ | refine ⟨_, cl_take0 sCl hl, cl_len sCl hl, ?_⟩ | refine And.intro (cl_len sCl hl) ?_ | refine And.intro (fun _ => ?_) tf | refine And.intro ft (fun _ => ?_) | refine And.intro (by kernel_rfl) ?_ | refine And.intro (by decide) ?_ | refine And.intro (fun _ => ?_) (fun h => absurd h (by decide)) | refine And.intro (fun h => absurd h (by decide)) (fun _ => ?_) | fail); conv => whnf) | (refine And.intro (fun _ => ?_) (fun _ => ?_) <;> conv => whnf) | fail)
      all_goals try (refine Or.inl ?_; conv => whnf)
    all_goals try exact (bno b0 ‹(k.what == 0) = false›).elim
    iterate 4
      repeat' (first | exact True.intro | ((first | refine ⟨_, drop_id, ?_⟩ | refine ⟨_, _, cl_0, ?_⟩ | refine ⟨_, _, cl_1, ?_⟩ | refine ⟨_, _, cl_2, ?_⟩ | refine ⟨_, _, cl_3, ?_⟩ | refine ⟨_, _, cl_4, ?_⟩ | refine ⟨_, cl_cell sC hl, clen sC hl, ?_⟩ | refine ⟨_, cl_take sCl hl, cl_len sCl hl, ?_⟩ | refine ⟨_, cl_take0 sCl hl, cl_len sCl hl, ?_⟩ | refine And.intro (cl_len sCl hl) ?_ | refine And.intro (fun _ => ?_) tf | refine And.intro ft (fun _ => ?_) | refine And.intro (by kernel_rfl) ?_ | refine And.intro (by decide) ?_ | refine And.intro (fun _ => ?_) (fun h => absurd h (by decide)) | refine And.intro (fun h => absurd h (by decide)) (fun _ => ?_) | refine ⟨_, _, r1.at2 0 1 rfl rfl rfl rfl rfl, ?_⟩ | refine ⟨_, _, r2.at2 2 3 rfl rfl rfl rfl rfl, ?_⟩ | refine ⟨_, _, eqB (by kernel_rfl), ?_⟩ | fail); conv => whnf) | (refine And.intro (fun _ => ?_) (fun _ => ?_) <;> conv => whnf) | fail)
      all_goals try (refine Or.inl ?_; conv => whnf)
    all_goals try exact (bno ‹(shRoom most m k.first k.last k.s == dRoom most' R k.first k.last k.s) = true› be).elim
    all_goals refine ⟨[], ?_⟩
    repeat (any_goals (first | exact True.intro | exact rfl | with_reducible_and_instances rfl | exact (by kernel_rfl) | refine And.intro ?_ ?_))
    all_goals conv => whnf
  have e : toldM most most' ⟨m, c, R⟩ k = (decide ((shNote most m c k.first k.last k.s).2 = (dNote most' R k.first k.last k.s).2), ⟨(shNote most m c k.first k.last k.s).1.1, (shNote most m c k.first k.last k.s).1.2, (dNote most' R k.first k.last k.s).1⟩) := by unfold toldM; rw [if_pos h0]; exact if_pos hr
  have be : (shRoom most m k.first k.last k.s == dRoom most' R k.first k.last k.s) = true := by simpa using hr
  unfold ToldOK
  rw [e]
  by_cases hok : (dNote most' R k.first k.last k.s).2 = 0
  · refine Or.inr ?_
    have n2 := dNote_ok most' R k.first k.last k.s hR hk.first hk.last hmo' hrl hok
    rw [hok]
    refine sat_of_vc (T := tiOf Tryz.prog) (E := E0) Tryz.func9 rfl rfl hE0 hm0 rfl ?_
    conv => whnf
    iterate 6
      repeat' (first | exact True.intro | ((first | refine ⟨_, drop_id, ?_⟩ | refine ⟨_, _, cl_0, ?_⟩ | refine ⟨_, _, cl_1, ?_⟩ | refine ⟨_, _, cl_2, ?_⟩ | refine ⟨_, _, cl_3, ?_⟩ | refine ⟨_, _, cl_4, ?_⟩ | refine ⟨_, cl_cell sC hl, clen sC hl, ?_⟩ | refine ⟨_, cl_take sCl hl, cl_len sCl hl, ?_⟩ | refine ⟨_, cl_take0 sCl hl, cl_len sCl hl, ?_⟩ | refine And.intro (cl_len sCl hl) ?_ | refine And.intro (fun _ => ?_) tf | refine And.intro ft (fun _ => ?_) | refine And.intro (by kernel_rfl) ?_ | refine And.intro (by decide) ?_ | refine And.intro (fun _ => ?_) (fun h => absurd h (by decide)) | refine And.intro (fun h => absurd h (by decide)) (fun _ => ?_) | fail); conv => whnf) | (refine And.intro (fun _ => ?_) (fun _ => ?_) <;> conv => whnf) | fail)
      all_goals try (refine Or.inl ?_; conv => whnf)
    all_goals try exact (bno b0 ‹(k.what == 0) = false›).elim
    iterate 4
      repeat' (first | exact True.intro | ((first | refine ⟨_, drop_id, ?_⟩ | refine ⟨_, _, cl_0, ?_⟩ | refine ⟨_, _, cl_1, ?_⟩ | refine ⟨_, _, cl_2, ?_⟩ | refine ⟨_, _, cl_3, ?_⟩ | refine ⟨_, _, cl_4, ?_⟩ | refine ⟨_, cl_cell sC hl, clen sC hl, ?_⟩ | refine ⟨_, cl_take sCl hl, cl_len sCl hl, ?_⟩ | refine ⟨_, cl_take0 sCl hl, cl_len sCl hl, ?_⟩ | refine And.intro (cl_len sCl hl) ?_ | refine And.intro (fun _ => ?_) tf | refine And.intro ft (fun _ => ?_) | refine And.intro (by kernel_rfl) ?_ | refine And.intro (by decide) ?_ | refine And.intro (fun _ => ?_) (fun h => absurd h (by decide)) | refine And.intro (fun h => absurd h (by decide)) (fun _ => ?_) | refine ⟨_, _, r1.at2 0 1 rfl rfl rfl rfl rfl, ?_⟩ | refine ⟨_, _, r2.at2 2 3 rfl rfl rfl rfl rfl, ?_⟩ | refine ⟨_, _, eqB (by kernel_rfl), ?_⟩ | refine ⟨_, _, n1.at2 0 1 rfl rfl rfl rfl rfl, ?_⟩ | refine ⟨_, _, n2.at2 2 3 rfl rfl rfl rfl rfl, ?_⟩ | fail); conv => whnf) | (refine And.intro (fun _ => ?_) (fun _ => ?_) <;> conv => whnf) | fail)
      all_goals try (refine Or.inl ?_; conv => whnf)
    all_goals try exact (bno be ‹(shRoom most m k.first k.last k.s == dRoom most' R k.first k.last k.s) = false›).elim
    all_goals refine ⟨[(4, 6)], ?_⟩
    repeat (any_goals (first | exact True.intro | exact rfl | with_reducible_and_instances rfl | exact (by kernel_rfl) | refine And.intro ?_ ?_))
    all_goals conv => whnf
  · refine Or.inl ?_
    obtain ⟨n2, e2⟩ : (Sat Tryz.prog 24 [.ptr 0 0, iA k.first, iA k.last, .d (.v (.string k.s))] (dO most' R) (iA (dNote most' R k.first k.last k.s).2) (dO most' R)) ∧ (dNote most' R k.first k.last k.s).1 = R := by
      by_cases g1 : k.last < k.first
      · exact ⟨dNote_bad most' R k.first k.last k.s hk.first hk.last hmo' hrl (.inl g1), by unfold dNote; rw [if_pos g1]⟩
      · cases g2 : dRoom most' R k.first k.last k.s with
        | false => exact ⟨dNote_bad most' R k.first k.last k.s hk.first hk.last hmo' hrl (.inr g2), by unfold dNote; rw [if_neg g1, if_pos g2]⟩
        | true =>
          obtain ⟨q1, q2⟩ := dNote_err most' R k.first k.last k.s hR hk.first hk.last hmo' hrl g1 g2 hok
          exact ⟨by rw [q2]; exact q1, by rw [q2]⟩
    rw [e2]
    refine sat_of_vc (T := tiOf Tryz.prog) (E := E0) Tryz.func9 rfl rfl hE0 hm0 rfl ?_
    conv => whnf
    iterate 6
      repeat' (first | exact True.intro | ((first | refine ⟨_, drop_id, ?_⟩ | refine ⟨_, _, cl_0, ?_⟩ | refine ⟨_, _, cl_1, ?_⟩ | refine ⟨_, _, cl_2, ?_⟩ | refine ⟨_, _, cl_3, ?_⟩ | refine ⟨_, _, cl_4, ?_⟩ | refine ⟨_, cl_cell sC hl, clen sC hl, ?_⟩ | refine ⟨_, cl_take sCl hl, cl_len sCl hl, ?_⟩ | refine ⟨_, cl_take0 sCl hl, cl_len sCl hl, ?_⟩ | refine And.intro (cl_len sCl hl) ?_ | refine And.intro (fun _ => ?_) tf | refine And.intro ft (fun _ => ?_) | refine And.intro (by kernel_rfl) ?_ | refine And.intro (by decide) ?_ | refine And.intro (fun _ => ?_) (fun h => absurd h (by decide)) | refine And.intro (fun h => absurd h (by decide)) (fun _ => ?_) | fail); conv => whnf) | (refine And.intro (fun _ => ?_) (fun _ => ?_) <;> conv => whnf) | fail)
      all_goals try (refine Or.inl ?_; conv => whnf)
    all_goals try exact (bno b0 ‹(k.what == 0) = false›).elim
    iterate 4
      repeat' (first | exact True.intro | ((first | refine ⟨_, drop_id, ?_⟩ | refine ⟨_, _, cl_0, ?_⟩ | refine ⟨_, _, cl_1, ?_⟩ | refine ⟨_, _, cl_2, ?_⟩ | refine ⟨_, _, cl_3, ?_⟩ | refine ⟨_, _, cl_4, ?_⟩ | refine ⟨_, cl_cell sC hl, clen sC hl, ?_⟩ | refine ⟨_, cl_take sCl hl, cl_len sCl hl, ?_⟩ | refine ⟨_, cl_take0 sCl hl, cl_len sCl hl, ?_⟩ | refine And.intro (cl_len sCl hl) ?_ | refine And.intro (fun _ => ?_) tf | refine And.intro ft (fun _ => ?_) | refine And.intro (by kernel_rfl) ?_ | refine And.intro (by decide) ?_ | refine And.intro (fun _ => ?_) (fun h => absurd h (by decide)) | refine And.intro (fun h => absurd h (by decide)) (fun _ => ?_) | refine ⟨_, _, r1.at2 0 1 rfl rfl rfl rfl rfl, ?_⟩ | refine ⟨_, _, r2.at2 2 3 rfl rfl rfl rfl rfl, ?_⟩ | refine ⟨_, _, eqB (by kernel_rfl), ?_⟩ | refine ⟨_, _, n1.at2 0 1 rfl rfl rfl rfl rfl, ?_⟩ | refine ⟨_, _, n2.at2 2 3 rfl rfl rfl rfl rfl, ?_⟩ | fail); conv => whnf) | (refine And.intro (fun _ => ?_) (fun _ => ?_) <;> conv => whnf) | fail)
      all_goals try (refine Or.inl ?_; conv => whnf)
    all_goals try exact (bno be ‹(shRoom most m k.first k.last k.s == dRoom most' R k.first k.last k.s) = false›).elim
    all_goals refine ⟨[], ?_⟩
    repeat (any_goals (first | exact True.intro | exact rfl | with_reducible_and_instances rfl | exact (by kernel_rfl) | refine And.intro ?_ ?_))
    all_goals conv => whnf
set_option maxHeartbeats 32000000 in
theorem told_1 (most most' : Int) (S : TS) (k : CallP) (hS : TSI S) (hk : CallOk k) (hmo : 1 ≤ most ∧ most ≤ 1024) (hmo' : 1 ≤ most' ∧ most' ≤ 1024) (h0 : k.what = 1) : ToldOK most most' S k := by
  have hl := hk.x.hl
  have b0 : (k.what == 0) = false := by simp [h0]
  have b1 : (k.what == 1) = true := by simp [h0]
  obtain ⟨m, c, R⟩ := S
  have hm : ShI m c := hS.m
  have hR : RwI R := hS.R
  have hml : m.length ≤ 50000 := hS.ml
  have hrl : R.length ≤ 50000 := hS.rl
  have n1 := shCount_sat most m c (k.first, k.s) k.v hm.ok hk.v
  have n2 := dCount_sat most' R (k.first, k.s) k.v hR hk.v (by omega)
  have e : toldM most most' ⟨m, c, R⟩ k = (decide ((shCount m c (k.first, k.s) k.v).2 = (dCount R (k.first, k.s) k.v).2), ⟨(shCount m c (k.first, k.s) k.v).1.1, (shCount m c (k.first, k.s) k.v).1.2, (dCount R (k.first, k.s) k.v).1⟩) := by unfold toldM; rw [if_neg (by omega), if_pos h0]
  unfold ToldOK
  rw [e]
  refine Or.inl ?_
  refine sat_of_vc (T := tiOf Tryz.prog) (E := E0) Tryz.func9 rfl rfl hE0 hm0 rfl ?_
  conv => whnf
  iterate 6
    repeat' (first | exact True.intro | ((first | refine ⟨_, drop_id, ?_⟩ | refine ⟨_, _, cl_0, ?_⟩ | refine ⟨_, _, cl_1, ?_⟩ | refine ⟨_, _, cl_2, ?_⟩ | refine ⟨_, _, cl_3, ?_⟩ | refine ⟨_, _, cl_4, ?_⟩ | refine ⟨_, cl_cell sC hl, clen sC hl, ?_⟩ | refine ⟨_, cl_take sCl hl, cl_len sCl hl, ?_⟩ | refine ⟨_, cl_take0 sCl hl, cl_len sCl hl, ?_⟩ | refine And.intro (cl_len sCl hl) ?_ | refine And.intro (fun _ => ?_) tf | refine And.intro ft (fun _ => ?_) | refine And.intro (by kernel_rfl) ?_ | refine And.intro (by decide) ?_ | refine And.intro (fun _ => ?_) (fun h => absurd h (by decide)) | refine And.intro (fun h => absurd h (by decide)) (fun _ => ?_) | fail); conv => whnf) | (refine And.intro (fun _ => ?_) (fun _ => ?_) <;> conv => whnf) | fail)
    all_goals try (refine Or.inl ?_; conv => whnf)
  all_goals try exact (bno ‹(k.what == 0) = true› b0).elim
  all_goals try exact (bno b1 ‹(k.what == 1) = false›).elim
  iterate 4
    repeat' (first | exact True.intro | ((first | refine ⟨_, drop_id, ?_⟩ | refine ⟨_, _, cl_0, ?_⟩ | refine ⟨_, _, cl_1, ?_⟩ | refine ⟨_, _, cl_2, ?_⟩ | refine ⟨_, _, cl_3, ?_⟩ | refine ⟨_, _, cl_4, ?_⟩ | refine ⟨_, cl_cell sC hl, clen sC hl, ?_⟩ | refine ⟨_, cl_take sCl hl, cl_len sCl hl, ?_⟩ | refine ⟨_, cl_take0 sCl hl, cl_len sCl hl, ?_⟩ | refine And.intro (cl_len sCl hl) ?_ | refine And.intro (fun _ => ?_) tf | refine And.intro ft (fun _ => ?_) | refine And.intro (by kernel_rfl) ?_ | refine And.intro (by decide) ?_ | refine And.intro (fun _ => ?_) (fun h => absurd h (by decide)) | refine And.intro (fun h => absurd h (by decide)) (fun _ => ?_) | refine ⟨_, _, n1.at2 0 1 rfl rfl rfl rfl rfl, ?_⟩ | refine ⟨_, _, n2.at2 2 3 rfl rfl rfl rfl rfl, ?_⟩ | fail); conv => whnf) | (refine And.intro (fun _ => ?_) (fun _ => ?_) <;> conv => whnf) | fail)
    all_goals try (refine Or.inl ?_; conv => whnf)
  all_goals refine ⟨[], ?_⟩
  repeat (any_goals (first | exact True.intro | exact rfl | with_reducible_and_instances rfl | exact (by kernel_rfl) | refine And.intro ?_ ?_))
  all_goals conv => whnf
set_option maxHeartbeats 32000000 in
theorem told_2 (most most' : Int) (S : TS) (k : CallP) (hS : TSI S) (hk : CallOk k) (hmo : 1 ≤ most ∧ most ≤ 1024) (hmo' : 1 ≤ most' ∧ most' ≤ 1024) (h0 : k.what = 2) : ToldOK most most' S k := by
  have hl := hk.x.hl
  have b0 : (k.what == 0) = false := by simp [h0]
  have b1 : (k.what == 1) = false := by simp [h0]
  have b2 : (k.what == 2) = true := by simp [h0]
  obtain ⟨m, c, R⟩ := S
  have hm : ShI m c := hS.m
  have hR : RwI R := hS.R
  have hml : m.length ≤ 50000 := hS.ml
  have hrl : R.length ≤ 50000 := hS.rl
  have n1 := shClose_sat most m c k.first hm (by omega)
  have n2 := dClose_sat most' R k.first (by omega)
  have hbl : belowN m k.first ≤ m.length := by unfold belowN; have := cut_le (fun k' : KeyW => decide (k'.1 < k.first)) (idsL m); rwa [idsL_len] at this
  have n3 := sameOuts_sat (outsL m (belowN m k.first)) (R.take (cutW R k.first)) (fun y hy => by
    unfold outsL at hy
    obtain ⟨q, _, rfl⟩ := List.mem_map.1 hy
    exact (hm.ok.at_ q).1) (fun y hy => hR.ok y (List.mem_of_mem_take hy)) (by rw [outsL_len hbl]; omega) (by rw [List.length_take]; omega)
  have e : toldM most most' ⟨m, c, R⟩ k = (decide (outsL m (belowN m k.first) = R.take (cutW R k.first)), ⟨closedL m (belowN m k.first), c, R.drop (cutW R k.first)⟩) := by unfold toldM; rw [if_neg (by omega), if_neg (by omega), if_pos h0]
  unfold ToldOK
  rw [e]
  refine Or.inr ?_
  refine sat_of_vc (T := tiOf Tryz.prog) (E := E0) Tryz.func9 rfl rfl hE0 hm0 rfl ?_
  conv => whnf
  iterate 6
    repeat' (first | exact True.intro | ((first | refine ⟨_, drop_id, ?_⟩ | refine ⟨_, _, cl_0, ?_⟩ | refine ⟨_, _, cl_1, ?_⟩ | refine ⟨_, _, cl_2, ?_⟩ | refine ⟨_, _, cl_3, ?_⟩ | refine ⟨_, _, cl_4, ?_⟩ | refine ⟨_, cl_cell sC hl, clen sC hl, ?_⟩ | refine ⟨_, cl_take sCl hl, cl_len sCl hl, ?_⟩ | refine ⟨_, cl_take0 sCl hl, cl_len sCl hl, ?_⟩ | refine And.intro (cl_len sCl hl) ?_ | refine And.intro (fun _ => ?_) tf | refine And.intro ft (fun _ => ?_) | refine And.intro (by kernel_rfl) ?_ | refine And.intro (by decide) ?_ | refine And.intro (fun _ => ?_) (fun h => absurd h (by decide)) | refine And.intro (fun h => absurd h (by decide)) (fun _ => ?_) | fail); conv => whnf) | (refine And.intro (fun _ => ?_) (fun _ => ?_) <;> conv => whnf) | fail)
    all_goals try (refine Or.inl ?_; conv => whnf)
  all_goals try exact (bno ‹(k.what == 0) = true› b0).elim
  all_goals try exact (bno ‹(k.what == 1) = true› b1).elim
  all_goals try exact (bno b2 ‹(k.what == 2) = false›).elim
  iterate 4
    repeat' (first | exact True.intro | ((first | refine ⟨_, drop_id, ?_⟩ | refine ⟨_, _, cl_0, ?_⟩ | refine ⟨_, _, cl_1, ?_⟩ | refine ⟨_, _, cl_2, ?_⟩ | refine ⟨_, _, cl_3, ?_⟩ | refine ⟨_, _, cl_4, ?_⟩ | refine ⟨_, cl_cell sC hl, clen sC hl, ?_⟩ | refine ⟨_, cl_take sCl hl, cl_len sCl hl, ?_⟩ | refine ⟨_, cl_take0 sCl hl, cl_len sCl hl, ?_⟩ | refine And.intro (cl_len sCl hl) ?_ | refine And.intro (fun _ => ?_) tf | refine And.intro ft (fun _ => ?_) | refine And.intro (by kernel_rfl) ?_ | refine And.intro (by decide) ?_ | refine And.intro (fun _ => ?_) (fun h => absurd h (by decide)) | refine And.intro (fun h => absurd h (by decide)) (fun _ => ?_) | refine ⟨_, _, n1.at2 0 1 rfl rfl rfl rfl rfl, ?_⟩ | refine ⟨_, _, n2.at2 2 3 rfl rfl rfl rfl rfl, ?_⟩ | refine ⟨_, _, n3.at2 6 7 rfl rfl rfl rfl rfl, ?_⟩ | fail); conv => whnf) | (refine And.intro (fun _ => ?_) (fun _ => ?_) <;> conv => whnf) | fail)
    all_goals try (refine Or.inl ?_; conv => whnf)
  all_goals refine ⟨[(4, 8)], ?_⟩
  repeat (any_goals (first | exact True.intro | exact rfl | with_reducible_and_instances rfl | exact (by kernel_rfl) | refine And.intro ?_ ?_))
  all_goals conv => whnf
set_option maxHeartbeats 32000000 in
theorem told_3 (most most' : Int) (S : TS) (k : CallP) (hS : TSI S) (hk : CallOk k) (hmo : 1 ≤ most ∧ most ≤ 1024) (hmo' : 1 ≤ most' ∧ most' ≤ 1024) (h0 : k.what = 3) : ToldOK most most' S k := by
  have hl := hk.x.hl
  have b0 : (k.what == 0) = false := by simp [h0]
  have b1 : (k.what == 1) = false := by simp [h0]
  have b2 : (k.what == 2) = false := by simp [h0]
  have b3 : (k.what == 3) = true := by simp [h0]
  obtain ⟨m, c, R⟩ := S
  have hm : ShI m c := hS.m
  have hR : RwI R := hS.R
  have hml : m.length ≤ 50000 := hS.ml
  have hrl : R.length ≤ 50000 := hS.rl
  have n1 := shSet_sat most m c (k.first, k.s) k.x hm.ok hk.x
  have e : toldM most most' ⟨m, c, R⟩ k = (decide ((shSet most m c (k.first, k.s) k.x).2 = (dSet most' R ((k.first, k.s), k.x)).2), ⟨(shSet most m c (k.first, k.s) k.x).1.1, (shSet most m c (k.first, k.s) k.x).1.2, (dSet most' R ((k.first, k.s), k.x)).1⟩) := by unfold toldM; rw [if_neg (by omega), if_neg (by omega), if_neg (by omega), if_pos h0]
  have o1 := of_sat_c k.x hl
  have hbr : sets (sets (sets (List.map D.v (tiOf Tryz.prog 52).zero) 0 [iD k.first]) 1 [.v (.string k.s)]) 2 (cR k.x) = outR ((k.first, k.s), k.x) := build_row (k := (k.first, k.s)) hl
  have hrl : (outR (((k.first, k.s), k.x) : Rw)).length = 74 := outR_len hl
  unfold ToldOK
  rw [e]
  by_cases hok : (dSet most' R ((k.first, k.s), k.x)).2 = 0
  · refine Or.inr ?_
    have n2 := dSet_ok most' R ((k.first, k.s), k.x) hR hk.x (by omega) hok
    rw [hok]
    refine sat_of_vc (T := tiOf Tryz.prog) (E := E0) Tryz.func9 rfl rfl hE0 hm0 rfl ?_
    conv => whnf
    iterate 6
      repeat' (first | exact True.intro | ((first | refine ⟨_, drop_id, ?_⟩ | refine ⟨_, _, cl_0, ?_⟩ | refine ⟨_, _, cl_1, ?_⟩ | refine ⟨_, _, cl_2, ?_⟩ | refine ⟨_, _, cl_3, ?_⟩ | refine ⟨_, _, cl_4, ?_⟩ | refine ⟨_, cl_cell sC hl, clen sC hl, ?_⟩ | refine ⟨_, cl_take sCl hl, cl_len sCl hl, ?_⟩ | refine ⟨_, cl_take0 sCl hl, cl_len sCl hl, ?_⟩ | refine And.intro (cl_len sCl hl) ?_ | refine And.intro (fun _ => ?_) tf | refine And.intro ft (fun _ => ?_) | refine And.intro (by kernel_rfl) ?_ | refine And.intro (by decide) ?_ | refine And.intro (fun _ => ?_) (fun h => absurd h (by decide)) | refine And.intro (fun h => absurd h (by decide)) (fun _ => ?_) | fail); conv => whnf) | (refine And.intro (fun _ => ?_) (fun _ => ?_) <;> conv => whnf) | fail)
      all_goals try (refine Or.inl ?_; conv => whnf)
    all_goals try exact (bno ‹(k.what == 0) = true› b0).elim
    all_goals try exact (bno ‹(k.what == 1) = true› b1).elim
    all_goals try exact (bno ‹(k.what == 2) = true› b2).elim
    all_goals try exact (bno b3 ‹(k.what == 3) = false›).elim
    iterate 4
      repeat' (first | exact True.intro | ((first | refine ⟨_, hbr, ?_⟩ | refine And.intro hrl ?_ | refine ⟨_, drop_id, ?_⟩ | refine ⟨_, _, cl_0, ?_⟩ | refine ⟨_, _, cl_1, ?_⟩ | refine ⟨_, _, cl_2, ?_⟩ | refine ⟨_, _, cl_3, ?_⟩ | refine ⟨_, _, cl_4, ?_⟩ | refine ⟨_, cl_cell sC hl, clen sC hl, ?_⟩ | refine ⟨_, cl_take sCl hl, cl_len sCl hl, ?_⟩ | refine ⟨_, cl_take0 sCl hl, cl_len sCl hl, ?_⟩ | refine And.intro (cl_len sCl hl) ?_ | refine ⟨_, drop_id, ?_⟩ | refine ⟨_, _, at_n, ?_⟩ | refine ⟨_, _, at_hi, ?_⟩ | refine ⟨_, _, at_lo, ?_⟩ | refine ⟨_, _, at_mn, ?_⟩ | refine ⟨_, _, at_mx, ?_⟩ | refine ⟨_, _, at_ce, ?_⟩ | refine ⟨_, _, at_po, ?_⟩ | refine ⟨_, whole_z sC, clenz sC, ?_⟩ | refine ⟨_, setzC, ?_⟩ | refine And.intro (clenz sC) ?_ | refine And.intro fitzC ?_ | refine ⟨_, whole_cell sC hl, clen sC hl, ?_⟩ | refine And.intro (clen sC hl) ?_ | refine And.intro (fitC hl) ?_ | refine ⟨_, setC hl, ?_⟩ | refine ⟨_, whole_z sF, clenz sF, ?_⟩ | refine ⟨_, setzF, ?_⟩ | refine And.intro (clenz sF) ?_ | refine And.intro fitzF ?_ | refine ⟨_, whole_cell sF hl, clen sF hl, ?_⟩ | refine And.intro (clen sF hl) ?_ | refine And.intro (fitF hl) ?_ | refine ⟨_, setF hl, ?_⟩ | refine And.intro (fit1 hl (by decide)) ?_ | refine And.intro (fit1 rfl (by decide)) ?_ | refine ⟨_, sum_cell s25, rfl, ?_⟩ | refine ⟨_, set_n _, ?_⟩ | refine ⟨_, set_mn _, ?_⟩ | refine ⟨_, set_mx _, ?_⟩ | refine ⟨_, set_ce _, ?_⟩ | refine ⟨_, set_po _, ?_⟩ | refine ⟨_, set_s _, ?_⟩ | refine ⟨_, set_hi _, ?_⟩ | refine ⟨_, set_lo _, ?_⟩ | refine And.intro (fun _ => ?_) tf | refine And.intro ft (fun _ => ?_) | refine And.intro (by kernel_rfl) ?_ | refine And.intro (by decide) ?_ | refine And.intro (fun _ => ?_) (fun h => absurd h (by decide)) | refine And.intro (fun h => absurd h (by decide)) (fun _ => ?_) | refine ⟨_, _, n1.at2 0 1 rfl rfl rfl rfl rfl, ?_⟩ | refine ⟨_, _, n2.at2 2 3 rfl rfl rfl rfl rfl, ?_⟩ | refine ⟨_, _, o1.pu rfl rfl, ?_⟩ | fail); conv => whnf) | (refine And.intro (fun _ => ?_) (fun _ => ?_) <;> conv => whnf) | fail)
      all_goals try (refine Or.inl ?_; conv => whnf)
    all_goals refine ⟨[(4, 6)], ?_⟩
    repeat (any_goals (first | exact True.intro | exact rfl | with_reducible_and_instances rfl | exact (by kernel_rfl) | refine And.intro ?_ ?_))
    all_goals conv => whnf
  · refine Or.inl ?_
    have n2 := dSet_err most' R ((k.first, k.s), k.x) hR hk.x (by omega) hok
    have e2 : (dSet most' R ((k.first, k.s), k.x)).1 = R := by
      unfold dSet at hok ⊢
      split
      · rfl
      · rename_i q1
        rw [if_neg q1] at hok
        split
        · rfl
        · rename_i q2
          rw [if_neg q2] at hok
          split
          · rfl
          · rename_i q3
            rw [if_neg q3] at hok
            exact absurd rfl hok
    rw [e2]
    refine sat_of_vc (T := tiOf Tryz.prog) (E := E0) Tryz.func9 rfl rfl hE0 hm0 rfl ?_
    conv => whnf
    iterate 6
      repeat' (first | exact True.intro | ((first | refine ⟨_, drop_id, ?_⟩ | refine ⟨_, _, cl_0, ?_⟩ | refine ⟨_, _, cl_1, ?_⟩ | refine ⟨_, _, cl_2, ?_⟩ | refine ⟨_, _, cl_3, ?_⟩ | refine ⟨_, _, cl_4, ?_⟩ | refine ⟨_, cl_cell sC hl, clen sC hl, ?_⟩ | refine ⟨_, cl_take sCl hl, cl_len sCl hl, ?_⟩ | refine ⟨_, cl_take0 sCl hl, cl_len sCl hl, ?_⟩ | refine And.intro (cl_len sCl hl) ?_ | refine And.intro (fun _ => ?_) tf | refine And.intro ft (fun _ => ?_) | refine And.intro (by kernel_rfl) ?_ | refine And.intro (by decide) ?_ | refine And.intro (fun _ => ?_) (fun h => absurd h (by decide)) | refine And.intro (fun h => absurd h (by decide)) (fun _ => ?_) | fail); conv => whnf) | (refine And.intro (fun _ => ?_) (fun _ => ?_) <;> conv => whnf) | fail)
      all_goals try (refine Or.inl ?_; conv => whnf)
    all_goals try exact (bno ‹(k.what == 0) = true› b0).elim
    all_goals try exact (bno ‹(k.what == 1) = true› b1).elim
    all_goals try exact (bno ‹(k.what == 2) = true› b2).elim
    all_goals try exact (bno b3 ‹(k.what == 3) = false›).elim
    iterate 4
      repeat' (first | exact True.intro | ((first | refine ⟨_, hbr, ?_⟩ | refine And.intro hrl ?_ | refine ⟨_, drop_id, ?_⟩ | refine ⟨_, _, cl_0, ?_⟩ | refine ⟨_, _, cl_1, ?_⟩ | refine ⟨_, _, cl_2, ?_⟩ | refine ⟨_, _, cl_3, ?_⟩ | refine ⟨_, _, cl_4, ?_⟩ | refine ⟨_, cl_cell sC hl, clen sC hl, ?_⟩ | refine ⟨_, cl_take sCl hl, cl_len sCl hl, ?_⟩ | refine ⟨_, cl_take0 sCl hl, cl_len sCl hl, ?_⟩ | refine And.intro (cl_len sCl hl) ?_ | refine ⟨_, drop_id, ?_⟩ | refine ⟨_, _, at_n, ?_⟩ | refine ⟨_, _, at_hi, ?_⟩ | refine ⟨_, _, at_lo, ?_⟩ | refine ⟨_, _, at_mn, ?_⟩ | refine ⟨_, _, at_mx, ?_⟩ | refine ⟨_, _, at_ce, ?_⟩ | refine ⟨_, _, at_po, ?_⟩ | refine ⟨_, whole_z sC, clenz sC, ?_⟩ | refine ⟨_, setzC, ?_⟩ | refine And.intro (clenz sC) ?_ | refine And.intro fitzC ?_ | refine ⟨_, whole_cell sC hl, clen sC hl, ?_⟩ | refine And.intro (clen sC hl) ?_ | refine And.intro (fitC hl) ?_ | refine ⟨_, setC hl, ?_⟩ | refine ⟨_, whole_z sF, clenz sF, ?_⟩ | refine ⟨_, setzF, ?_⟩ | refine And.intro (clenz sF) ?_ | refine And.intro fitzF ?_ | refine ⟨_, whole_cell sF hl, clen sF hl, ?_⟩ | refine And.intro (clen sF hl) ?_ | refine And.intro (fitF hl) ?_ | refine ⟨_, setF hl, ?_⟩ | refine And.intro (fit1 hl (by decide)) ?_ | refine And.intro (fit1 rfl (by decide)) ?_ | refine ⟨_, sum_cell s25, rfl, ?_⟩ | refine ⟨_, set_n _, ?_⟩ | refine ⟨_, set_mn _, ?_⟩ | refine ⟨_, set_mx _, ?_⟩ | refine ⟨_, set_ce _, ?_⟩ | refine ⟨_, set_po _, ?_⟩ | refine ⟨_, set_s _, ?_⟩ | refine ⟨_, set_hi _, ?_⟩ | refine ⟨_, set_lo _, ?_⟩ | refine And.intro (fun _ => ?_) tf | refine And.intro ft (fun _ => ?_) | refine And.intro (by kernel_rfl) ?_ | refine And.intro (by decide) ?_ | refine And.intro (fun _ => ?_) (fun h => absurd h (by decide)) | refine And.intro (fun h => absurd h (by decide)) (fun _ => ?_) | refine ⟨_, _, n1.at2 0 1 rfl rfl rfl rfl rfl, ?_⟩ | refine ⟨_, _, n2.at2 2 3 rfl rfl rfl rfl rfl, ?_⟩ | refine ⟨_, _, o1.pu rfl rfl, ?_⟩ | fail); conv => whnf) | (refine And.intro (fun _ => ?_) (fun _ => ?_) <;> conv => whnf) | fail)
      all_goals try (refine Or.inl ?_; conv => whnf)
    all_goals refine ⟨[], ?_⟩
    repeat (any_goals (first | exact True.intro | exact rfl | with_reducible_and_instances rfl | exact (by kernel_rfl) | refine And.intro ?_ ?_))
    all_goals conv => whnf
theorem told_sat (most most' : Int) (S : TS) (k : CallP) (hS : TSI S) (hk : CallOk k) (hmo : 1 ≤ most ∧ most ≤ 1024) (hmo' : 1 ≤ most' ∧ most' ≤ 1024) : ToldOK most most' S k := by
  by_cases h0 : k.what = 0
  · exact told_0 most most' S k hS hk hmo hmo' h0
  by_cases h1 : k.what = 1
  · exact told_1 most most' S k hS hk hmo hmo' h1
  by_cases h2 : k.what = 2
  · exact told_2 most most' S k hS hk hmo hmo' h2
  by_cases h3 : k.what = 3
  · exact told_3 most most' S k hS hk hmo hmo' h3
  exact told_else most most' S k hk h0 h1 h2 h3
end Go.Proofs.YtbjmdnemeidpjaaGreat
/- law 22 in plain Lean: both shelves stay one. -/
namespace Go.Proofs.YtbjmdnemeidpjaaGreat
set_option linter.unusedSimpArgs false
set_option linter.unusedVariables false
open Go.RowKit Go.Sort
set_option maxRecDepth 100000
theorem ids_so {m : Sh} {c : Nat} (h : Fr m c) : (idsL m).Pairwise ltK := by
  have hp : (idsL m).Perm (m.map (·.1)) := sorted_perm cmpK _
  have hn : (idsL m).Nodup := hp.nodup_iff.2 h.ks
  have hw : (idsL m).Pairwise fun x y => (!(ltOf cmpK) y x) = true := sorted_pw swoK _
  refine (hw.and hn).imp fun {a b} q => ?_
  have q1 : ltOf cmpK b a = false := by simpa using q.1
  rcases ltK_total a b with g | g | g
  · exact g
  · exact absurd g q.2
  · rw [(ltOf_K b a).2 g] at q1; cases q1
theorem ids_mem {m : Sh} {k : KeyW} : k ∈ idsL m ↔ (findX m k).isSome = true := by
  unfold idsL
  rw [(sorted_perm cmpK _).mem_iff]
  exact hasX_iff.symm
theorem ver_some {m : Sh} {k : KeyW} (h : k ∈ idsL m) : findX m k = some (verL m k) := by
  rw [ids_mem] at h
  obtain ⟨x, hx⟩ := Option.isSome_iff_exists.1 h
  unfold verL; rw [hx]; rfl
/-! ### what is taken out of a map -/
theorem delX_sub (k : KeyW) : ∀ m : Sh, (delX k m).Sublist m
  | [] => List.Sublist.refl _
  | p :: m => by
    by_cases e : p.1 = k
    · have : delX k (p :: m) = m := if_pos e
      rw [this]; exact List.sublist_cons_self p m
    · have : delX k (p :: m) = p :: delX k m := if_neg e
      rw [this]; exact (delX_sub k m).cons_cons p
theorem delX_find {m : Sh} (h : (m.map (·.1)).Nodup) (k k' : KeyW) : findX (delX k m) k' = if k' = k then none else findX m k' := by
  induction m with
  | nil => show findX ([] : Sh) k' = _; split <;> rfl
  | cons p m ih =>
    rw [List.map_cons, List.nodup_cons] at h
    have hc : ∀ (q : KeyW × Cel × Nat) (l : Sh), findX (q :: l) k' = if q.1 = k' then some q.2.1 else findX l k' := fun q l => by
      unfold findX
      by_cases e : q.1 = k'
      · rw [List.find?_cons_of_pos (by simpa using e), if_pos e]; rfl
      · rw [List.find?_cons_of_neg (by simpa using e), if_neg e]
    by_cases e : p.1 = k
    · have : delX k (p :: m) = m := if_pos e
      rw [this, hc]
      by_cases g : k' = k
      · rw [if_pos g]
        have : ¬ (findX m k').isSome = true := fun q => h.1 (by rw [e, ← g]; exact hasX_iff.1 q)
        simpa using this
      · rw [if_neg g, if_neg fun q => g (q.symm.trans e)]
    · have : delX k (p :: m) = p :: delX k m := if_neg e
      rw [this, hc, hc, ih h.2]
      by_cases g : k' = k
      · rw [if_pos g, if_pos g, if_neg fun q => e (q.trans g)]
      · rw [if_neg g, if_neg g]
theorem delAll_sub : ∀ (ks : List KeyW) (m : Sh), (delAll ks m).Sublist m
  | [], m => List.Sublist.refl _
  | k :: ks, m => (delAll_sub ks (delX k m)).trans (delX_sub k m)
theorem delAll_find : ∀ (ks : List KeyW) {m : Sh}, (m.map (·.1)).Nodup → ∀ k', (k' ∈ ks → findX (delAll ks m) k' = none) ∧ (k' ∉ ks → findX (delAll ks m) k' = findX m k')
  | [], m, _, k' => ⟨fun h => (by cases h), fun _ => rfl⟩
  | k :: ks, m, h, k' => by
    have h2 : ((delX k m).map (·.1)).Nodup := ((delX_sub k m).map _).nodup h
    have hi := delAll_find ks h2 k'
    have hd := delX_find h k k'
    have e : delAll (k :: ks) m = delAll ks (delX k m) := rfl
    rw [e]
    refine ⟨fun hm => ?_, fun hm => ?_⟩
    · by_cases g : k' ∈ ks
      · exact hi.1 g
      · rw [hi.2 g, hd, if_pos]
        exact (List.mem_cons.1 hm).elim id fun q => absurd q g
    · rw [List.mem_cons, not_or] at hm
      rw [hi.2 hm.2, hd, if_neg hm.1]
theorem delAll_len : ∀ (ks : List KeyW) {m : Sh}, (m.map (·.1)).Nodup → ks.Nodup → (∀ k ∈ ks, (findX m k).isSome = true) → (delAll ks m).length + ks.length = m.length
  | [], m, _, _, _ => rfl
  | k :: ks, m, h, hn, hs => by
    have h2 : ((delX k m).map (·.1)).Nodup := ((delX_sub k m).map _).nodup h
    rw [List.nodup_cons] at hn
    have hl := delX_length (hs k (List.mem_cons_self ..))
    have := delAll_len ks h2 hn.2 fun q hq => by
      rw [delX_find h, if_neg fun e => hn.1 (by rw [← e]; exact hq)]
      exact hs q (List.mem_cons_of_mem _ hq)
    have e : delAll (k :: ks) m = delAll ks (delX k m) := rfl
    rw [e, List.length_cons]
    omega
theorem Fr.sub {m m' : Sh} {c : Nat} (h : Fr m c) (hs : m'.Sublist m) : Fr m' c :=
  ⟨(hs.map _).nodup h.nd, fun p hp => h.lt p (hs.subset hp), (hs.map _).nodup h.ks⟩
theorem ShI.sub {m m' : Sh} {c : Nat} (h : ShI m c) (hs : m'.Sublist m) : ShI m' c :=
  ⟨⟨fun p hp => h.ok.ok p (hs.subset hp), fun p hp => h.ok.right p (hs.subset hp)⟩, h.fr.sub hs⟩
theorem closed_I {m : Sh} {c : Nat} (h : ShI m c) (n : Nat) : ShI (closedL m n) c := h.sub (delAll_sub _ _)
theorem closed_len {m : Sh} {c : Nat} (h : Fr m c) {n : Nat} (hn : n ≤ m.length) : (closedL m n).length + n = m.length := by
  have hs := ids_so h
  have := delAll_len ((idsL m).take n) h.ks ((hs.imp fun {a b} q (e : a = b) => by rw [e] at q; exact ltK_irrefl _ q).sublist (List.take_sublist _ _)) fun k hk => ids_mem.1 (List.mem_of_mem_take hk)
  rw [List.length_take, idsL_len, Nat.min_eq_left hn] at this
  exact this
theorem closed_in {m : Sh} {c : Nat} (h : Fr m c) {n : Nat} {k : KeyW} (hk : k ∈ (idsL m).take n) : findX (closedL m n) k = none := (delAll_find _ h.ks k).1 hk
theorem closed_out {m : Sh} {c : Nat} (h : Fr m c) {n : Nat} {k : KeyW} (hk : k ∉ (idsL m).take n) : findX (closedL m n) k = findX m k := (delAll_find _ h.ks k).2 hk
theorem below_le (m : Sh) (b : Int) : belowN m b ≤ m.length := by unfold belowN; have := cut_le (fun k' : KeyW => decide (k'.1 < b)) (idsL m); rwa [idsL_len] at this
/-- Keys behind the cut are of windows that aren't below. -/
theorem below_out {m : Sh} {c : Nat} (h : Fr m c) {b : Int} {k : KeyW} (hk : k ∈ idsL m) (hn : k ∉ (idsL m).take (belowN m b)) : ¬ k.1 < b := by
  have hs := ids_so h
  unfold belowN at hn
  rw [(take_while (fun k' : KeyW => decide (k'.1 < b)) (idsL m)).1] at hn
  have hj : (idsL m).takeWhile (fun k' => decide (k'.1 < b)) ++ (idsL m).dropWhile (fun k' => decide (k'.1 < b)) = idsL m := List.takeWhile_append_dropWhile
  rw [← hj, List.mem_append] at hk
  have hk := hk.resolve_left hn
  have hs2 : ((idsL m).dropWhile (fun k' => decide (k'.1 < b))).Pairwise ltK := hs.sublist (List.dropWhile_suffix _).sublist
  cases hd : (idsL m).dropWhile (fun k' => decide (k'.1 < b)) with
  | nil => rw [hd] at hk; cases hk
  | cons a r =>
    rw [hd] at hk hs2
    have ha : ¬ a.1 < b := by
      have := List.head?_dropWhile_not (fun k' : KeyW => decide (k'.1 < b)) (idsL m)
      rw [hd] at this
      simpa using this
    rcases List.mem_cons.1 hk with e | e
    · rw [e]; exact ha
    · have := (List.pairwise_cons.1 hs2).1 k e
      rcases this with g | g
      · omega
      · omega
theorem below_in {m : Sh} {b : Int} {k : KeyW} (hk : k ∈ (idsL m).take (belowN m b)) : k.1 < b := by
  unfold belowN at hk
  rw [(take_while (fun k' : KeyW => decide (k'.1 < b)) (idsL m)).1] at hk
  exact of_decide_eq_true (List.all_eq_true.1 (List.all_takeWhile (p := fun k' : KeyW => decide (k'.1 < b)) (l := idsL m)) _ hk)
theorem closed_key {m : Sh} {c : Nat} (h : Fr m c) {b : Int} {k : KeyW} (hk : (findX (closedL m (belowN m b)) k).isSome = true) : ¬ k.1 < b := by
  by_cases q : k ∈ (idsL m).take (belowN m b)
  · rw [closed_in h q] at hk; cases hk
  · rw [closed_out h q] at hk
    exact below_out h (ids_mem.2 hk) q
theorem below_closed {m : Sh} {c : Nat} (h : Fr m c) (b : Int) : belowN (closedL m (belowN m b)) b = 0 := by
  have : (idsL (closedL m (belowN m b))).takeWhile (fun k' => decide (k'.1 < b)) = [] := by
    cases hl : idsL (closedL m (belowN m b)) with
    | nil => rfl
    | cons a r =>
      have ha : a ∈ idsL (closedL m (belowN m b)) := by rw [hl]; exact List.mem_cons_self ..
      rw [List.takeWhile_cons, decide_eq_false (closed_key h (ids_mem.1 ha))]; rfl
  unfold belowN at this ⊢
  rw [this]; rfl
/-! ### whatever is told, a shelf stays in form -/
theorem note_len {most : Int} {m : Sh} {c : Nat} {first last : Int} {s : ByteArray} (hmo : most ≤ 1024) : (shNote most m c first last s).1.1.length ≤ m.length + 1024 := by
  unfold shNote
  by_cases h1 : last < first
  · rw [if_pos h1]; exact Nat.le_add_right _ _
  rw [if_neg h1]
  by_cases h2 : shRoom most m first last s = false
  · rw [if_pos h2]; exact Nat.le_add_right _ _
  rw [if_neg h2]
  split
  · have h3 : last - first < most := by
      have h2 : shRoom most m first last s = true := by simpa using h2
      unfold shRoom at h2
      rw [if_neg h1] at h2
      by_cases q : most ≤ last - first
      · rw [if_pos q] at h2; cases h2
      · omega
    have := putAllX_len (l := notedL m first s (decide (first = last)) ((last - first).toNat + 1)) (m := m) (c := c)
    rw [notedL_len] at this
    show (putAllX _ m c).1.length ≤ _
    omega
  · exact Nat.le_add_right _ _
theorem told_I {most most' : Int} {S : TS} (k : CallP) (hk : CallOk k) (hmo : most ≤ 1024) (hm : ShI S.m S.c) : ShI (toldM most most' S k).2.m (toldM most most' S k).2.c ∧ (toldM most most' S k).2.m.length ≤ S.m.length + 1024 := by
  unfold toldM
  split
  · split
    · exact ⟨hm.note k.first k.last k.s, note_len hmo⟩
    · exact ⟨hm, Nat.le_add_right _ _⟩
  split
  · refine ⟨hm.count (k.first, k.s) hk.v, ?_⟩
    show (shCount S.m S.c (k.first, k.s) k.v).1.1.length ≤ _
    unfold shCount
    split
    · exact Nat.le_add_right _ _
    · split
      · show (putX _ _ _ _).length ≤ _
        rw [putX_length]; split <;> omega
      · exact Nat.le_add_right _ _
  split
  · refine ⟨closed_I hm _, ?_⟩
    have := (delAll_sub ((idsL S.m).take (belowN S.m k.first)) S.m).length_le
    show (delAll ((idsL S.m).take (belowN S.m k.first)) S.m).length ≤ _
    omega
  split
  · refine ⟨hm.set (k.first, k.s) hk.x, ?_⟩
    show (shSet most S.m S.c (k.first, k.s) k.x).1.1.length ≤ _
    unfold shSet
    split
    · exact Nat.le_add_right _ _
    split
    · exact Nat.le_add_right _ _
    split
    · exact Nat.le_add_right _ _
    · show (putX _ _ _ _).length ≤ _
      rw [putX_length]; split <;> omega
  · exact ⟨hm, Nat.le_add_right _ _⟩
end Go.Proofs.YtbjmdnemeidpjaaGreat
/- ShelfCloses, its law. -/
namespace Go.Proofs.YtbjmdnemeidpjaaGreat
set_option linter.unusedSimpArgs false
set_option linter.unusedVariables false
open Go.RowKit Go.Sort
set_option maxRecDepth 100000
def greatM (most : Int) (l : List CallP) : Bool := (decide (200 < most) && decide (most ≤ 1024)) || decide (40 < l.length) || l.any fun k => decide (100 < k.s.size)
theorem great_no {most : Int} {l : List CallP} (h : greatM most l = false) : (most ≤ 200 ∨ 1024 < most) ∧ l.length ≤ 40 := by
  unfold greatM at h
  rw [Bool.or_eq_false_iff, Bool.or_eq_false_iff, Bool.and_eq_false_iff] at h
  obtain ⟨⟨h1, h2⟩, _⟩ := h
  refine ⟨h1.elim (fun q => .inl (by have := of_decide_eq_false q; omega)) fun q => .inr (by have := of_decide_eq_false q; omega), by have := of_decide_eq_false h2; omega⟩
theorem any_take {α : Type} {p : α → Bool} {l : List α} {i : Nat} {x : α} (h : (l.take i).any p = false) (hx : l[i]? = some x) (hp : p x = false) : (l.take (i + 1)).any p = false := by
  rw [List.take_add_one, hx, List.any_append, h]
  simp [hp]
set_option maxHeartbeats 16000000 in
theorem great_sat (most : Int) (l : List CallP) (hl : ∀ k ∈ l, CallOk k) : Sat Tryz.prog 6 [iA most, .d (.sl 77 (l.map clR))] [] (bA (greatM most l)) [] := by
  have hm : (l.map clR).length = l.length := List.length_map _
  by_cases g1 : 200 < most ∧ most ≤ 1024
  · have e : greatM most l = true := by unfold greatM; rw [decide_eq_true g1.1, decide_eq_true g1.2]; rfl
    rw [e]
    refine sat_of_vc (T := tiOf Tryz.prog) (E := E0) Tryz.func6 rfl rfl hE0 hm0 rfl ?_
    conv => whnf
    iterate 2
      repeat' (first | exact True.intro | ((first | refine And.intro (fun _ => ?_) tf | refine And.intro ft (fun _ => ?_) | refine And.intro (by kernel_rfl) ?_ | refine And.intro (by decide) ?_ | refine And.intro (fun _ => ?_) (fun h => absurd h (by decide)) | refine And.intro (fun h => absurd h (by decide)) (fun _ => ?_) | fail); conv => whnf) | (refine And.intro (fun _ => ?_) (fun _ => ?_) <;> conv => whnf) | fail)
      all_goals try (refine Or.inl ?_; conv => whnf)
    all_goals try exact (bno (decide_eq_true (show most > 200 from g1.1)) ‹decide (most > 200) = false›).elim
    all_goals try exact (bno (decide_eq_true (show most ≤ 1024 from g1.2)) ‹decide (most ≤ 1024) = false›).elim
    all_goals refine ⟨[], ?_⟩
    repeat (any_goals (first | exact True.intro | exact rfl | with_reducible_and_instances rfl | exact (by kernel_rfl) | refine And.intro ?_ ?_))
    all_goals conv => whnf
  by_cases g2 : 40 < l.length
  · have e : greatM most l = true := by unfold greatM; rw [decide_eq_true g2]; simp
    rw [e]
    refine sat_of_vc (T := tiOf Tryz.prog) (E := E0) Tryz.func6 rfl rfl hE0 hm0 rfl ?_
    conv => whnf
    iterate 2
      repeat' (first | exact True.intro | ((first | refine And.intro (fun _ => ?_) tf | refine And.intro ft (fun _ => ?_) | refine And.intro (by kernel_rfl) ?_ | refine And.intro (by decide) ?_ | refine And.intro (fun _ => ?_) (fun h => absurd h (by decide)) | refine And.intro (fun h => absurd h (by decide)) (fun _ => ?_) | fail); conv => whnf) | (refine And.intro (fun _ => ?_) (fun _ => ?_) <;> conv => whnf) | fail)
      all_goals try (refine Or.inl ?_; conv => whnf)
    all_goals try exact (bno (decide_eq_true (show (((l.map clR).length : Nat) : Int) > 40 by rw [hm]; omega)) ‹decide (((l.map clR).length : Int) > 40) = false›).elim
    all_goals refine ⟨[], ?_⟩
    repeat (any_goals (first | exact True.intro | exact rfl | with_reducible_and_instances rfl | exact (by kernel_rfl) | refine And.intro ?_ ?_))
    all_goals conv => whnf
  have e : greatM most l = l.any fun k => decide (100 < k.s.size) := by
    unfold greatM
    rw [decide_eq_false g2]
    have : (decide (200 < most) && decide (most ≤ 1024)) = false := by rw [← Bool.not_eq_true, Bool.and_eq_true, decide_eq_true_eq, decide_eq_true_eq]; exact g1
    rw [this]; rfl
  rw [e]
  refine sat_of_vc (T := tiOf Tryz.prog) (E := E0) Tryz.func6 rfl rfl hE0 hm0 rfl ?_
  conv => whnf
  iterate 2
    repeat' (first | exact True.intro | ((first | refine And.intro (fun _ => ?_) tf | refine And.intro ft (fun _ => ?_) | refine And.intro (by kernel_rfl) ?_ | refine And.intro (by decide) ?_ | refine And.intro (fun _ => ?_) (fun h => absurd h (by decide)) | refine And.intro (fun h => absurd h (by decide)) (fun _ => ?_) | fail); conv => whnf) | (refine And.intro (fun _ => ?_) (fun _ => ?_) <;> conv => whnf) | fail)
    all_goals try (refine Or.inl ?_; conv => whnf)
  all_goals try exact (g1 ⟨of_decide_eq_true ‹decide (most > 200) = true›, of_decide_eq_true ‹decide (most ≤ 1024) = true›⟩).elim
  all_goals try exact (bno ‹decide (((l.map clR).length : Int) > 40) = true› (decide_eq_false (by rw [hm]; omega))).elim
  all_goals
    refine ⟨Nat, fun i => i ≤ l.length ∧ (l.take i).any (fun k => decide (100 < k.s.size)) = false, fun i => ([(5, iA i), (1, .d (.sl 77 (l.map clR)))], []), fun i => l.length - i, ⟨0, ⟨Nat.zero_le _, rfl⟩, ?_⟩, ?_⟩
    · all_goals refine ⟨[], ?_⟩
      repeat (any_goals (first | exact True.intro | exact rfl | with_reducible_and_instances rfl | exact (by kernel_rfl) | refine And.intro ?_ ?_))
      all_goals conv => whnf
    rintro i ⟨hi, hno⟩
    replace hi : i ≤ l.length := hi
    replace hno : (l.take i).any (fun k => decide (100 < k.s.size)) = false := hno
    conv => whnf
    by_cases hlt : i < l.length
    · have hx : l[i]? = some l[i] := List.getElem?_eq_getElem hlt
      have hk := hl _ (List.getElem_mem hlt)
      have hmem := List.getElem_mem hlt
      generalize l[i] = k at hx hk hmem
      have hg := map_get (f := clR) hx
      have hkl := hk.x.hl
      iterate 4
        repeat' (first | exact True.intro | ((first | refine ⟨i, _, rfl, hg, ?_⟩ | refine ⟨_, drop_id, ?_⟩ | refine ⟨_, _, cl_0, ?_⟩ | refine ⟨_, _, cl_1, ?_⟩ | refine ⟨_, _, cl_2, ?_⟩ | refine ⟨_, _, cl_3, ?_⟩ | refine ⟨_, _, cl_4, ?_⟩ | refine ⟨_, cl_cell sC hkl, clen sC hkl, ?_⟩ | refine ⟨_, cl_take sCl hkl, cl_len sCl hkl, ?_⟩ | refine ⟨_, cl_take0 sCl hkl, cl_len sCl hkl, ?_⟩ | refine And.intro (cl_len sCl hkl) ?_ | refine And.intro (fun _ => ?_) tf | refine And.intro ft (fun _ => ?_) | refine And.intro (by kernel_rfl) ?_ | refine And.intro (by decide) ?_ | refine And.intro (fun _ => ?_) (fun h => absurd h (by decide)) | refine And.intro (fun h => absurd h (by decide)) (fun _ => ?_) | fail); conv => whnf) | (refine And.intro (fun _ => ?_) (fun _ => ?_) <;> conv => whnf) | fail)
        all_goals try (refine Or.inl ?_; conv => whnf)
      · have : (l.any fun k => decide (100 < k.s.size)) = true := List.any_eq_true.2 ⟨k, hmem, decide_eq_true (by have := of_decide_eq_true ‹decide ((k.s.size : Int) > 100) = true›; omega)⟩
        rw [this]
        all_goals refine ⟨[], ?_⟩
        repeat (any_goals (first | exact True.intro | exact rfl | with_reducible_and_instances rfl | exact (by kernel_rfl) | refine And.intro ?_ ?_))
        all_goals conv => whnf
      · refine ⟨i + 1, ⟨hlt, any_take hno hx (decide_eq_false (by have := of_decide_eq_false ‹decide ((k.s.size : Int) > 100) = false›; omega))⟩, show l.length - (i + 1) < l.length - i by omega, ?_⟩
        all_goals refine ⟨[], ?_⟩
        repeat (any_goals (first | exact True.intro | exact rfl | with_reducible_and_instances rfl | exact (by kernel_rfl) | refine And.intro ?_ ?_))
        all_goals conv => whnf
        exact wk1 (by omega)
      · exact (bno (decide_eq_true (show (i : Int) < ((l.map clR).length : Nat) by rw [hm]; omega)) ‹_›).elim
    · have hil : i = l.length := by omega
      subst hil
      rw [List.take_length] at hno
      rw [hno]
      iterate 4
        repeat' (first | exact True.intro | ((first | refine And.intro (fun _ => ?_) tf | refine And.intro ft (fun _ => ?_) | refine And.intro (by kernel_rfl) ?_ | refine And.intro (by decide) ?_ | refine And.intro (fun _ => ?_) (fun h => absurd h (by decide)) | refine And.intro (fun h => absurd h (by decide)) (fun _ => ?_) | fail); conv => whnf) | (refine And.intro (fun _ => ?_) (fun _ => ?_) <;> conv => whnf) | fail)
        all_goals try (refine Or.inl ?_; conv => whnf)
      all_goals try exact (bno ‹decide ((l.length : Int) < ((l.map clR).length : Nat)) = true› (decide_eq_false (by rw [hm]; omega))).elim
      all_goals refine ⟨[], ?_⟩
      repeat (any_goals (first | exact True.intro | exact rfl | with_reducible_and_instances rfl | exact (by kernel_rfl) | refine And.intro ?_ ?_))
      all_goals conv => whnf
theorem toldN {most : Int} {m : Sh} {c : Nat} {k : CallP} (h : ToldOK most most ⟨m, c, []⟩ k) :
    Sat Tryz.prog 9 [.ptr 0 0, .ptr 2 0, .d (.agg (clR k))] [.cells [iA most, .mp 1], shO m c, dN most] (bA (toldM most most ⟨m, c, []⟩ k).1) (tsH most most (toldM most most ⟨m, c, []⟩ k).2) ∨
    Sat Tryz.prog 9 [.ptr 0 0, .ptr 2 0, .d (.agg (clR k))] [.cells [iA most, .mp 1], shO m c, dN most] (bA (toldM most most ⟨m, c, []⟩ k).1) (tsM most most (toldM most most ⟨m, c, []⟩ k).2) :=
  h.imp (fun h => Sat.nilOwn (H := [.cells [iA most, .mp 1], shO m c]) (cs := [iA most]) h) (fun h => Sat.nilOwn (H := [.cells [iA most, .mp 1], shO m c]) (cs := [iA most]) h)
theorem neCC0 {L : List AObj} {ty n : Nat} {x y : Operand} {t' : TypeId} {c : Cel} (hc : CelOK c) : Does Tryz.prog (.binOp .neq 41 x y t') ty L n [.d (cD c), .d (cD c)] e0 (bA false) := by
  have h := neCC (L := L) (ty := ty) (n := n) (x := x) (y := y) (t' := t') hc hc
  rwa [decide_eq_true rfl] at h
set_option maxHeartbeats 32000000 in
theorem closes_sat (most : Int) (l : List CallP) (before : Int) (hmo : in64 most) (hl : ∀ k ∈ l, CallOk k) (hbf : in64 before) : Sat Tryz.prog 4 [iA most, .d (.sl 77 (l.map clR)), iA before] [] (bA true) [] := by
  have hm : (l.map clR).length = l.length := List.length_map _
  have gr := great_sat most l hl
  cases hg : greatM most l with
  | true =>
    rw [hg] at gr
    refine sat_of_vc (T := tiOf Tryz.prog) (E := E0) Tryz.func4 rfl rfl hE0 hm0 rfl ?_
    conv => whnf
    iterate 3
      repeat' (first | exact True.intro | ((first | refine And.intro (fun _ => ?_) tf | refine And.intro ft (fun _ => ?_) | refine And.intro (by kernel_rfl) ?_ | refine And.intro (by decide) ?_ | refine And.intro (fun _ => ?_) (fun h => absurd h (by decide)) | refine And.intro (fun h => absurd h (by decide)) (fun _ => ?_) | refine ⟨_, _, alive22.pu rfl rfl, ?_⟩ | refine ⟨_, _, gr.pu rfl rfl, ?_⟩ | fail); conv => whnf) | (refine And.intro (fun _ => ?_) (fun _ => ?_) <;> conv => whnf) | fail)
      all_goals try (refine Or.inl ?_; conv => whnf)
    all_goals try (exfalso; simp only [decide_eq_true_eq, decide_eq_false_iff_not, Bool.not_eq_true', Bool.not_eq_false', Bool.not_eq_true, Bool.not_eq_false, beq_iff_eq, bne_iff_ne, beq_eq_false_iff_ne, bne_eq_false_iff_eq, ne_eq, Decidable.not_not] at *; first | omega | contradiction | (simp_all; done) | (simp_all; omega))
    all_goals refine ⟨[], ?_⟩
    repeat (any_goals (first | exact True.intro | exact rfl | with_reducible_and_instances rfl | exact (by kernel_rfl) | refine And.intro ?_ ?_))
    all_goals conv => whnf
  | false =>
  rw [hg] at gr
  obtain ⟨hm1, hll⟩ := great_no hg
  by_cases hmm : 1 ≤ most ∧ most ≤ 200
  case neg =>
    have w0 := shNew_err most (by rcases hm1 with q | q <;> omega)
    refine sat_of_vc (T := tiOf Tryz.prog) (E := E0) Tryz.func4 rfl rfl hE0 hm0 rfl ?_
    conv => whnf
    iterate 5
      repeat' (first | exact True.intro | ((first | refine And.intro (fun _ => ?_) tf | refine And.intro ft (fun _ => ?_) | refine And.intro (by kernel_rfl) ?_ | refine And.intro (by decide) ?_ | refine And.intro (fun _ => ?_) (fun h => absurd h (by decide)) | refine And.intro (fun h => absurd h (by decide)) (fun _ => ?_) | refine ⟨_, _, alive22.pu rfl rfl, ?_⟩ | refine ⟨_, _, gr.pu rfl rfl, ?_⟩ | refine ⟨_, _, w0.pu rfl rfl, ?_⟩ | refine ⟨_, _, eqN (by kernel_rfl), ?_⟩ | fail); conv => whnf) | (refine And.intro (fun _ => ?_) (fun _ => ?_) <;> conv => whnf) | fail)
      all_goals try (refine Or.inl ?_; conv => whnf)
    all_goals try (exfalso; simp only [decide_eq_true_eq, decide_eq_false_iff_not, Bool.not_eq_true', Bool.not_eq_false', Bool.not_eq_true, Bool.not_eq_false, beq_iff_eq, bne_iff_ne, beq_eq_false_iff_ne, bne_eq_false_iff_eq, ne_eq, Decidable.not_not] at *; first | omega | contradiction | (simp_all; done) | (simp_all; omega))
    all_goals refine ⟨[], ?_⟩
    repeat (any_goals (first | exact True.intro | exact rfl | with_reducible_and_instances rfl | exact (by kernel_rfl) | refine And.intro ?_ ?_))
    all_goals conv => whnf
  have w0 := shNew_ok most hmm.1 (by omega)
  refine sat_of_vc (T := tiOf Tryz.prog) (E := E0) Tryz.func4 rfl rfl hE0 hm0 rfl ?_
  conv => whnf
  iterate 5
    repeat' (first | exact True.intro | ((first | refine And.intro (fun _ => ?_) tf | refine And.intro ft (fun _ => ?_) | refine And.intro (by kernel_rfl) ?_ | refine And.intro (by decide) ?_ | refine And.intro (fun _ => ?_) (fun h => absurd h (by decide)) | refine And.intro (fun h => absurd h (by decide)) (fun _ => ?_) | refine ⟨_, _, alive22.pu rfl rfl, ?_⟩ | refine ⟨_, _, gr.pu rfl rfl, ?_⟩ | refine ⟨_, _, w0.nw rfl, ?_⟩ | refine ⟨_, _, eqP (by kernel_rfl), ?_⟩ | fail); conv => whnf) | (refine And.intro (fun _ => ?_) (fun _ => ?_) <;> conv => whnf) | fail)
    all_goals try (refine Or.inl ?_; conv => whnf)
  all_goals try (exfalso; simp only [decide_eq_true_eq, decide_eq_false_iff_not, Bool.not_eq_true', Bool.not_eq_false', Bool.not_eq_true, Bool.not_eq_false, beq_iff_eq, bne_iff_ne, beq_eq_false_iff_ne, bne_eq_false_iff_eq, ne_eq, Decidable.not_not] at *; first | omega | contradiction | (simp_all; done) | (simp_all; omega))
  refine ⟨Nat × Sh × Nat, fun y => y.1 ≤ l.length ∧ ShI y.2.1 y.2.2 ∧ y.2.1.length ≤ 1024 * y.1, fun y => ([(9, iA y.1), (7, .ptr 3 0), (6, .ptr 1 0), (5, .ptr 0 0), (0, iA most), (1, .d (.sl 77 (l.map clR)))], [.cells [iA before], .cells [bA false], shO y.2.1 y.2.2, .cells [iA most, .mp 2]]), fun y => l.length - y.1, ⟨(0, [], 0), ⟨Nat.zero_le _, i_nil, Nat.le_refl _⟩, ?_⟩, ?_⟩
  · all_goals refine ⟨[], ?_⟩
    repeat (any_goals (first | exact True.intro | exact rfl | with_reducible_and_instances rfl | exact (by kernel_rfl) | refine And.intro ?_ ?_))
    all_goals conv => whnf
  rintro ⟨i, m, c⟩ ⟨hi, hI, hln⟩
  replace hi : i ≤ l.length := hi
  replace hI : ShI m c := hI
  replace hln : m.length ≤ 1024 * i := hln
  conv => whnf
  by_cases hlt : i < l.length
  · have hx : l[i]? = some l[i] := List.getElem?_eq_getElem hlt
    have hk := hl _ (List.getElem_mem hlt)
    generalize l[i] = k at hx hk
    have hg := map_get (f := clR) hx
    have hkl := hk.x.hl
    have ts : TSI ⟨m, c, []⟩ := ⟨hI, RwI.nil, by show m.length ≤ 50000; omega, Nat.zero_le _⟩
    obtain ⟨t1, t2⟩ := told_I (most := most) (most' := most) (S := ⟨m, c, []⟩) k hk (by omega) hI
    have t2 : (toldM most most ⟨m, c, []⟩ k).2.m.length ≤ m.length + 1024 := t2
    have hd : decide ((i : Int) < ((l.map clR).length : Nat)) = true := decide_eq_true (by rw [hm]; omega)
    rcases toldN (told_sat most most ⟨m, c, []⟩ k ts hk ⟨hmm.1, by omega⟩ ⟨hmm.1, by omega⟩) with tt | tt
    · generalize toldM most most ⟨m, c, []⟩ k = T at *
      iterate 4
        repeat' (first | exact True.intro | ((first | refine ⟨i, _, rfl, hg, ?_⟩ | refine ⟨_, drop_id, ?_⟩ | refine ⟨_, _, cl_0, ?_⟩ | refine ⟨_, _, cl_1, ?_⟩ | refine ⟨_, _, cl_2, ?_⟩ | refine ⟨_, _, cl_3, ?_⟩ | refine ⟨_, _, cl_4, ?_⟩ | refine ⟨_, cl_cell sC hkl, clen sC hkl, ?_⟩ | refine ⟨_, cl_take sCl hkl, cl_len sCl hkl, ?_⟩ | refine ⟨_, cl_take0 sCl hkl, cl_len sCl hkl, ?_⟩ | refine And.intro (cl_len sCl hkl) ?_ | refine And.intro (fun _ => ?_) tf | refine And.intro ft (fun _ => ?_) | refine And.intro (by kernel_rfl) ?_ | refine And.intro (by decide) ?_ | refine And.intro (fun _ => ?_) (fun h => absurd h (by decide)) | refine And.intro (fun h => absurd h (by decide)) (fun _ => ?_) | refine ⟨_, _, tt.at3 3 2 4 rfl rfl rfl rfl rfl rfl, ?_⟩ | fail); conv => whnf) | (refine And.intro (fun _ => ?_) (fun _ => ?_) <;> conv => whnf) | fail)
        all_goals try (refine Or.inl ?_; conv => whnf)
      all_goals try exact (bno hd ‹_›).elim
      refine ⟨(i + 1, T.2.m, T.2.c), ⟨hlt, t1, by show T.2.m.length ≤ 1024 * (i + 1); omega⟩, show l.length - (i + 1) < l.length - i by omega, ?_⟩
      all_goals refine ⟨[], ?_⟩
      repeat (any_goals (first | exact True.intro | exact rfl | with_reducible_and_instances rfl | exact (by kernel_rfl) | refine And.intro ?_ ?_))
      all_goals conv => whnf
      exact wk1 (by omega)
    · generalize toldM most most ⟨m, c, []⟩ k = T at *
      iterate 4
        repeat' (first | exact True.intro | ((first | refine ⟨i, _, rfl, hg, ?_⟩ | refine ⟨_, drop_id, ?_⟩ | refine ⟨_, _, cl_0, ?_⟩ | refine ⟨_, _, cl_1, ?_⟩ | refine ⟨_, _, cl_2, ?_⟩ | refine ⟨_, _, cl_3, ?_⟩ | refine ⟨_, _, cl_4, ?_⟩ | refine ⟨_, cl_cell sC hkl, clen sC hkl, ?_⟩ | refine ⟨_, cl_take sCl hkl, cl_len sCl hkl, ?_⟩ | refine ⟨_, cl_take0 sCl hkl, cl_len sCl hkl, ?_⟩ | refine And.intro (cl_len sCl hkl) ?_ | refine And.intro (fun _ => ?_) tf | refine And.intro ft (fun _ => ?_) | refine And.intro (by kernel_rfl) ?_ | refine And.intro (by decide) ?_ | refine And.intro (fun _ => ?_) (fun h => absurd h (by decide)) | refine And.intro (fun h => absurd h (by decide)) (fun _ => ?_) | refine ⟨_, _, tt.at3 3 2 4 rfl rfl rfl rfl rfl rfl, ?_⟩ | fail); conv => whnf) | (refine And.intro (fun _ => ?_) (fun _ => ?_) <;> conv => whnf) | fail)
        all_goals try (refine Or.inl ?_; conv => whnf)
      all_goals try exact (bno hd ‹_›).elim
      refine ⟨(i + 1, T.2.m, T.2.c), ⟨hlt, t1, by show T.2.m.length ≤ 1024 * (i + 1); omega⟩, show l.length - (i + 1) < l.length - i by omega, ?_⟩
      all_goals refine ⟨[], ?_⟩
      repeat (any_goals (first | exact True.intro | exact rfl | with_reducible_and_instances rfl | exact (by kernel_rfl) | refine And.intro ?_ ?_))
      all_goals conv => whnf
      exact wk1 (by omega)
  have hil : ¬ (i : Int) < ((l.map clR).length : Nat) := by rw [hm]; omega
  have hd := decide_eq_false hil
  have hml : m.length ≤ 50000 := by omega
  clear hln hi hlt hil
  have hbl := below_le m before
  have c1 := shClone_sat most m c
  have c2 := shClose_sat most m c before hI (by omega)
  have hIc := closed_I hI (belowN m before)
  have hcl := closed_len hI.fr hbl
  have hb0 := below_closed hI.fr before
  have c3 := shClose_sat most (closedL m (belowN m before)) c before hIc (by omega)
  rw [hb0] at c3
  have l1 := shLen_sat most m c
  have l2 := shLen_sat most (closedL m (belowN m before)) c
  have hol := outsL_len hbl
  iterate 4
    repeat' (first | exact True.intro | ((first | refine And.intro (fun _ => ?_) tf | refine And.intro ft (fun _ => ?_) | refine And.intro (by kernel_rfl) ?_ | refine And.intro (by decide) ?_ | refine And.intro (fun _ => ?_) (fun h => absurd h (by decide)) | refine And.intro (fun h => absurd h (by decide)) (fun _ => ?_) | refine ⟨_, _, c1.at2 3 2 rfl rfl rfl rfl rfl, ?_⟩ | refine ⟨_, _, c2.at2 3 2 rfl rfl rfl rfl rfl, ?_⟩ | refine ⟨_, _, c3.at2 3 2 rfl rfl rfl rfl rfl, ?_⟩ | refine ⟨_, _, l1.at2 5 4 rfl rfl rfl rfl rfl, ?_⟩ | refine ⟨_, _, l2.at2 3 2 rfl rfl rfl rfl rfl, ?_⟩ | refine ⟨_, _, eqP (by kernel_rfl), ?_⟩ | fail); conv => whnf) | (refine And.intro (fun _ => ?_) (fun _ => ?_) <;> conv => whnf) | fail)
    all_goals try (refine Or.inl ?_; conv => whnf)
  all_goals try exact (bno ‹decide ((i : Int) < ((l.map clR).length : Nat)) = true› hd).elim
  all_goals try exact (bno ‹(IntKind.i64.wrap ((((outsL m (belowN m before)).map outR).length : Nat) + ((closedL m (belowN m before)).length : Nat) : Int) != (m.length : Nat)) = true› (by rw [List.length_map, hol, wi (by omega) (by omega), bne_eq_false_iff_eq]; omega)).elim
  clear c1 c3 l1 l2 gr w0 hg
  refine ⟨Nat, fun i => i ≤ belowN m before, fun i => ([(12, iA i), (11, .own 6), (10, .ptr 5 0), (7, .ptr 3 0), (6, .ptr 1 0), (5, .ptr 0 0)], [.cells [iA before], .cells [bA false], shO (closedL m (belowN m before)) c, .cells [iA most, .mp 2], shO m c, .cells [iA most, .mp 4], .sl 74 ((outsL m (belowN m before)).map outR)]), fun i => belowN m before + 1 - i, ⟨0, Nat.zero_le _, ?_⟩, ?_⟩
  · all_goals refine ⟨[], ?_⟩
    repeat (any_goals (first | exact True.intro | exact rfl | with_reducible_and_instances rfl | exact (by kernel_rfl) | refine And.intro ?_ ?_))
    all_goals conv => whnf
  intro j hj
  replace hj : j ≤ belowN m before := hj
  have hoj : ((outsL m (belowN m before)).map outR).length = belowN m before := by rw [List.length_map, hol]
  conv => whnf
  by_cases hlt : j < belowN m before
  · have hat : ∀ q, q < belowN m before → ∃ k, (idsL m)[q]? = some k ∧ k ∈ (idsL m).take (belowN m before) ∧ (outsL m (belowN m before))[q]? = some (k, verL m k) := fun q hq => by
      have hq2 : q < (idsL m).length := by rw [idsL_len]; omega
      refine ⟨(idsL m)[q], List.getElem?_eq_getElem hq2, ?_, ?_⟩
      · exact List.mem_of_getElem? (i := q) (by rw [List.getElem?_take_of_lt hq]; exact List.getElem?_eq_getElem hq2)
      · unfold outsL
        rw [List.getElem?_map, List.getElem?_take_of_lt hq, List.getElem?_eq_getElem hq2]; rfl
    obtain ⟨k, hk1, hk2, hk3⟩ := hat j hlt
    have hxo : CelOK (verL m k) := (hI.ok.at_ k).1
    have hxl := hxo.hl
    have hf1 := ver_some (List.mem_of_mem_take hk2)
    have hf2 := closed_in hI.fr hk2
    have hkb := below_in hk2
    have o1 := shOf_sat most m c k fun p hp => (hI.ok.ok p hp).hl
    rw [hf1] at o1
    simp only [Option.isSome_some, Option.getD_some] at o1
    have o2 := shOf_sat most (closedL m (belowN m before)) c k fun p hp => (hIc.ok.ok p hp).hl
    rw [hf2] at o2
    simp only [Option.isSome_none, Option.getD_none] at o2
    have hg := map_get (f := outR) hk3
    have hjl : j < ((outsL m (belowN m before)).map outR).length := by omega
    have hx0 : zC.h.length = 65 := rfl
    cases j with
    | zero =>
      iterate 6
        repeat' (first | exact True.intro | ((first | refine ⟨0, rfl, hjl, ?_⟩ | refine ⟨_, hg, ?_⟩ | refine ⟨_, _, at_w, ?_⟩ | refine ⟨_, out_key s62 (x := _), rfl, ?_⟩ | refine ⟨_, drop_id, ?_⟩ | refine ⟨_, out_cell sC hxl, clen sC hxl, ?_⟩ | refine And.intro (clen sC hxl) ?_ | refine And.intro (fitC hxl) ?_ | refine ⟨_, setC hxl, ?_⟩ | refine And.intro (clen sC hx0) ?_ | refine And.intro (fitC hx0) ?_ | refine ⟨_, setC hx0, ?_⟩ | refine ⟨_, whole_cell sC hxl, clen sC hxl, ?_⟩ | refine And.intro (fun _ => ?_) tf | refine And.intro ft (fun _ => ?_) | refine And.intro (by kernel_rfl) ?_ | refine And.intro (by decide) ?_ | refine And.intro (fun _ => ?_) (fun h => absurd h (by decide)) | refine And.intro (fun h => absurd h (by decide)) (fun _ => ?_) | refine ⟨_, _, o1.at2 5 4 rfl rfl rfl rfl rfl, ?_⟩ | refine ⟨_, _, o2.at2 3 2 rfl rfl rfl rfl rfl, ?_⟩ | refine ⟨_, _, neCC0 hxo, ?_⟩ | fail); conv => whnf) | (refine And.intro (fun _ => ?_) (fun _ => ?_) <;> conv => whnf) | fail)
        all_goals try (refine Or.inl ?_; conv => whnf)
      all_goals try exact (bno ‹decide (k.1 ≥ before) = true› (decide_eq_false (by omega))).elim
      all_goals try exact (bno (decide_eq_true (show (((0 : Nat) : Int) : Int) < (((outsL m (belowN m before)).map outR).length : Nat) by omega)) ‹_›).elim
      refine ⟨1, hlt, show belowN m before + 1 - 1 < belowN m before + 1 - 0 by omega, ?_⟩
      all_goals refine ⟨[], ?_⟩
      repeat (any_goals (first | exact True.intro | exact rfl | with_reducible_and_instances rfl | exact (by kernel_rfl) | refine And.intro ?_ ?_))
      all_goals conv => whnf
    | succ q =>
      obtain ⟨k', hq1, hq2, hq3⟩ := hat q (by omega)
      have hxo' : CelOK (verL m k') := (hI.ok.at_ k').1
      have hxl' := hxo'.hl
      have hgq := map_get (f := outR) hq3
      have hql : q < ((outsL m (belowN m before)).map outR).length := by omega
      have hw := w_pred q (by omega)
      have hkk : ltK k' k := by
        have hs := ids_so hI.fr
        obtain ⟨a1, a2⟩ := List.getElem?_eq_some_iff.1 hq1
        obtain ⟨b1, b2⟩ := List.getElem?_eq_some_iff.1 hk1
        have := List.pairwise_iff_getElem.1 hs q (q + 1) a1 b1 (by omega)
        rwa [a2, b2] at this
      iterate 6
        repeat' (first | exact True.intro | ((first | refine ⟨q + 1, rfl, hjl, ?_⟩ | refine ⟨_, hg, ?_⟩ | refine ⟨q, hw, hql, ?_⟩ | refine ⟨_, hgq, ?_⟩ | refine ⟨_, _, at_w, ?_⟩ | refine ⟨_, _, at_s, ?_⟩ | refine ⟨_, out_key s62 (x := _), rfl, ?_⟩ | refine ⟨_, drop_id, ?_⟩ | refine ⟨_, out_cell sC hxl, clen sC hxl, ?_⟩ | refine And.intro (clen sC hxl) ?_ | refine And.intro (fitC hxl) ?_ | refine ⟨_, setC hxl, ?_⟩ | refine And.intro (clen sC hx0) ?_ | refine And.intro (fitC hx0) ?_ | refine ⟨_, setC hx0, ?_⟩ | refine ⟨_, whole_cell sC hxl, clen sC hxl, ?_⟩ | refine And.intro (fun _ => ?_) tf | refine And.intro ft (fun _ => ?_) | refine And.intro (by kernel_rfl) ?_ | refine And.intro (by decide) ?_ | refine And.intro (fun _ => ?_) (fun h => absurd h (by decide)) | refine And.intro (fun h => absurd h (by decide)) (fun _ => ?_) | refine ⟨_, _, o1.at2 5 4 rfl rfl rfl rfl rfl, ?_⟩ | refine ⟨_, _, o2.at2 3 2 rfl rfl rfl rfl rfl, ?_⟩ | refine ⟨_, _, leT, ?_⟩ | refine ⟨_, _, neCC0 hxo, ?_⟩ | fail); conv => whnf) | (refine And.intro (fun _ => ?_) (fun _ => ?_) <;> conv => whnf) | fail)
        all_goals try (refine Or.inl ?_; conv => whnf)
      all_goals try exact (bno ‹decide (k.1 ≥ before) = true› (decide_eq_false (by omega))).elim
      all_goals try exact (bno (decide_eq_true (show (((q + 1 : Nat) : Int) : Int) < (((outsL m (belowN m before)).map outR).length : Nat) by omega)) ‹_›).elim
      · rcases hkk with g | g
        · exact (bno ‹(k.1 == k'.1) = true› (by rw [bneB]; exact decide_eq_false (by omega))).elim
        · exact (bno ‹(!decide (k'.2.toList < k.2.toList)) = true› (by rw [decide_eq_true g.2]; rfl)).elim
      · refine ⟨q + 2, hlt, show belowN m before + 1 - (q + 2) < belowN m before + 1 - (q + 1) by omega, ?_⟩
        all_goals refine ⟨[], ?_⟩
        repeat (any_goals (first | exact True.intro | exact rfl | with_reducible_and_instances rfl | exact (by kernel_rfl) | refine And.intro ?_ ?_))
        all_goals conv => whnf
        exact wk1 (by omega)
      · refine ⟨q + 2, hlt, show belowN m before + 1 - (q + 2) < belowN m before + 1 - (q + 1) by omega, ?_⟩
        all_goals refine ⟨[], ?_⟩
        repeat (any_goals (first | exact True.intro | exact rfl | with_reducible_and_instances rfl | exact (by kernel_rfl) | refine And.intro ?_ ?_))
        all_goals conv => whnf
        exact wk1 (by omega)
      · rcases hkk with g | g
        · exact (bno ‹decide (k.1 < k'.1) = true› (decide_eq_false (by omega))).elim
        · exact (bno ‹decide (k.1 < k'.1) = true› (decide_eq_false (by omega))).elim
      · exact (bno (decide_eq_true (show ((q + 1 : Nat) : Int) > 0 by omega)) ‹decide (((q + 1 : Nat) : Int) > 0) = false›).elim
  have hjn : j = belowN m before := by omega
  have hdj : decide ((j : Int) < (((outsL m (belowN m before)).map outR).length : Nat)) = false := decide_eq_false (by rw [hoj]; omega)
  have al := shAll_sat most (closedL m (belowN m before)) c
  iterate 4
    repeat' (first | exact True.intro | ((first | refine And.intro (fun _ => ?_) tf | refine And.intro ft (fun _ => ?_) | refine And.intro (by kernel_rfl) ?_ | refine And.intro (by decide) ?_ | refine And.intro (fun _ => ?_) (fun h => absurd h (by decide)) | refine And.intro (fun h => absurd h (by decide)) (fun _ => ?_) | refine ⟨_, _, al.at2 3 2 rfl rfl rfl rfl rfl, ?_⟩ | fail); conv => whnf) | (refine And.intro (fun _ => ?_) (fun _ => ?_) <;> conv => whnf) | fail)
    all_goals try (refine Or.inl ?_; conv => whnf)
  all_goals try exact (bno ‹_› hdj).elim
  have hml2 : (closedL m (belowN m before)).length ≤ 100000 := by omega
  have hkey := fun k (hk : k ∈ idsL (closedL m (belowN m before))) => closed_key hI.fr (b := before) (ids_mem.1 hk)
  generalize closedL m (belowN m before) = X at *
  refine ⟨Nat, Nat, fun y z => z = y ∧ y ≤ X.length, fun z => [.cells [iA before], .cells [bA false], shO X c, .cells [iA most, .mp 2], .cells [.ptr 3 0]], [(176, .fn (.func 30) [] [.ptr 4 0]), (6, .ptr 1 0), (5, .ptr 0 0)], 5, _, _, _, ([.dead, .dead, shO X c, .cells [iA most, .mp 2], .cells [.ptr 3 0]], none), 0, _, _, ⟨0, ⟨rfl, Nat.zero_le _⟩, ?_⟩, rfl, by kernel_rfl, allIt (i := 4) (j := 3) (k := 2) ⟨hIc.fr.nd, hIc.fr.lt⟩ (by omega) rfl rfl rfl, ?_, ?_, ?_, ?_⟩
  · all_goals refine ⟨[(4, 7)], ?_⟩
    repeat (any_goals (first | exact True.intro | exact rfl | with_reducible_and_instances rfl | exact (by kernel_rfl) | refine And.intro ?_ ?_))
    all_goals conv => whnf
  · rintro y x y' ⟨e, _, rfl⟩; rfl
  · rintro y z _; exact ⟨⟨rfl, rfl, rfl, trivial⟩, (show 5 ≤ 5 by decide)⟩
  · rintro y z x y' ⟨rfl, hy⟩ ⟨k, ⟨hk, rfl⟩, rfl⟩
    have hz : z < X.length := by have := (List.getElem?_eq_some_iff.1 hk).1; rwa [idsL_len] at this
    have hb := hkey k (List.mem_of_getElem? hk)
    conv => whnf
    iterate 3
      repeat' (first | exact True.intro | ((first | refine And.intro (fun _ => ?_) tf | refine And.intro ft (fun _ => ?_) | refine And.intro (by kernel_rfl) ?_ | refine And.intro (by decide) ?_ | refine And.intro (fun _ => ?_) (fun h => absurd h (by decide)) | refine And.intro (fun h => absurd h (by decide)) (fun _ => ?_) | fail); conv => whnf) | (refine And.intro (fun _ => ?_) (fun _ => ?_) <;> conv => whnf) | fail)
      all_goals try (refine Or.inl ?_; conv => whnf)
    all_goals try exact (bno ‹decide (k.1 < before) = true› (decide_eq_false hb)).elim
    refine ⟨z + 1, ⟨rfl, hz⟩, ?_⟩
    all_goals refine ⟨[], ?_⟩
    repeat (any_goals (first | exact True.intro | exact rfl | with_reducible_and_instances rfl | exact (by kernel_rfl) | refine And.intro ?_ ?_))
    all_goals conv => whnf
  · rintro y z hF ⟨rfl, hy⟩
    conv => whnf
    iterate 2
      repeat' (first | exact True.intro | ((first | refine And.intro (fun _ => ?_) tf | refine And.intro ft (fun _ => ?_) | refine And.intro (by kernel_rfl) ?_ | refine And.intro (by decide) ?_ | refine And.intro (fun _ => ?_) (fun h => absurd h (by decide)) | refine And.intro (fun h => absurd h (by decide)) (fun _ => ?_) | fail); conv => whnf) | (refine And.intro (fun _ => ?_) (fun _ => ?_) <;> conv => whnf) | fail)
      all_goals try (refine Or.inl ?_; conv => whnf)
    all_goals refine ⟨[], ?_⟩
    repeat (any_goals (first | exact True.intro | exact rfl | with_reducible_and_instances rfl | exact (by kernel_rfl) | refine And.intro ?_ ?_))
    all_goals conv => whnf
end Go.Proofs.YtbjmdnemeidpjaaGreat
/- law 22: calls that are handed in; ShelfCloses from its arguments. -/
namespace Go.Proofs.YtbjmdnemeidpjaaGreat
set_option linter.unusedSimpArgs false
set_option linter.unusedVariables false
open Go.RowKit Go.Sort
set_option maxRecDepth 100000
theorem ty_str1 {m : Nat} {t : TypeId} {ds : List D} (h : Ty Tryz.prog (m + 1) t ds) (hu : Tryz.prog.underlying t = some .string) : ∃ s, ds = [.v (.string s)] := by
  have h : TyB (Ty Tryz.prog m) Tryz.prog t ds := h
  unfold TyB at h
  rw [hu] at h
  obtain ⟨s, rfl, _⟩ := h
  exact ⟨s, rfl⟩
theorem ty_calls {x : D} (h : TyV Tryz.prog 22 x) : ∃ l : List CallP, x = .sl 77 (l.map clR) ∧ ∀ k ∈ l, CallOk k := by
  obtain ⟨rows, rfl, h2, h3⟩ := ty_slice h Tryz.underlying22
  obtain ⟨l, rfl, hl⟩ := rows_map (f := clR) (p := CallOk) fun r hr => by
    have h : TyB (Ty Tryz.prog 7) Tryz.prog 43 r := h2 r hr
    unfold TyB at h
    rw [Tryz.underlying43] at h
    obtain ⟨dss, e0, h⟩ := h
    obtain ⟨d1, r1, e1, h1, h⟩ := h
    obtain ⟨d2, r2, e2, h2, h⟩ := h
    obtain ⟨d3, r3, e3, h3, h⟩ := h
    obtain ⟨d4, r4, e4, h4, h⟩ := h
    obtain ⟨d5, r5, e5, h5, h⟩ := h
    obtain ⟨d6, r6, e6, h6, h⟩ := h
    obtain rfl : r6 = [] := h
    subst e6 e5 e4 e3 e2 e1 e0
    obtain ⟨a1, rfl, g1⟩ := ty_long1 h1 Tryz.underlying3
    obtain ⟨a2, rfl, g2⟩ := ty_long1 h2 Tryz.underlying2
    obtain ⟨a3, rfl, g3⟩ := ty_long1 h3 Tryz.underlying2
    obtain ⟨a4, rfl⟩ := ty_str1 h4 Tryz.underlying9
    obtain ⟨a5, rfl, g5⟩ := ty_long1 h5 Tryz.underlying2
    obtain ⟨a6, rfl, g6⟩ := ty_cells (m := 4) h6
    refine ⟨⟨a1, a2, a3, a4, a5, a6⟩, ?_, ⟨g1, g2, g3, g5, g6⟩⟩
    simp [clR]
  refine ⟨l, ?_, hl⟩
  rw [show Tryz.prog.cellsOf 43 = 77 by kernel_rfl]
theorem closes22_law (H : Type) (enc : TypeId × Value → H) : LawWalk H enc Tryz.prog 4 Tryz.f4 :=
  lawWalk_of_sat (by kernel_rfl) fun args h => by
    obtain ⟨a, _, rfl, h1, h⟩ := h
    obtain ⟨b, _, rfl, h2, h⟩ := h
    obtain ⟨d, _, rfl, h3, h⟩ := h
    obtain rfl := h
    obtain ⟨most, rfl, q1⟩ := ty_i64 h1 Tryz.underlying3
    obtain ⟨l, rfl, hl⟩ := ty_calls h2
    obtain ⟨z, rfl, q3⟩ := ty_i64 h3 Tryz.underlying2
    exact closes_sat most l z q1 hl q3
end Go.Proofs.YtbjmdnemeidpjaaGreat
/- Two closed facts on the program that every law's statement asks. -/
namespace Go.Proofs.YtbjmdnemeidpjaaGreat
set_option linter.unusedSimpArgs false
set_option linter.unusedVariables false
open Go.RowKit
theorem own : ownKnob Tryz.prog.godebug = none := by kernel_rfl
theorem laidOut : laidOutB Tryz.prog = true := by kernel_rfl
end Go.Proofs.YtbjmdnemeidpjaaGreat
/- law 22: the document's shelf and the program's stay one, in plain Lean. -/
namespace Go.Proofs.YtbjmdnemeidpjaaGreat
set_option linter.unusedSimpArgs false
set_option linter.unusedVariables false
open Go.RowKit Go.Sort
set_option maxRecDepth 100000
/-- The document's rows are those of the map. -/
structure RelD (S : TS) : Prop where
  m : ShI S.m S.c
  R : RwI S.R
  rel : ∀ k, lookD S.R k = findX S.m k
theorem look_isSome {R : List Rw} {k : KeyW} : (lookD R k).isSome = true ↔ k ∈ R.map (·.1) := by
  constructor
  · intro h
    obtain ⟨c, hc⟩ := Option.isSome_iff_exists.1 h
    exact List.mem_map.2 ⟨(k, c), look_mem hc, rfl⟩
  · intro h
    obtain ⟨y, hy, rfl⟩ := List.mem_map.1 h
    cases hl : lookD R y.1 with
    | some c => rfl
    | none => exact absurd rfl (look_none.1 hl y hy)
theorem RelD.ids {S : TS} (h : RelD S) : idsL S.m = S.R.map (·.1) := by
  refine idsL_is ?_ ?_
  · exact (List.perm_ext_iff_of_nodup h.m.fr.ks (so_nodup h.R.so)).2 fun k => by
      rw [← look_isSome, h.rel]
      exact hasX_iff.symm
  · have hs := (so_keys S.R).1 h.R.so
    refine hs.imp fun {a b} q => ?_
    have : ltOf cmpK b a = false := (ltOf_KF b a).2 fun g => ltK_irrefl _ (ltK_trans q g)
    rw [this]; rfl
theorem RelD.len {S : TS} (h : RelD S) : S.R.length = S.m.length := by
  have := congrArg List.length h.ids
  rw [idsL_len, List.length_map] at this
  exact this.symm
theorem look_of {R : List Rw} (hs : SoD R) {y : Rw} (hy : y ∈ R) : lookD R y.1 = some y.2 := by
  cases hl : lookD R y.1 with
  | none => exact absurd rfl (look_none.1 hl y hy)
  | some c =>
    have hm := look_mem hl
    have hn := so_nodup hs
    have : (y.1, c) = y := by
      obtain ⟨i, hi⟩ := List.mem_iff_getElem?.1 hy
      obtain ⟨j, hj⟩ := List.mem_iff_getElem?.1 hm
      have h1 : (R.map (·.1))[i]? = some y.1 := by rw [List.getElem?_map, hi]; rfl
      have h2 : (R.map (·.1))[j]? = some y.1 := by rw [List.getElem?_map, hj]; rfl
      obtain ⟨a1, a2⟩ := List.getElem?_eq_some_iff.1 h1
      obtain ⟨b1, b2⟩ := List.getElem?_eq_some_iff.1 h2
      have e : i = j := (List.getElem_inj hn).1 (a2.trans b2.symm)
      rw [e, hj] at hi
      exact Option.some.inj hi
    rw [← this]
theorem RelD.rows {S : TS} (h : RelD S) : S.R = (idsL S.m).map fun k => (k, verL S.m k) := by
  rw [h.ids, List.map_map]
  refine (List.map_id' S.R).symm.trans (List.map_congr_left fun y hy => ?_)
  have := look_of h.R.so hy
  rw [h.rel] at this
  show y = (y.1, verL S.m y.1)
  unfold verL
  rw [this]; rfl
theorem RelD.cell {S : TS} (h : RelD S) (k : KeyW) : cellD S.R k = cellAt S.m k := by unfold cellD cellAt; rw [h.rel]
theorem RelD.lack {S : TS} (h : RelD S) (first : Int) (s : ByteArray) (n : Nat) : lackD S.R first s n = lackN S.m first s n := by
  unfold lackD lackN
  congr 1
  funext j
  rw [h.rel]
theorem RelD.room {S : TS} (h : RelD S) (most first last : Int) (s : ByteArray) : dRoom most S.R first last s = shRoom most S.m first last s := by
  unfold dRoom shRoom
  rw [h.lack, h.len]
theorem rel_all {l : List Rw} : ∀ {m : Sh} {c : Nat} {R : List Rw}, (∀ k, lookD R k = findX m k) → ∀ k, lookD (putAllD l R) k = findX (putAllX l m c).1 k := by
  induction l with
  | nil => intro m c R h; exact h
  | cons x l ih =>
    intro m c R h
    exact ih (m := putX x.1 x.2 c m) (c := clkX x.1 m c) fun k => by rw [look_put, findX_put, h]
theorem tw_map {α β : Type} (f : α → β) (p : β → Bool) : ∀ l : List α, (l.map f).takeWhile p = (l.takeWhile fun a => p (f a)).map f
  | [] => rfl
  | a :: l => by
    rw [List.map_cons, List.takeWhile_cons, List.takeWhile_cons, tw_map f p l]
    split <;> rfl
theorem RelD.cut {S : TS} (h : RelD S) (b : Int) : cutW S.R b = belowN S.m b := by
  unfold cutW belowN
  rw [h.ids, tw_map, List.length_map]
theorem RelD.take {S : TS} (h : RelD S) (n : Nat) : outsL S.m n = S.R.take n := by
  unfold outsL
  rw [List.map_take, ← h.rows]
theorem RwI.sub {R R' : List Rw} (h : RwI R) (hs : R'.Sublist R) : RwI R' := ⟨h.so.sublist hs, fun y hy => h.ok y (hs.subset hy), fun y hy => h.rt y (hs.subset hy)⟩
theorem RelD.drop {S : TS} (h : RelD S) (n : Nat) (k : KeyW) : lookD (S.R.drop n) k = findX (closedL S.m n) k := by
  have hj : S.R.take n ++ S.R.drop n = S.R := List.take_append_drop n S.R
  have hk : (idsL S.m).take n = (S.R.take n).map (·.1) := by rw [h.ids, List.map_take]
  by_cases q : k ∈ (idsL S.m).take n
  · rw [closed_in h.m.fr q]
    rw [hk] at q
    have hn := so_nodup h.R.so
    rw [← hj, List.map_append, List.nodup_append] at hn
    rw [look_none]
    intro y hy e
    exact hn.2.2 k q y.1 (List.mem_map_of_mem hy) e.symm
  · rw [closed_out h.m.fr q, ← h.rel]
    rw [hk] at q
    have hn : lookD (S.R.take n) k = none := by
      cases hl : lookD (S.R.take n) k with
      | none => rfl
      | some c => exact absurd (look_isSome.1 (by rw [hl]; rfl)) q
    conv => rhs; rw [← hj]
    rw [look_app, hn]; rfl
theorem notedD_eq {S : TS} (h : RelD S) (first : Int) (s : ByteArray) (b : Bool) (n : Nat) : notedD S.R first s b n = notedL S.m first s b n := by
  unfold notedD notedL
  refine List.map_congr_left fun k _ => ?_
  rw [h.cell]
theorem notD_eq {S : TS} (h : RelD S) (first : Int) (s : ByteArray) (b : Bool) (n : Nat) : notD S.R first s b n = noteOK S.m first s b n := by
  unfold notD noteOK
  congr 1
  funext k
  rw [h.cell]
theorem dNote_I {most : Int} {R : List Rw} (h : RwI R) (first last : Int) (s : ByteArray) : RwI (dNote most R first last s).1 := by
  unfold dNote
  split
  · exact h
  split
  · exact h
  split
  · exact midN_I h first s _ _
  · exact h
theorem RelD.note {S : TS} (h : RelD S) (most first last : Int) (s : ByteArray) : (shNote most S.m S.c first last s).2 = (dNote most S.R first last s).2 ∧ RelD ⟨(shNote most S.m S.c first last s).1.1, (shNote most S.m S.c first last s).1.2, (dNote most S.R first last s).1⟩ := by
  have i1 := h.m.note (most := most) first last s
  have i2 := dNote_I (most := most) h.R first last s
  have key : (shNote most S.m S.c first last s).2 = (dNote most S.R first last s).2 ∧ ∀ k, lookD (dNote most S.R first last s).1 k = findX (shNote most S.m S.c first last s).1.1 k := by
    unfold shNote dNote
    rw [h.room, notD_eq h, notedD_eq h]
    split
    · exact ⟨rfl, h.rel⟩
    split
    · exact ⟨rfl, h.rel⟩
    split
    · exact ⟨rfl, rel_all h.rel⟩
    · exact ⟨rfl, h.rel⟩
  exact ⟨key.1, i1, i2, key.2⟩
theorem RelD.count {S : TS} (h : RelD S) (k : KeyW) {v : Int} (hv : in64 v) : (shCount S.m S.c k v).2 = (dCount S.R k v).2 ∧ RelD ⟨(shCount S.m S.c k v).1.1, (shCount S.m S.c k v).1.2, (dCount S.R k v).1⟩ := by
  have i1 := h.m.count k hv
  unfold shCount at i1 ⊢
  unfold dCount
  rw [h.rel]
  cases hf : findX S.m k with
  | none => exact ⟨rfl, h.m, h.R, h.rel⟩
  | some x =>
    rw [hf] at i1
    have hl : lookD S.R k = some x := by rw [h.rel, hf]
    have hx := h.m.ok.find hf
    simp only at i1 ⊢
    by_cases he : (addC x v).2 = 0
    · rw [if_pos he] at i1
      rw [if_pos he, if_pos he]
      refine ⟨rfl, i1, ?_, fun k' => ?_⟩
      · have := h.R.put k (addC_okA (v := v) hx.1 hv) (addC_rightA hx.1 hx.2 hv he)
        unfold putD at this
        rw [hl] at this
        exact this
      · show lookD (setD S.R k (addC x v).1) k' = findX (putX k (addC x v).1 S.c S.m) k'
        rw [look_set, findX_put, hl, h.rel]; rfl
    · rw [if_neg he, if_neg he]
      exact ⟨rfl, h.m, h.R, h.rel⟩
theorem RelD.set {S : TS} (h : RelD S) (most : Int) (k : KeyW) {x : Cel} (hx : CelOK x) : (shSet most S.m S.c k x).2 = (dSet most S.R (k, x)).2 ∧ RelD ⟨(shSet most S.m S.c k x).1.1, (shSet most S.m S.c k x).1.2, (dSet most S.R (k, x)).1⟩ := by
  have i1 := h.m.set (most := most) k hx
  unfold shSet at i1 ⊢
  unfold dSet
  rw [h.rel, h.len]
  split
  · exact ⟨rfl, h.m, h.R, h.rel⟩
  rename_i g1
  rw [if_neg g1] at i1
  split
  · exact ⟨rfl, h.m, h.R, h.rel⟩
  rename_i g2
  rw [if_neg g2] at i1
  split
  · exact ⟨rfl, h.m, h.R, h.rel⟩
  rename_i g3
  rw [if_neg g3] at i1
  have hl : lookD S.R k = none := by rw [h.rel]; simpa using g1
  refine ⟨rfl, i1, ?_, fun k' => ?_⟩
  · have := h.R.put k hx (right_iff.1 (by simpa using g2))
    unfold putD at this
    rw [hl] at this
    exact this
  · show lookD (insD S.R (k, x)) k' = findX (putX k x S.c S.m) k'
    rw [look_ins (x := (k, x)) hl, findX_put, h.rel]
theorem RelD.close {S : TS} (h : RelD S) (b : Int) : outsL S.m (belowN S.m b) = S.R.take (cutW S.R b) ∧ RelD ⟨closedL S.m (belowN S.m b), S.c, S.R.drop (cutW S.R b)⟩ := by
  rw [h.cut, h.take]
  exact ⟨rfl, closed_I h.m _, h.R.sub (List.drop_sublist _ _), h.drop _⟩
/-- Whatever is told, both answer alike and stay one. -/
theorem RelD.told {S : TS} (h : RelD S) (most : Int) {k : CallP} (hk : CallOk k) : (toldM most most S k).1 = true ∧ RelD (toldM most most S k).2 := by
  unfold toldM
  split
  · rw [if_pos (h.room most k.first k.last k.s).symm]
    have := h.note most k.first k.last k.s
    exact ⟨decide_eq_true this.1, this.2⟩
  split
  · have := h.count (k.first, k.s) hk.v
    exact ⟨decide_eq_true this.1, this.2⟩
  split
  · have := h.close k.first
    exact ⟨decide_eq_true this.1, this.2⟩
  split
  · have := h.set most (k.first, k.s) hk.x
    exact ⟨decide_eq_true this.1, this.2⟩
  · exact ⟨rfl, h⟩
theorem RelD.nil : RelD ⟨[], 0, []⟩ := ⟨i_nil, RwI.nil, fun _ => rfl⟩
end Go.Proofs.YtbjmdnemeidpjaaGreat
/- ShelfCalls, its law. -/
namespace Go.Proofs.YtbjmdnemeidpjaaGreat
set_option linter.unusedSimpArgs false
set_option linter.unusedVariables false
open Go.RowKit Go.Sort
set_option maxRecDepth 100000
theorem ty_key {x : D} (h : TyV Tryz.prog 24 x) : ∃ k : KeyW, x = kyD k := by
  unfold TyV at h
  rw [Tryz.underlying24] at h
  obtain ⟨ds, rfl, h⟩ := h
  have h : TyB (Ty Tryz.prog 8) Tryz.prog 24 ds := h
  unfold TyB at h
  rw [Tryz.underlying24] at h
  obtain ⟨dss, e0, h⟩ := h
  obtain ⟨d1, r1, e1, h1, h⟩ := h
  obtain ⟨d2, r2, e2, h2, h⟩ := h
  obtain rfl : r2 = [] := h
  subst e2 e1 e0
  obtain ⟨a1, rfl, g1⟩ := ty_long1 h1 Tryz.underlying2
  obtain ⟨a2, rfl⟩ := ty_str1 h2 Tryz.underlying9
  exact ⟨(a1, a2), rfl⟩
theorem eqCZ {L : List AObj} {ty n : Nat} {x y : Operand} {t' : TypeId} : Does Tryz.prog (.binOp .eql 41 x y t') ty L n [.d (cD zC), .d (.agg (List.map D.v (tiOf Tryz.prog 41).zero))] e0 (bA true) := by
  rw [zeC]
  have h := eqCC (L := L) (ty := ty) (n := n) (x := x) (y := y) (t' := t') zC_ok zC_ok
  rwa [decide_eq_true rfl] at h
set_option maxHeartbeats 32000000 in
theorem calls_sat (most : Int) (l : List CallP) (k : KeyW) (hmo : in64 most) (hl : ∀ k ∈ l, CallOk k) : Sat Tryz.prog 3 [iA most, .d (.sl 77 (l.map clR)), .d (kyD k)] [] (bA true) [] := by
  have hm : (l.map clR).length = l.length := List.length_map _
  have gr := great_sat most l hl
  cases hg : greatM most l with
  | true =>
    rw [hg] at gr
    refine sat_of_vc (T := tiOf Tryz.prog) (E := E0) Tryz.func3 rfl rfl hE0 hm0 rfl ?_
    conv => whnf
    iterate 3
      repeat' (first | exact True.intro | ((first | refine And.intro (fun _ => ?_) tf | refine And.intro ft (fun _ => ?_) | refine And.intro (by kernel_rfl) ?_ | refine And.intro (by decide) ?_ | refine And.intro (fun _ => ?_) (fun h => absurd h (by decide)) | refine And.intro (fun h => absurd h (by decide)) (fun _ => ?_) | refine ⟨_, _, alive22.pu rfl rfl, ?_⟩ | refine ⟨_, _, gr.pu rfl rfl, ?_⟩ | fail); conv => whnf) | (refine And.intro (fun _ => ?_) (fun _ => ?_) <;> conv => whnf) | fail)
      all_goals try (refine Or.inl ?_; conv => whnf)
    all_goals try (exfalso; simp only [decide_eq_true_eq, decide_eq_false_iff_not, Bool.not_eq_true', Bool.not_eq_false', Bool.not_eq_true, Bool.not_eq_false, beq_iff_eq, bne_iff_ne, beq_eq_false_iff_ne, bne_eq_false_iff_eq, ne_eq, Decidable.not_not] at *; first | omega | contradiction | (simp_all; done) | (simp_all; omega))
    all_goals refine ⟨[], ?_⟩
    repeat (any_goals (first | exact True.intro | exact rfl | with_reducible_and_instances rfl | exact (by kernel_rfl) | refine And.intro ?_ ?_))
    all_goals conv => whnf
  | false =>
  rw [hg] at gr
  obtain ⟨hm1, hll⟩ := great_no hg
  by_cases hmm : 1 ≤ most ∧ most ≤ 200
  case neg =>
    have w0 := shNew_err most (by rcases hm1 with q | q <;> omega)
    have d0 := dNew_err most (by rcases hm1 with q | q <;> omega)
    refine sat_of_vc (T := tiOf Tryz.prog) (E := E0) Tryz.func3 rfl rfl hE0 hm0 rfl ?_
    conv => whnf
    iterate 6
      repeat' (first | exact True.intro | ((first | refine And.intro (fun _ => ?_) tf | refine And.intro ft (fun _ => ?_) | refine And.intro (by kernel_rfl) ?_ | refine And.intro (by decide) ?_ | refine And.intro (fun _ => ?_) (fun h => absurd h (by decide)) | refine And.intro (fun h => absurd h (by decide)) (fun _ => ?_) | refine ⟨_, _, alive22.pu rfl rfl, ?_⟩ | refine ⟨_, _, gr.pu rfl rfl, ?_⟩ | refine ⟨_, _, w0.pu rfl rfl, ?_⟩ | refine ⟨_, _, d0.pu rfl rfl, ?_⟩ | refine ⟨_, _, eqN (by kernel_rfl), ?_⟩ | refine ⟨_, _, neB (by kernel_rfl), ?_⟩ | fail); conv => whnf) | (refine And.intro (fun _ => ?_) (fun _ => ?_) <;> conv => whnf) | fail)
      all_goals try (refine Or.inl ?_; conv => whnf)
    all_goals try (exfalso; simp only [decide_eq_true_eq, decide_eq_false_iff_not, Bool.not_eq_true', Bool.not_eq_false', Bool.not_eq_true, Bool.not_eq_false, beq_iff_eq, bne_iff_ne, beq_eq_false_iff_ne, bne_eq_false_iff_eq, ne_eq, Decidable.not_not] at *; first | omega | contradiction | (simp_all; done) | (simp_all; omega))
    all_goals refine ⟨[], ?_⟩
    repeat (any_goals (first | exact True.intro | exact rfl | with_reducible_and_instances rfl | exact (by kernel_rfl) | refine And.intro ?_ ?_))
    all_goals conv => whnf
  have w0 := shNew_ok most hmm.1 (by omega)
  have d0 := dNew_ok most hmm.1 (by omega)
  refine sat_of_vc (T := tiOf Tryz.prog) (E := E0) Tryz.func3 rfl rfl hE0 hm0 rfl ?_
  conv => whnf
  iterate 6
    repeat' (first | exact True.intro | ((first | refine And.intro (fun _ => ?_) tf | refine And.intro ft (fun _ => ?_) | refine And.intro (by kernel_rfl) ?_ | refine And.intro (by decide) ?_ | refine And.intro (fun _ => ?_) (fun h => absurd h (by decide)) | refine And.intro (fun h => absurd h (by decide)) (fun _ => ?_) | refine ⟨_, _, alive22.pu rfl rfl, ?_⟩ | refine ⟨_, _, gr.pu rfl rfl, ?_⟩ | refine ⟨_, _, w0.nw rfl, ?_⟩ | refine ⟨_, _, d0.nw rfl, ?_⟩ | refine ⟨_, _, eqP (by kernel_rfl), ?_⟩ | refine ⟨_, _, neB (by kernel_rfl), ?_⟩ | fail); conv => whnf) | (refine And.intro (fun _ => ?_) (fun _ => ?_) <;> conv => whnf) | fail)
    all_goals try (refine Or.inl ?_; conv => whnf)
  all_goals try (exfalso; simp only [decide_eq_true_eq, decide_eq_false_iff_not, Bool.not_eq_true', Bool.not_eq_false', Bool.not_eq_true, Bool.not_eq_false, beq_iff_eq, bne_iff_ne, beq_eq_false_iff_ne, bne_eq_false_iff_eq, ne_eq, Decidable.not_not] at *; first | omega | contradiction | (simp_all; done) | (simp_all; omega))
  refine ⟨Nat × TS, fun y => y.1 ≤ l.length ∧ RelD y.2 ∧ y.2.m.length ≤ 1024 * y.1, fun y => ([(11, iA y.1), (9, .ptr 3 0), (7, .ptr 2 0), (5, .ptr 0 0), (1, .d (.sl 77 (l.map clR)))], [.cells [iA k.1, .d (.v (.string k.2))], shO y.2.m y.2.c, .cells [iA most, .mp 1], .cells [iA most, .own 4], .sl 74 (y.2.R.map outR)]), fun y => l.length - y.1, ⟨(0, ⟨[], 0, []⟩), ⟨Nat.zero_le _, RelD.nil, Nat.le_refl _⟩, ?_⟩, ?_⟩
  · all_goals refine ⟨[], ?_⟩
    repeat (any_goals (first | exact True.intro | exact rfl | with_reducible_and_instances rfl | exact (by kernel_rfl) | refine And.intro ?_ ?_))
    all_goals conv => whnf
  rintro ⟨i, S⟩ ⟨hi, hI, hln⟩
  replace hi : i ≤ l.length := hi
  replace hI : RelD S := hI
  replace hln : S.m.length ≤ 1024 * i := hln
  have hrl := hI.len
  conv => whnf
  by_cases hlt : i < l.length
  · have hx : l[i]? = some l[i] := List.getElem?_eq_getElem hlt
    have hk := hl _ (List.getElem_mem hlt)
    generalize l[i] = q at hx hk
    have hgq := map_get (f := clR) hx
    have hkl := hk.x.hl
    have ts : TSI S := ⟨hI.m, hI.R, by omega, by omega⟩
    obtain ⟨t0, t1⟩ := hI.told most hk
    obtain ⟨_, t2⟩ := told_I (most := most) (most' := most) (S := S) q hk (by omega) hI.m
    have ag := agree22_sat most most (toldM most most S q).2.m (toldM most most S q).2.c (toldM most most S q).2.R t1.m (by omega) t1.rows
    have hd : decide ((i : Int) < ((l.map clR).length : Nat)) = true := decide_eq_true (by rw [hm]; omega)
    rcases told_sat most most S q ts hk ⟨hmm.1, by omega⟩ ⟨hmm.1, by omega⟩ with tt | tt
    · rw [t0] at tt
      generalize (toldM most most S q).2 = T at *
      iterate 5
        repeat' (first | exact True.intro | ((first | refine ⟨i, _, rfl, hgq, ?_⟩ | refine ⟨_, drop_id, ?_⟩ | refine ⟨_, _, cl_0, ?_⟩ | refine ⟨_, _, cl_1, ?_⟩ | refine ⟨_, _, cl_2, ?_⟩ | refine ⟨_, _, cl_3, ?_⟩ | refine ⟨_, _, cl_4, ?_⟩ | refine ⟨_, cl_cell sC hkl, clen sC hkl, ?_⟩ | refine ⟨_, cl_take sCl hkl, cl_len sCl hkl, ?_⟩ | refine ⟨_, cl_take0 sCl hkl, cl_len sCl hkl, ?_⟩ | refine And.intro (cl_len sCl hkl) ?_ | refine And.intro (fun _ => ?_) tf | refine And.intro ft (fun _ => ?_) | refine And.intro (by kernel_rfl) ?_ | refine And.intro (by decide) ?_ | refine And.intro (fun _ => ?_) (fun h => absurd h (by decide)) | refine And.intro (fun h => absurd h (by decide)) (fun _ => ?_) | refine ⟨_, _, tt.at4' 2 1 3 4 rfl rfl rfl rfl rfl rfl rfl, ?_⟩ | refine ⟨_, _, ag.at4' 2 1 3 4 rfl rfl rfl rfl rfl rfl rfl, ?_⟩ | fail); conv => whnf) | (refine And.intro (fun _ => ?_) (fun _ => ?_) <;> conv => whnf) | fail)
        all_goals try (refine Or.inl ?_; conv => whnf)
      all_goals try exact (bno hd ‹_›).elim
      refine ⟨(i + 1, T), ⟨hlt, t1, by show T.m.length ≤ 1024 * (i + 1); omega⟩, show l.length - (i + 1) < l.length - i by omega, ?_⟩
      all_goals refine ⟨[], ?_⟩
      repeat (any_goals (first | exact True.intro | exact rfl | with_reducible_and_instances rfl | exact (by kernel_rfl) | refine And.intro ?_ ?_))
      all_goals conv => whnf
      exact wk1 (by omega)
    · rw [t0] at tt
      generalize (toldM most most S q).2 = T at *
      iterate 5
        repeat' (first | exact True.intro | ((first | refine ⟨i, _, rfl, hgq, ?_⟩ | refine ⟨_, drop_id, ?_⟩ | refine ⟨_, _, cl_0, ?_⟩ | refine ⟨_, _, cl_1, ?_⟩ | refine ⟨_, _, cl_2, ?_⟩ | refine ⟨_, _, cl_3, ?_⟩ | refine ⟨_, _, cl_4, ?_⟩ | refine ⟨_, cl_cell sC hkl, clen sC hkl, ?_⟩ | refine ⟨_, cl_take sCl hkl, cl_len sCl hkl, ?_⟩ | refine ⟨_, cl_take0 sCl hkl, cl_len sCl hkl, ?_⟩ | refine And.intro (cl_len sCl hkl) ?_ | refine And.intro (fun _ => ?_) tf | refine And.intro ft (fun _ => ?_) | refine And.intro (by kernel_rfl) ?_ | refine And.intro (by decide) ?_ | refine And.intro (fun _ => ?_) (fun h => absurd h (by decide)) | refine And.intro (fun h => absurd h (by decide)) (fun _ => ?_) | refine ⟨_, _, tt.at4' 2 1 3 4 rfl rfl rfl rfl rfl rfl rfl, ?_⟩ | refine ⟨_, _, ag.at4' 2 1 3 5 rfl rfl rfl rfl rfl rfl rfl, ?_⟩ | fail); conv => whnf) | (refine And.intro (fun _ => ?_) (fun _ => ?_) <;> conv => whnf) | fail)
        all_goals try (refine Or.inl ?_; conv => whnf)
      all_goals try exact (bno hd ‹_›).elim
      refine ⟨(i + 1, T), ⟨hlt, t1, by show T.m.length ≤ 1024 * (i + 1); omega⟩, show l.length - (i + 1) < l.length - i by omega, ?_⟩
      all_goals refine ⟨[(4, 5)], ?_⟩
      repeat (any_goals (first | exact True.intro | exact rfl | with_reducible_and_instances rfl | exact (by kernel_rfl) | refine And.intro ?_ ?_))
      all_goals conv => whnf
      exact wk1 (by omega)
  have hil : ¬ (i : Int) < ((l.map clR).length : Nat) := by rw [hm]; omega
  have hd := decide_eq_false hil
  have fs := dFind_sat most S.R (by omega) k.1 k.2
  have oo := shOf_sat most S.m S.c k fun p hp => (hI.m.ok.ok p hp).hl
  have hlk := hI.rel k
  cases hf : findX S.m k with
  | none =>
    rw [hf] at hlk oo
    simp only [Option.isSome_none, Option.getD_none] at oo
    rw [show ((k.1, k.2) : KeyW) = k from rfl, findD_none hlk] at fs
    iterate 5
      repeat' (first | exact True.intro | ((first | refine ⟨_, drop_id, ?_⟩ | refine ⟨_, _, at_n, ?_⟩ | refine ⟨_, _, at_hi, ?_⟩ | refine ⟨_, _, at_lo, ?_⟩ | refine ⟨_, _, at_mn, ?_⟩ | refine ⟨_, _, at_mx, ?_⟩ | refine ⟨_, _, at_ce, ?_⟩ | refine ⟨_, _, at_po, ?_⟩ | refine ⟨_, whole_z sC, clenz sC, ?_⟩ | refine ⟨_, setzC, ?_⟩ | refine And.intro (clenz sC) ?_ | refine And.intro fitzC ?_ | refine ⟨_, whole_z sF, clenz sF, ?_⟩ | refine ⟨_, setzF, ?_⟩ | refine And.intro (clenz sF) ?_ | refine And.intro fitzF ?_ | refine And.intro (fit1 rfl (by decide)) ?_ | refine ⟨_, sum_cell s25, rfl, ?_⟩ | refine ⟨_, set_n _, ?_⟩ | refine ⟨_, set_mn _, ?_⟩ | refine ⟨_, set_mx _, ?_⟩ | refine ⟨_, set_ce _, ?_⟩ | refine ⟨_, set_po _, ?_⟩ | refine ⟨_, set_s _, ?_⟩ | refine ⟨_, set_hi _, ?_⟩ | refine ⟨_, set_lo _, ?_⟩ | refine And.intro (fun _ => ?_) tf | refine And.intro ft (fun _ => ?_) | refine And.intro (by kernel_rfl) ?_ | refine And.intro (by decide) ?_ | refine And.intro (fun _ => ?_) (fun h => absurd h (by decide)) | refine And.intro (fun h => absurd h (by decide)) (fun _ => ?_) | refine ⟨_, _, oo.at2 2 1 rfl rfl rfl rfl rfl, ?_⟩ | refine ⟨_, _, fs.at2 3 4 rfl rfl rfl rfl rfl, ?_⟩ | refine ⟨_, _, eqCZ, ?_⟩ | fail); conv => whnf) | (refine And.intro (fun _ => ?_) (fun _ => ?_) <;> conv => whnf) | fail)
      all_goals try (refine Or.inl ?_; conv => whnf)
    all_goals try exact (bno ‹decide ((i : Int) < ((l.map clR).length : Nat)) = true› hd).elim
    all_goals refine ⟨[], ?_⟩
    repeat (any_goals (first | exact True.intro | exact rfl | with_reducible_and_instances rfl | exact (by kernel_rfl) | refine And.intro ?_ ?_))
    all_goals conv => whnf
  | some x =>
    rw [hf] at hlk oo
    simp only [Option.isSome_some, Option.getD_some] at oo
    obtain ⟨j, hj, hfj, hrj⟩ := findD_some hlk
    rw [show ((k.1, k.2) : KeyW) = k from rfl, hfj] at fs
    have hxo := (hI.m.ok.find hf).1
    have hxl := hxo.hl
    have hgj := map_get (f := outR) hrj
    have hjl : j < (S.R.map outR).length := by rw [List.length_map]; exact hj
    have o1 := of_sat_c x hxl
    iterate 5
      repeat' (first | exact True.intro | ((first | refine ⟨j, rfl, hjl, ?_⟩ | refine ⟨_, hgj, ?_⟩ | refine ⟨_, out_cell sF hxl, clen sF hxl, ?_⟩ | refine ⟨_, drop_id, ?_⟩ | refine ⟨_, _, at_n, ?_⟩ | refine ⟨_, _, at_hi, ?_⟩ | refine ⟨_, _, at_lo, ?_⟩ | refine ⟨_, _, at_mn, ?_⟩ | refine ⟨_, _, at_mx, ?_⟩ | refine ⟨_, _, at_ce, ?_⟩ | refine ⟨_, _, at_po, ?_⟩ | refine ⟨_, whole_z sC, clenz sC, ?_⟩ | refine ⟨_, setzC, ?_⟩ | refine And.intro (clenz sC) ?_ | refine And.intro fitzC ?_ | refine ⟨_, whole_cell sC hxl, clen sC hxl, ?_⟩ | refine And.intro (clen sC hxl) ?_ | refine And.intro (fitC hxl) ?_ | refine ⟨_, setC hxl, ?_⟩ | refine ⟨_, whole_z sF, clenz sF, ?_⟩ | refine ⟨_, setzF, ?_⟩ | refine And.intro (clenz sF) ?_ | refine And.intro fitzF ?_ | refine ⟨_, whole_cell sF hxl, clen sF hxl, ?_⟩ | refine And.intro (clen sF hxl) ?_ | refine And.intro (fitF hxl) ?_ | refine ⟨_, setF hxl, ?_⟩ | refine And.intro (fit1 hxl (by decide)) ?_ | refine And.intro (fit1 rfl (by decide)) ?_ | refine ⟨_, sum_cell s25, rfl, ?_⟩ | refine ⟨_, set_n _, ?_⟩ | refine ⟨_, set_mn _, ?_⟩ | refine ⟨_, set_mx _, ?_⟩ | refine ⟨_, set_ce _, ?_⟩ | refine ⟨_, set_po _, ?_⟩ | refine ⟨_, set_s _, ?_⟩ | refine ⟨_, set_hi _, ?_⟩ | refine ⟨_, set_lo _, ?_⟩ | refine And.intro (fun _ => ?_) tf | refine And.intro ft (fun _ => ?_) | refine And.intro (by kernel_rfl) ?_ | refine And.intro (by decide) ?_ | refine And.intro (fun _ => ?_) (fun h => absurd h (by decide)) | refine And.intro (fun h => absurd h (by decide)) (fun _ => ?_) | refine ⟨_, _, oo.at2 2 1 rfl rfl rfl rfl rfl, ?_⟩ | refine ⟨_, _, fs.at2 3 4 rfl rfl rfl rfl rfl, ?_⟩ | refine ⟨_, _, eqFF hxo hxo, ?_⟩ | refine ⟨_, _, o1.pu rfl rfl, ?_⟩ | fail); conv => whnf) | (refine And.intro (fun _ => ?_) (fun _ => ?_) <;> conv => whnf) | fail)
      all_goals try (refine Or.inl ?_; conv => whnf)
    all_goals try exact (bno ‹decide ((i : Int) < ((l.map clR).length : Nat)) = true› hd).elim
    rw [show decide (x = ((k, x) : Rw).2) = true from decide_eq_true rfl]
    all_goals refine ⟨[], ?_⟩
    repeat (any_goals (first | exact True.intro | exact rfl | with_reducible_and_instances rfl | exact (by kernel_rfl) | refine And.intro ?_ ?_))
    all_goals conv => whnf
theorem calls22_law (H : Type) (enc : TypeId × Value → H) : LawWalk H enc Tryz.prog 3 Tryz.f3 :=
  lawWalk_of_sat (by kernel_rfl) fun args h => by
    obtain ⟨a, _, rfl, h1, h⟩ := h
    obtain ⟨b, _, rfl, h2, h⟩ := h
    obtain ⟨d, _, rfl, h3, h⟩ := h
    obtain rfl := h
    obtain ⟨most, rfl, q1⟩ := ty_i64 h1 Tryz.underlying3
    obtain ⟨l, rfl, hl⟩ := ty_calls h2
    obtain ⟨k, rfl⟩ := ty_key h3
    exact calls_sat most l k q1 hl
end Go.Proofs.YtbjmdnemeidpjaaGreat
