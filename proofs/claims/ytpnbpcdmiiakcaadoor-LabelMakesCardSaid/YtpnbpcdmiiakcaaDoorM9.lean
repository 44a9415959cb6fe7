/- Parts LaJ, CdB, LaK, LaL, LaM, LaN, LaO, LaP, LaQ, LaR, CodeI, LaU of the proof, put together. -/
import Derived.Test.YtpnbpcdmiiakcaaDoorM8
import Derived.RangeFuncNested
import Derived.RangeFuncBound
import Derived.RangeFuncCalls
import Derived.RangeFuncLeaves
import Derived.OwnWalkIn
import Derived.TacticsInMore
import Derived.LoopNIn
import Derived.LoopIn
/- label: a series as text, by the program and by the document. -/
namespace Go.Proofs.YtpnbpcdmiiakcaaDoor
set_option linter.unusedSimpArgs false
open Go.RowKit
set_option maxRecDepth 100000
set_option linter.unusedVariables false
def pieceT (l : Lab) : Bt := l.1 ++ [61] ++ l.2
def bodyT : List Lab → Bt
  | [] => []
  | x :: r => [123] ++ pieceT x ++ (r.map fun y => [44] ++ pieceT y).flatten
def textS (s : Ser) : Bt := if rightB s = true then if s.2 = [] then s.1 else s.1 ++ bodyT s.2 ++ [125] else []
theorem nameL_len {l : Bt} (h : nameL l = true) : l.length ≤ 64 := by
  cases l with
  | nil => simp
  | cons x r =>
    rw [nameL_cons, Bool.and_eq_true, decide_eq_true_eq] at h
    exact h.1
theorem labB_len {x : Lab} (h : labB x = true) : x.1.length ≤ 64 ∧ x.2.length ≤ 64 := by
  unfold labB at h
  rw [Bool.and_eq_true] at h
  refine ⟨nameL_len h.2, ?_⟩
  have := h.1
  unfold valueL at this
  rw [Bool.and_eq_true, decide_eq_true_eq] at this
  exact this.1
theorem chkL_labs : ∀ {l : List Lab} {p : Option Bt}, chkL p l = true → ∀ x ∈ l, labB x = true
  | [], _, _, x, hx => by cases hx
  | y :: r, p, h, x, hx => by
    have h : (labB y && (_ && chkL (some y.1) r)) = true := h
    rw [Bool.and_eq_true, Bool.and_eq_true] at h
    rcases List.mem_cons.1 hx with e | e
    · rw [e]; exact h.1
    · exact chkL_labs h.2.2 x e
theorem right_out {s : Ser} (h : rightB s = true) : nameL s.1 = true ∧ s.2.length ≤ 8 ∧ ∀ x ∈ s.2, labB x = true := by
  unfold rightB at h
  simp only [Bool.and_eq_true, decide_eq_true_eq] at h
  exact ⟨h.1, h.2.1, chkL_labs h.2.2⟩
theorem pieceT_len {x : Lab} (h : labB x = true) : (pieceT x).length ≤ 129 := by
  have := labB_len h
  unfold pieceT
  simp
  omega
theorem tail_len : ∀ {l : List Lab}, (∀ x ∈ l, labB x = true) → (l.map fun y => [44] ++ pieceT y).flatten.length ≤ 130 * l.length
  | [], _ => by simp
  | x :: r, h => by
    have h1 := pieceT_len (h x (List.mem_cons_self ..))
    have h2 := tail_len (l := r) fun y hy => h y (List.mem_cons_of_mem _ hy)
    rw [List.map_cons, List.flatten_cons, List.length_append, List.length_append]
    simp only [List.length_cons, List.length_nil]
    omega
theorem bodyT_len {l : List Lab} (h : ∀ x ∈ l, labB x = true) : (bodyT l).length ≤ 130 * l.length := by
  cases l with
  | nil => simp [bodyT]
  | cons x r =>
    have h1 := pieceT_len (h x (List.mem_cons_self ..))
    have h2 := tail_len (l := r) fun y hy => h y (List.mem_cons_of_mem _ hy)
    unfold bodyT
    rw [List.length_append, List.length_append]
    simp only [List.length_cons, List.length_nil]
    omega
theorem bodyT_join {l : List Lab} (h : l ≠ []) : bodyT l = [123] ++ Lib.join (l.map pieceT) [44] := by
  cases l with
  | nil => exact absurd rfl h
  | cons x r =>
    rw [List.map_cons, Lib.join_cons]
    show [123] ++ pieceT x ++ (r.map fun y => [44] ++ pieceT y).flatten = _
    unfold Lib.joinTail
    rw [List.append_assoc, List.map_map]
    rfl
theorem bodyT_next : ∀ (l : List Lab) (x : Lab), bodyT (l ++ [x]) = bodyT l ++ ((if l = [] then [123] else [44]) ++ pieceT x)
  | [], x => by simp [bodyT]
  | a :: r, x => by
    rw [if_neg (by simp)]
    show [123] ++ pieceT a ++ ((r ++ [x]).map fun y => [44] ++ pieceT y).flatten = [123] ++ pieceT a ++ (r.map fun y => [44] ++ pieceT y).flatten ++ _
    simp
theorem mkT {L : List AObj} {ty n : Nat} {a1 a2 : Operand} (c : Nat) (hc : c ≤ 1000) : Does Tryd.prog (.makeSlice 66 a1 a2) ty L n [iA c, iA c] ⟨[], [], [.sl 1 (List.replicate c [tD []])]⟩ (.own n) := by
  have h := mkf (P := Tryd.prog) (t := 66) (L := L) (ty := ty) (n := n) (a1 := a1) (a2 := a2) (c := c) (kd := .i64) (kd' := .i64) 1 16 (by kernel_rfl) (by omega) (by unfold maxLen; omega)
  have e : ((tiOf Tryd.prog (tiOf Tryd.prog 66).elem).zero.map D.v) = [tD []] := by kernel_rfl
  rwa [e] at h
theorem rep_get {l : List Lab} {i : Nat} (hi : i < l.length) : ((l.take i).map fun x => [tD (pieceT x)]) ++ List.replicate (l.length - i) [tD []] = ((l.take i).map fun x => [tD (pieceT x)]) ++ [tD []] :: List.replicate (l.length - (i + 1)) [tD []] := by
  rw [show l.length - i = (l.length - (i + 1)) + 1 by omega, List.replicate_succ]
theorem rep_set {l : List Lab} {i : Nat} {x : Lab} (hx : l[i]? = some x) : ((((l.take i).map fun x => [tD (pieceT x)]) ++ List.replicate (l.length - i) [tD []]).set i [tD (pieceT x)]) = ((l.take (i + 1)).map fun x => [tD (pieceT x)]) ++ List.replicate (l.length - (i + 1)) [tD []] := by
  have hi := (List.getElem?_eq_some_iff.1 hx).1
  rw [rep_get hi, set_mid _ _ _ _ i (by simp; omega), map_take_succ hx]
  simp
set_option maxHeartbeats 4000000 in
theorem text_satS (s : Ser) : Sat Tryd.prog 14 [.d (serD s)] [] (.d (tD (textS s))) [] := by
  obtain ⟨nm, l⟩ := s
  have hl : (l.map labR).length = l.length := List.length_map _
  have r1 := sRight_sat (nm, l)
  unfold textS
  cases hr : rightB (nm, l) with
  | false =>
    rw [hr] at r1
    rw [if_neg (by simp)]
    refine sat_of_vc (T := tiOf Tryd.prog) (E := E0) Tryd.func14 rfl rfl hE0 hm0 rfl ?_
    conv => whnf
    iterate 4
      repeat' (first | exact True.intro | ((first | refine And.intro (fun _ => ?_) tf | refine And.intro ft (fun _ => ?_) | refine And.intro (by kernel_rfl) ?_ | refine And.intro (by decide) ?_ | refine And.intro (fun _ => ?_) (fun h => absurd h (by decide)) | refine And.intro (fun h => absurd h (by decide)) (fun _ => ?_) | refine ⟨_, _, r1.pu rfl rfl, ?_⟩ | fail); conv => whnf) | (refine And.intro (fun _ => ?_) (fun _ => ?_) <;> conv => whnf) | fail)
      all_goals try (refine Or.inl ?_; conv => whnf)
    all_goals try (exfalso; simp only [decide_eq_true_eq, decide_eq_false_iff_not, Bool.not_eq_true', Bool.not_eq_false', Bool.not_eq_true, Bool.not_eq_false, beq_iff_eq, bne_iff_ne, beq_eq_false_iff_ne, bne_eq_false_iff_eq, ne_eq, Decidable.not_not] at *; first | omega | contradiction | (simp_all; done) | (simp_all; omega))
    all_goals refine ⟨[], ?_⟩
    repeat (any_goals (first | exact True.intro | exact rfl | with_reducible_and_instances rfl | exact (by kernel_rfl) | refine And.intro ?_ ?_))
    all_goals conv => whnf
  | true =>
  rw [hr] at r1
  rw [if_pos rfl]
  obtain ⟨q1, q2, q3⟩ := right_out hr
  have q2 : l.length ≤ 8 := q2
  have q4 := nameL_len q1
  by_cases h0 : l = []
  · rw [if_pos h0]
    refine sat_of_vc (T := tiOf Tryd.prog) (E := E0) Tryd.func14 rfl rfl hE0 hm0 rfl ?_
    conv => whnf
    iterate 4
      repeat' (first | exact True.intro | ((first | refine And.intro (fun _ => ?_) tf | refine And.intro ft (fun _ => ?_) | refine And.intro (by kernel_rfl) ?_ | refine And.intro (by decide) ?_ | refine And.intro (fun _ => ?_) (fun h => absurd h (by decide)) | refine And.intro (fun h => absurd h (by decide)) (fun _ => ?_) | refine ⟨_, _, r1.pu rfl rfl, ?_⟩ | fail); conv => whnf) | (refine And.intro (fun _ => ?_) (fun _ => ?_) <;> conv => whnf) | fail)
      all_goals try (refine Or.inl ?_; conv => whnf)
    have e0 : ((((l.map labR).length : Nat) : Int) == 0) = true := by rw [h0]; rfl
    all_goals try exact (bnl e0 ‹_›).elim
    all_goals try (exfalso; simp only [decide_eq_true_eq, decide_eq_false_iff_not, Bool.not_eq_true', Bool.not_eq_false', Bool.not_eq_true, Bool.not_eq_false, beq_iff_eq, bne_iff_ne, beq_eq_false_iff_ne, bne_eq_false_iff_eq, ne_eq, Decidable.not_not] at *; first | omega | contradiction | (simp_all; done) | (simp_all; omega))
    all_goals refine ⟨[], ?_⟩
    repeat (any_goals (first | exact True.intro | exact rfl | with_reducible_and_instances rfl | exact (by kernel_rfl) | refine And.intro ?_ ?_))
    all_goals conv => whnf
  rw [if_neg h0]
  have hpos : 0 < l.length := List.length_pos_iff.2 h0
  have e0 : ((((l.map labR).length : Nat) : Int) == 0) = false := by rw [hl]; rw [beq_eq_false_iff_ne]; omega
  have jl : (Lib.join (l.map pieceT) [44]).length ≤ 1040 := by
    have := bodyT_len q3
    rw [bodyT_join h0, List.length_append] at this
    have : (nm, l).2.length = l.length := rfl
    omega
  have j1 := join_sat (l.map pieceT) [44] (by rw [List.length_map]; omega) (by omega)
  rw [List.map_map] at j1
  rw [bodyT_join h0]
  refine sat_of_vc (T := tiOf Tryd.prog) (E := E0) Tryd.func14 rfl rfl hE0 hm0 rfl ?_
  conv => whnf
  iterate 4
    repeat' (first | exact True.intro | ((first | refine And.intro (fun _ => ?_) tf | refine And.intro ft (fun _ => ?_) | refine And.intro (by kernel_rfl) ?_ | refine And.intro (by decide) ?_ | refine And.intro (fun _ => ?_) (fun h => absurd h (by decide)) | refine And.intro (fun h => absurd h (by decide)) (fun _ => ?_) | refine ⟨_, _, r1.pu rfl rfl, ?_⟩ | refine ⟨_, _, mkT (l.map labR).length (by omega), ?_⟩ | fail); conv => whnf) | (refine And.intro (fun _ => ?_) (fun _ => ?_) <;> conv => whnf) | fail)
    all_goals try (refine Or.inl ?_; conv => whnf)
  all_goals try exact (bnl ‹_› e0).elim
  refine ⟨Nat, fun i => i ≤ l.length, fun i => ([(22, iA i), (21, iA (l.map labR).length), (20, .d (.sl 2 (l.map labR))), (3, .own 1), (1, .ptr 0 0)], [.cells [.d (tD nm), .d (.sl 2 (l.map labR))], .sl 1 (((l.take i).map fun x => [tD (pieceT x)]) ++ List.replicate (l.length - i) [tD []])]), fun i => l.length - i, ⟨0, Nat.zero_le _, ?_⟩, ?_⟩
  · all_goals refine ⟨[], ?_⟩
    repeat (any_goals (first | exact True.intro | exact rfl | with_reducible_and_instances rfl | exact (by kernel_rfl) | refine And.intro ?_ ?_))
    all_goals conv => whnf
    rw [hl]; rfl
  intro i hi
  have hi : i ≤ l.length := hi
  conv => whnf
  by_cases hlt : i < l.length
  · have hx : l[i]? = some l[i] := List.getElem?_eq_getElem hlt
    generalize l[i] = x at hx
    have hgx := map_get (f := labR) hx
    have hlb := labB_len (q3 x (List.mem_of_getElem? hx))
    have d1 : decide ((i : Int) < ((l.map labR).length : Nat)) = true := decide_eq_true (by rw [hl]; omega)
    have hri2 : (((l.take i).map fun x => [tD (pieceT x)]) ++ List.replicate (l.length - i) [tD []])[i]? = some [tD []] := by
      rw [rep_get hlt, List.getElem?_append_right (by simp; omega)]
      simp [Nat.min_eq_left (Nat.le_of_lt hlt)]
    have hri := (List.getElem?_eq_some_iff.1 hri2).1
    iterate 4
      repeat' (first | exact True.intro | ((first | refine ⟨i, _, rfl, hgx, ?_⟩ | refine ⟨i, rfl, hri, ?_⟩ | refine ⟨Nat.le_refl 1, _, _, hri2, rfl, ?_⟩ | refine And.intro (fun _ => ?_) tf | refine And.intro ft (fun _ => ?_) | refine And.intro (by kernel_rfl) ?_ | refine And.intro (by decide) ?_ | refine And.intro (fun _ => ?_) (fun h => absurd h (by decide)) | refine And.intro (fun h => absurd h (by decide)) (fun _ => ?_) | refine ⟨_, _, addL' (by simp; omega), ?_⟩ | fail); conv => whnf) | (refine And.intro (fun _ => ?_) (fun _ => ?_) <;> conv => whnf) | fail)
      all_goals try (refine Or.inl ?_; conv => whnf)
    all_goals try exact (bnl d1 ‹_›).elim
    refine ⟨i + 1, hlt, show l.length - (i + 1) < l.length - i by omega, ?_⟩
    all_goals refine ⟨[], ?_⟩
    repeat (any_goals (first | exact True.intro | exact rfl | with_reducible_and_instances rfl | exact (by kernel_rfl) | refine And.intro ?_ ?_))
    all_goals conv => whnf
    · exact wk1 (by omega)
    · show AObj.sl 1 ((((l.take i).map fun x => [tD (pieceT x)]) ++ List.replicate (l.length - i) [tD []]).set i [tD (pieceT x)]) = _
      rw [rep_set hx]
  · have d1 : decide ((i : Int) < ((l.map labR).length : Nat)) = false := decide_eq_false (by rw [hl]; omega)
    have e : ((l.take i).map fun x => [tD (pieceT x)]) ++ List.replicate (l.length - i) [tD []] = l.map ((fun x => [tD x]) ∘ pieceT) := by
      rw [List.take_of_length_le (by omega), show l.length - i = 0 by omega]; simp
    rw [← e] at j1
    have q4 : nm.length ≤ 64 := q4
    iterate 4
      repeat' (first | exact True.intro | ((first | refine And.intro (fun _ => ?_) tf | refine And.intro ft (fun _ => ?_) | refine And.intro (by kernel_rfl) ?_ | refine And.intro (by decide) ?_ | refine And.intro (fun _ => ?_) (fun h => absurd h (by decide)) | refine And.intro (fun h => absurd h (by decide)) (fun _ => ?_) | refine ⟨_, _, Sat.lend1 (aas := [tD [44]]) j1 rfl rfl, ?_⟩ | refine ⟨_, _, addL' (by simp; omega), ?_⟩ | fail); conv => whnf) | (refine And.intro (fun _ => ?_) (fun _ => ?_) <;> conv => whnf) | fail)
      all_goals try (refine Or.inl ?_; conv => whnf)
    all_goals try exact (bnl ‹_› d1).elim
    all_goals refine ⟨[], ?_⟩
    repeat (any_goals (first | exact True.intro | exact rfl | with_reducible_and_instances rfl | exact (by kernel_rfl) | refine And.intro ?_ ?_))
    all_goals conv => whnf
    show AV.d (tD (nm ++ [123] ++ Lib.join (l.map pieceT) [44] ++ [125])) = AV.d (tD (nm ++ ([123] ++ Lib.join (l.map pieceT) [44]) ++ [125]))
    rw [← List.append_assoc nm]
/-! ### the document's -/
set_option maxHeartbeats 4000000 in
theorem rText_sat (s : Ser) : Sat Tryd.prog 15 [.d (serD s)] [] (.d (tD (textS s))) [] := by
  obtain ⟨nm, l⟩ := s
  have hl : (l.map labR).length = l.length := List.length_map _
  have r1 := rRight_sat (nm, l)
  unfold textS
  cases hr : rightB (nm, l) with
  | false =>
    rw [hr] at r1
    rw [if_neg (by simp)]
    refine sat_of_vc (T := tiOf Tryd.prog) (E := E0) Tryd.func15 rfl rfl hE0 hm0 rfl ?_
    conv => whnf
    iterate 4
      repeat' (first | exact True.intro | ((first | refine And.intro (fun _ => ?_) tf | refine And.intro ft (fun _ => ?_) | refine And.intro (by kernel_rfl) ?_ | refine And.intro (by decide) ?_ | refine And.intro (fun _ => ?_) (fun h => absurd h (by decide)) | refine And.intro (fun h => absurd h (by decide)) (fun _ => ?_) | refine ⟨_, _, r1.pu rfl rfl, ?_⟩ | fail); conv => whnf) | (refine And.intro (fun _ => ?_) (fun _ => ?_) <;> conv => whnf) | fail)
      all_goals try (refine Or.inl ?_; conv => whnf)
    all_goals try (exfalso; simp only [decide_eq_true_eq, decide_eq_false_iff_not, Bool.not_eq_true', Bool.not_eq_false', Bool.not_eq_true, Bool.not_eq_false, beq_iff_eq, bne_iff_ne, beq_eq_false_iff_ne, bne_eq_false_iff_eq, ne_eq, Decidable.not_not] at *; first | omega | contradiction | (simp_all; done) | (simp_all; omega))
    all_goals refine ⟨[], ?_⟩
    repeat (any_goals (first | exact True.intro | exact rfl | with_reducible_and_instances rfl | exact (by kernel_rfl) | refine And.intro ?_ ?_))
    all_goals conv => whnf
  | true =>
  rw [hr] at r1
  rw [if_pos rfl]
  obtain ⟨q1, q2, q3⟩ := right_out hr
  have q2 : l.length ≤ 8 := q2
  have q4 : nm.length ≤ 64 := nameL_len q1
  refine sat_of_vc (T := tiOf Tryd.prog) (E := E0) Tryd.func15 rfl rfl hE0 hm0 rfl ?_
  conv => whnf
  iterate 3
    repeat' (first | exact True.intro | ((first | refine And.intro (fun _ => ?_) tf | refine And.intro ft (fun _ => ?_) | refine And.intro (by kernel_rfl) ?_ | refine And.intro (by decide) ?_ | refine And.intro (fun _ => ?_) (fun h => absurd h (by decide)) | refine And.intro (fun h => absurd h (by decide)) (fun _ => ?_) | refine ⟨_, _, r1.pu rfl rfl, ?_⟩ | fail); conv => whnf) | (refine And.intro (fun _ => ?_) (fun _ => ?_) <;> conv => whnf) | fail)
    all_goals try (refine Or.inl ?_; conv => whnf)
  all_goals try (exfalso; simp only [decide_eq_true_eq, decide_eq_false_iff_not, Bool.not_eq_true', Bool.not_eq_false', Bool.not_eq_true, Bool.not_eq_false, beq_iff_eq, bne_iff_ne, beq_eq_false_iff_ne, bne_eq_false_iff_eq, ne_eq, Decidable.not_not] at *; first | omega | contradiction | (simp_all; done) | (simp_all; omega))
  refine ⟨Nat, fun i => i ≤ l.length, fun i => ([(4, iA i), (3, .d (tD (nm ++ bodyT (l.take i)))), (1, .ptr 0 0)], [.cells [.d (tD nm), .d (.sl 2 (l.map labR))]]), fun i => l.length - i, ⟨0, Nat.zero_le _, ?_⟩, ?_⟩
  · all_goals refine ⟨[], ?_⟩
    repeat (any_goals (first | exact True.intro | exact rfl | with_reducible_and_instances rfl | exact (by kernel_rfl) | refine And.intro ?_ ?_))
    all_goals conv => whnf
    show AV.d (tD nm) = AV.d (tD (nm ++ []))
    rw [List.append_nil]
  intro i hi
  have hi : i ≤ l.length := hi
  have hb := bodyT_len (l := l.take i) fun x hx => q3 x (List.mem_of_mem_take hx)
  rw [List.length_take] at hb
  have hb2 : nm.length + (bodyT (l.take i)).length ≤ 1200 := by omega
  conv => whnf
  by_cases hlt : i < l.length
  · have hx : l[i]? = some l[i] := List.getElem?_eq_getElem hlt
    generalize l[i] = x at hx
    have hgx := map_get (f := labR) hx
    have hlb := labB_len (q3 x (List.mem_of_getElem? hx))
    have d1 : decide ((i : Int) < ((l.map labR).length : Nat)) = true := decide_eq_true (by rw [hl]; omega)
    have nx : bodyT (l.take (i + 1)) = bodyT (l.take i) ++ ((if l.take i = [] then [123] else [44]) ++ pieceT x) := by
      rw [List.take_add_one, hx]; exact bodyT_next _ _
    iterate 5
      repeat' (first | exact True.intro | ((first | refine ⟨i, _, rfl, hgx, ?_⟩ | refine And.intro (fun _ => ?_) tf | refine And.intro ft (fun _ => ?_) | refine And.intro (by kernel_rfl) ?_ | refine And.intro (by decide) ?_ | refine And.intro (fun _ => ?_) (fun h => absurd h (by decide)) | refine And.intro (fun h => absurd h (by decide)) (fun _ => ?_) | refine ⟨_, _, addL' (by simp only [List.length_append, List.length_cons, List.length_nil]; omega), ?_⟩ | fail); conv => whnf) | (refine And.intro (fun _ => ?_) (fun _ => ?_) <;> conv => whnf) | fail)
      all_goals try (refine Or.inl ?_; conv => whnf)
    all_goals try exact (bnl d1 ‹_›).elim
    · have hi0 : i = 0 := by simpa using ‹((i : Int) == 0) = true›
      refine ⟨i + 1, hlt, show l.length - (i + 1) < l.length - i by omega, ?_⟩
      all_goals refine ⟨[], ?_⟩
      repeat (any_goals (first | exact True.intro | exact rfl | with_reducible_and_instances rfl | exact (by kernel_rfl) | refine And.intro ?_ ?_))
      all_goals conv => whnf
      · exact wk1 (by omega)
      · show AV.d (tD (nm ++ bodyT (l.take i) ++ ([123] ++ x.1 ++ [61] ++ x.2))) = AV.d (tD (nm ++ bodyT (l.take (i + 1))))
        rw [nx, if_pos (by rw [hi0]; rfl)]
        unfold pieceT
        simp only [List.append_assoc]
    · have hi0 : i ≠ 0 := by simpa using ‹((i : Int) == 0) = false›
      refine ⟨i + 1, hlt, show l.length - (i + 1) < l.length - i by omega, ?_⟩
      all_goals refine ⟨[], ?_⟩
      repeat (any_goals (first | exact True.intro | exact rfl | with_reducible_and_instances rfl | exact (by kernel_rfl) | refine And.intro ?_ ?_))
      all_goals conv => whnf
      · exact wk1 (by omega)
      · show AV.d (tD (nm ++ bodyT (l.take i) ++ ([44] ++ x.1 ++ [61] ++ x.2))) = AV.d (tD (nm ++ bodyT (l.take (i + 1))))
        rw [nx, if_neg (by intro h; have := congrArg List.length h; rw [List.length_take, List.length_nil] at this; omega)]
        unfold pieceT
        simp only [List.append_assoc]
  · have d1 : decide ((i : Int) < ((l.map labR).length : Nat)) = false := decide_eq_false (by rw [hl]; omega)
    have ti : l.take i = l := List.take_of_length_le (by omega)
    by_cases h0 : l = []
    · rw [if_pos h0]
      have e0 : decide (((l.map labR).length : Int) > 0) = false := by rw [h0]; rfl
      iterate 4
        repeat' (first | exact True.intro | ((first | refine And.intro (fun _ => ?_) tf | refine And.intro ft (fun _ => ?_) | refine And.intro (by kernel_rfl) ?_ | refine And.intro (by decide) ?_ | refine And.intro (fun _ => ?_) (fun h => absurd h (by decide)) | refine And.intro (fun h => absurd h (by decide)) (fun _ => ?_) | refine ⟨_, _, addL' (by simp; omega), ?_⟩ | fail); conv => whnf) | (refine And.intro (fun _ => ?_) (fun _ => ?_) <;> conv => whnf) | fail)
        all_goals try (refine Or.inl ?_; conv => whnf)
      all_goals try exact (bnl ‹_› d1).elim
      all_goals try exact (bnl ‹_› e0).elim
      all_goals refine ⟨[], ?_⟩
      repeat (any_goals (first | exact True.intro | exact rfl | with_reducible_and_instances rfl | exact (by kernel_rfl) | refine And.intro ?_ ?_))
      all_goals conv => whnf
      show AV.d (tD (nm ++ bodyT (l.take i))) = AV.d (tD nm)
      rw [ti, h0]
      show AV.d (tD (nm ++ [])) = _
      rw [List.append_nil]
    · rw [if_neg h0]
      have hpos : 0 < l.length := List.length_pos_iff.2 h0
      have e0 : decide (((l.map labR).length : Int) > 0) = true := decide_eq_true (by rw [hl]; omega)
      iterate 4
        repeat' (first | exact True.intro | ((first | refine And.intro (fun _ => ?_) tf | refine And.intro ft (fun _ => ?_) | refine And.intro (by kernel_rfl) ?_ | refine And.intro (by decide) ?_ | refine And.intro (fun _ => ?_) (fun h => absurd h (by decide)) | refine And.intro (fun h => absurd h (by decide)) (fun _ => ?_) | refine ⟨_, _, addL' (by simp only [List.length_append, List.length_cons, List.length_nil]; omega), ?_⟩ | fail); conv => whnf) | (refine And.intro (fun _ => ?_) (fun _ => ?_) <;> conv => whnf) | fail)
        all_goals try (refine Or.inl ?_; conv => whnf)
      all_goals try exact (bnl ‹_› d1).elim
      all_goals try exact (bnl e0 ‹_›).elim
      all_goals refine ⟨[], ?_⟩
      repeat (any_goals (first | exact True.intro | exact rfl | with_reducible_and_instances rfl | exact (by kernel_rfl) | refine And.intro ?_ ?_))
      all_goals conv => whnf
      show AV.d (tD (nm ++ bodyT (l.take i) ++ [125])) = AV.d (tD (nm ++ bodyT l ++ [125]))
      rw [ti]
end Go.Proofs.YtpnbpcdmiiakcaaDoor
/- Strings and bytes: conversions as operations; wide.Bytes, wide.Back. -/
namespace Go.Proofs.YtpnbpcdmiiakcaaDoor
set_option linter.unusedSimpArgs false
set_option linter.unusedVariables false
open Go.RowKit
set_option maxRecDepth 100000
end Go.Proofs.YtpnbpcdmiiakcaaDoor
/- label: a series as bytes, by the program. -/
namespace Go.Proofs.YtpnbpcdmiiakcaaDoor
set_option linter.unusedSimpArgs false
open Go.RowKit
set_option maxRecDepth 100000
set_option linter.unusedVariables false
def encTL (x : Bt) : Bt := enc x.length ++ x
def labsT (l : List Lab) : Bt := (l.map fun x => encTL x.1 ++ encTL x.2).flatten
def bytesS (s : Ser) : Bt := if rightB s = true then encTL s.1 ++ enc s.2.length ++ labsT s.2 else []
theorem encTL_len (x : Bt) : 1 ≤ (encTL x).length ∧ (encTL x).length ≤ 10 + x.length := by
  unfold encTL
  rw [List.length_append]
  have : 1 ≤ (enc x.length).length ∧ (enc x.length).length ≤ 10 := encF_len 9 x.length
  omega
theorem labsT_len : ∀ {l : List Lab}, (∀ x ∈ l, labB x = true) → (labsT l).length ≤ 148 * l.length
  | [], _ => by simp [labsT]
  | x :: r, h => by
    have h0 := labB_len (h x (List.mem_cons_self ..))
    have h1 := encTL_len x.1
    have h3 := encTL_len x.2
    have h2 := labsT_len (l := r) fun y hy => h y (List.mem_cons_of_mem _ hy)
    show (encTL x.1 ++ encTL x.2 ++ labsT r).length ≤ _
    rw [List.length_append, List.length_append, List.length_cons]
    omega
theorem labsT_next {l : List Lab} {i : Nat} {x : Lab} (hx : l[i]? = some x) : labsT (l.take (i + 1)) = labsT (l.take i) ++ (encTL x.1 ++ encTL x.2) := by
  unfold labsT
  rw [map_take_succ hx]; simp
theorem texts1 (x : Bt) (h : x.length ≤ 65536) : Sat Tryd.prog 35 [.d (.sl 1 [[tD x]])] [] (.own 0) [.sl 1 ((encTL x).map bR)] := by
  have e : encTs [⟨x.toArray⟩] = encTL x := by
    unfold encTs encT encTL
    simp only [List.map_cons, List.map_nil, List.flatten_cons, List.flatten_nil, List.append_nil]
    rfl
  have := texts_sat [⟨x.toArray⟩] (by simp) (fun y hy => by rw [List.mem_singleton.1 hy]; exact h) (by rw [e]; have := encTL_len x; omega)
  rwa [e] at this
theorem texts2 (x y : Bt) (h : x.length ≤ 65536) (h2 : y.length ≤ 65536) : Sat Tryd.prog 35 [.d (.sl 1 [[tD x], [tD y]])] [] (.own 0) [.sl 1 ((encTL x ++ encTL y).map bR)] := by
  have e : encTs [⟨x.toArray⟩, ⟨y.toArray⟩] = encTL x ++ encTL y := by
    unfold encTs encT encTL
    simp only [List.map_cons, List.map_nil, List.flatten_cons, List.flatten_nil, List.append_nil]
    rfl
  have := texts_sat [⟨x.toArray⟩, ⟨y.toArray⟩] (by simp) (fun z hz => by
    simp only [List.mem_cons, List.not_mem_nil, or_false] at hz
    rcases hz with rfl | rfl
    · exact h
    · exact h2) (by rw [e, List.length_append]; have := encTL_len x; omega)
  rwa [e] at this
theorem uints1 (n : Nat) (h : n ≤ 1000) : Sat Tryd.prog 36 [.d (.sl 1 [uR n])] [] (.own 0) [.sl 1 ((enc n).map bR)] := by
  have e : encs [n] = enc n := by unfold encs; simp
  have hl : 1 ≤ (enc n).length ∧ (enc n).length ≤ 10 := encF_len 9 n
  have := uints_sat [n] (by simp) (fun y hy => by rw [List.mem_singleton.1 hy]; omega) (by rw [e]; omega)
  rwa [e] at this
theorem enc_lens (n : Nat) : 1 ≤ (enc n).length ∧ (enc n).length ≤ 10 := encF_len 9 n
theorem ap1 {L : List AObj} {ty n i j : Nat} {sx xx : Operand} {a b : Bt} (hi : L[i]? = some (.sl 1 (a.map bR))) (hj : L[j]? = some (.sl 1 (b.map bR))) (hb : a.length + b.length ≤ 100000) : Does Tryd.prog (.call { callee := .builtin .append, args := #[sx, xx], argTypes := #[41, 41] }) ty L n [.own i, .own j] ⟨[i, j], [(i, .dead)], [.sl 1 ((a ++ b).map bR)]⟩ (.own n) := by
  have := ap (P := Tryd.prog) (t := 41) (L := L) (ty := ty) (n := n) (i := i) (j := j) (sx := sx) (xx := xx) 1 1 (by kernel_rfl) hi hj (by rw [List.length_map, List.length_map]; omega)
  rwa [← List.map_append] at this
set_option maxHeartbeats 4000000 in
theorem bytes_satS (s : Ser) : Sat Tryd.prog 17 [.d (serD s)] [] (.d (bsD (bytesS s))) [] := by
  obtain ⟨nm, l⟩ := s
  have hl : (l.map labR).length = l.length := List.length_map _
  have r1 := sRight_sat (nm, l)
  unfold bytesS
  cases hr : rightB (nm, l) with
  | false =>
    rw [hr] at r1
    rw [if_neg (by simp)]
    refine sat_of_vc (T := tiOf Tryd.prog) (E := E0) Tryd.func17 rfl rfl hE0 hm0 rfl ?_
    conv => whnf
    iterate 4
      repeat' (first | exact True.intro | ((first | refine And.intro (fun _ => ?_) tf | refine And.intro ft (fun _ => ?_) | refine And.intro (by kernel_rfl) ?_ | refine And.intro (by decide) ?_ | refine And.intro (fun _ => ?_) (fun h => absurd h (by decide)) | refine And.intro (fun h => absurd h (by decide)) (fun _ => ?_) | refine ⟨_, _, r1.pu rfl rfl, ?_⟩ | fail); conv => whnf) | (refine And.intro (fun _ => ?_) (fun _ => ?_) <;> conv => whnf) | fail)
      all_goals try (refine Or.inl ?_; conv => whnf)
    all_goals try (exfalso; simp only [decide_eq_true_eq, decide_eq_false_iff_not, Bool.not_eq_true', Bool.not_eq_false', Bool.not_eq_true, Bool.not_eq_false, beq_iff_eq, bne_iff_ne, beq_eq_false_iff_ne, bne_eq_false_iff_eq, ne_eq, Decidable.not_not] at *; first | omega | contradiction | (simp_all; done) | (simp_all; omega))
    all_goals refine ⟨[], ?_⟩
    repeat (any_goals (first | exact True.intro | exact rfl | with_reducible_and_instances rfl | exact (by kernel_rfl) | refine And.intro ?_ ?_))
    all_goals conv => whnf
  | true =>
  rw [hr] at r1
  rw [if_pos rfl]
  obtain ⟨q1, q2, q3⟩ := right_out hr
  have q2 : l.length ≤ 8 := q2
  have q3 : ∀ x ∈ l, labB x = true := q3
  have q4 : nm.length ≤ 64 := nameL_len q1
  have t1 := texts1 nm (by omega)
  have u1 := uints1 l.length (by omega)
  have hb1 := encTL_len nm
  have hb2 := enc_lens l.length
  have hu : IntKind.u64.wrap ((l.map labR).length : Int) = (l.length : Int) := by
    show ((l.map labR).length : Int) % 18446744073709551616 = _
    rw [hl]
    exact Int.emod_eq_of_lt (by omega) (by omega)
  have u2 : Sat Tryd.prog 36 [.d (.sl 1 [[.v (.int .u64 (IntKind.u64.wrap ((l.map labR).length : Int)))]])] [] (.own 0) [.sl 1 ((enc l.length).map bR)] := by
    rw [hu]; exact u1
  refine sat_of_vc (T := tiOf Tryd.prog) (E := E0) Tryd.func17 rfl rfl hE0 hm0 rfl ?_
  conv => whnf
  iterate 3
    repeat' (first | exact True.intro | ((first | refine And.intro (fun _ => ?_) tf | refine And.intro ft (fun _ => ?_) | refine And.intro (by kernel_rfl) ?_ | refine And.intro (by decide) ?_ | refine And.intro (fun _ => ?_) (fun h => absurd h (by decide)) | refine And.intro (fun h => absurd h (by decide)) (fun _ => ?_) | refine ⟨_, _, r1.pu rfl rfl, ?_⟩ | refine ⟨_, _, lendON t1 rfl (bR_flats _), ?_⟩ | refine ⟨_, _, lendON u2 rfl (bR_flats _), ?_⟩ | refine ⟨_, _, ap1 rfl rfl (by omega), ?_⟩ | fail); conv => whnf) | (refine And.intro (fun _ => ?_) (fun _ => ?_) <;> conv => whnf) | fail)
    all_goals try (refine Or.inl ?_; conv => whnf)
  all_goals try (exfalso; simp only [decide_eq_true_eq, decide_eq_false_iff_not, Bool.not_eq_true', Bool.not_eq_false', Bool.not_eq_true, Bool.not_eq_false, beq_iff_eq, bne_iff_ne, beq_eq_false_iff_ne, bne_eq_false_iff_eq, ne_eq, Decidable.not_not] at *; first | omega | contradiction | (simp_all; done) | (simp_all; omega))
  refine ⟨Nat, fun i => i ≤ l.length, fun i => ([(23, iA i), (22, iA (l.map labR).length), (21, .d (.sl 2 (l.map labR))), (3, .own 1)], [.cells [.d (tD nm), .d (.sl 2 (l.map labR))], .sl 1 ((encTL nm ++ enc l.length ++ labsT (l.take i)).map bR)]), fun i => l.length - i, ⟨0, Nat.zero_le _, ?_⟩, ?_⟩
  · all_goals refine ⟨[(1, 5)], ?_⟩
    repeat (any_goals (first | exact True.intro | exact rfl | with_reducible_and_instances rfl | exact (by kernel_rfl) | refine And.intro ?_ ?_))
    all_goals conv => whnf
    show _ = AObj.sl 1 ((encTL nm ++ enc l.length ++ []).map bR)
    rw [List.append_nil]
  intro i hi
  have hi : i ≤ l.length := hi
  have hb := labsT_len (l := l.take i) fun x hx => q3 x (List.mem_of_mem_take hx)
  rw [List.length_take] at hb
  have hb3 : (encTL nm ++ enc l.length ++ labsT (l.take i)).length ≤ 2000 := by rw [List.length_append, List.length_append]; omega
  conv => whnf
  by_cases hlt : i < l.length
  · have hx : l[i]? = some l[i] := List.getElem?_eq_getElem hlt
    generalize l[i] = x at hx
    have hgx := map_get (f := labR) hx
    have hlb := labB_len (q3 x (List.mem_of_getElem? hx))
    have d1 : decide ((i : Int) < ((l.map labR).length : Nat)) = true := decide_eq_true (by rw [hl]; omega)
    have t2 := texts2 x.1 x.2 (by omega) (by omega)
    have l1 := encTL_len x.1
    have l2 := encTL_len x.2
    have h12 : (encTL nm ++ enc l.length ++ labsT (l.take i)).length + (encTL x.1 ++ encTL x.2).length ≤ 100000 := by rw [List.length_append (bs := encTL x.2)]; omega
    iterate 4
      repeat' (first | exact True.intro | ((first | refine ⟨i, _, rfl, hgx, ?_⟩ | refine And.intro (fun _ => ?_) tf | refine And.intro ft (fun _ => ?_) | refine And.intro (by kernel_rfl) ?_ | refine And.intro (by decide) ?_ | refine And.intro (fun _ => ?_) (fun h => absurd h (by decide)) | refine And.intro (fun h => absurd h (by decide)) (fun _ => ?_) | refine ⟨_, _, lendON t2 rfl (bR_flats _), ?_⟩ | refine ⟨_, _, ap1 rfl rfl h12, ?_⟩ | fail); conv => whnf) | (refine And.intro (fun _ => ?_) (fun _ => ?_) <;> conv => whnf) | fail)
      all_goals try (refine Or.inl ?_; conv => whnf)
    all_goals try exact (bnl d1 ‹_›).elim
    refine ⟨i + 1, hlt, show l.length - (i + 1) < l.length - i by omega, ?_⟩
    all_goals refine ⟨[(1, 5)], ?_⟩
    repeat (any_goals (first | exact True.intro | exact rfl | with_reducible_and_instances rfl | exact (by kernel_rfl) | refine And.intro ?_ ?_))
    all_goals conv => whnf
    · exact wk1 (by omega)
    · rw [labsT_next hx, ← List.append_assoc (encTL nm ++ enc l.length)]
  · have d1 : decide ((i : Int) < ((l.map labR).length : Nat)) = false := decide_eq_false (by rw [hl]; omega)
    iterate 4
      repeat' (first | exact True.intro | ((first | refine And.intro (fun _ => ?_) tf | refine And.intro ft (fun _ => ?_) | refine And.intro (by kernel_rfl) ?_ | refine And.intro (by decide) ?_ | refine And.intro (fun _ => ?_) (fun h => absurd h (by decide)) | refine And.intro (fun h => absurd h (by decide)) (fun _ => ?_) | fail); conv => whnf) | (refine And.intro (fun _ => ?_) (fun _ => ?_) <;> conv => whnf) | fail)
      all_goals try (refine Or.inl ?_; conv => whnf)
    all_goals try exact (bnl ‹_› d1).elim
    all_goals refine ⟨[], ?_⟩
    repeat (any_goals (first | exact True.intro | exact rfl | with_reducible_and_instances rfl | exact (by kernel_rfl) | refine And.intro ?_ ?_))
    all_goals conv => whnf
    rw [List.take_of_length_le (by omega)]
end Go.Proofs.YtpnbpcdmiiakcaaDoor
/- label: strings.SplitSeq at one byte: its iterator. -/
namespace Go.Proofs.YtpnbpcdmiiakcaaDoor
open Go.RowKit
set_option linter.unusedVariables false
set_option linter.unusedSimpArgs false
/-- The part up to a byte, and what is behind it. -/
def headT (r : Bt) : Bt := if ixB r 44 < 0 then r else r.take (ixB r 44).toNat
def nextT (r : Bt) : Option Bt := if ixB r 44 < 0 then none else some (r.drop ((ixB r 44).toNat + 1))
def splitNx (y : Option Bt) (x : List AV) (y' : Option Bt) : Prop := ∃ r, y = some r ∧ x = [.d (tD (headT r))] ∧ y' = nextT r
theorem ix_lt : ∀ (r : Bt) (c : UInt8), 0 ≤ ixB r c → (ixB r c).toNat < r.length
  | [], c, h => absurd (show (0 : Int) ≤ -1 from h) (by decide)
  | b :: l, c, h => by
    have ih := ix_lt l c
    unfold ixB Lib.indexByte at h ⊢
    split
    · simp
    · rename_i hb
      rw [if_neg hb] at h
      split
      · rename_i h2; rw [if_pos h2] at h; exact absurd h (by decide)
      · rename_i h2
        rw [if_neg h2] at h
        have g := Lib.indexByte_ge l c
        have h3 : Lib.indexByte l c ≠ -1 := by simpa using h2
        have := ih (show 0 ≤ Lib.indexByte l c by omega)
        rw [List.length_cons]
        show (Lib.indexByte l c + 1).toNat < _
        have e : (ixB l c).toNat = (Lib.indexByte l c).toNat := rfl
        omega
theorem cellOf {w : World} {F : Nat → Prop} {ρ : Nat → Option Value} {H : Hp} (E : Env F ρ H w) {i : Nat} {d : D} {u : Value} (hi : H i = some (.cells [.d d])) (hd : FlatV d u) {v : Value} (hv : RA w F ρ (.ptr i 0) v) :
    ∃ b t, v = .pointer (some ⟨b, 0, none⟩) ∧ ρ i = some v ∧ Blk w b t #[u] := by
  obtain ⟨b, rfl, h1, ⟨b', t, vs, h2, hB, hR, _⟩, _⟩ := E.cellsAt hi rfl hv
  injection h2 with h2; injection h2 with h2; injection h2 with h2
  subst h2
  obtain ⟨u', e4, hu⟩ := hR.one_out
  have : vs = #[u'] := by
    apply Array.ext'
    rw [e4]
  subst this
  cases hu with | d hu =>
  have := FlatV.eq hd hu
  subst this
  exact ⟨b, t, rfl, h1, hB⟩
attribute [local go_sem] Oper.semAt_some
/-- The iterator's own cells: the byte, what is left, a nought. -/
structure SplC (b1 b2 b3 t1 t2 t3 : Nat) (O : Nat → Prop) (r : Bt) (w : World) : Prop where
  c1 : Blk w b1 t1 #[.string ⟨#[44]⟩]
  c2 : Blk w b2 t2 #[.string ⟨r.toArray⟩]
  c3 : Blk w b3 t3 #[.int .i64 0]
  n1 : ¬ O b1
  n2 : ¬ O b2
  n3 : ¬ O b3
set_option maxHeartbeats 1000000 in
set_option maxRecDepth 100000 in
theorem splitIt {s : Bt} (hs : s.length ≤ 1000000) {Hs : List AObj} {i j k : Nat} (hij : i ≠ j) (hjk : j ≠ k) (hi : Hs[i]? = some (.cells [.d (tD [44])])) (hj : Hs[j]? = some (.cells [.d (tD s)])) (hk : Hs[k]? = some (.cells [iA 0])) :
    IterO Tryd.prog 79 [] [.ptr i 0, .ptr j 0, .ptr k 0] Hs (some s) splitNx (fun y => y = none) := by
  intro us vs l
  refine ⟨fun y vals y' => ∃ r, y = some r ∧ vals = [.string ⟨(headT r).toArray⟩] ∧ y' = nextT r, ?_, ?_⟩
  · rintro y vals y' ⟨r, rfl, rfl, rfl⟩
    exact ⟨[.d (tD (headT r))], ⟨r, rfl, rfl, rfl⟩, fun w F ρ => .cons (.d (.v _)) .nil⟩
  intro J Jx hJ hN hNx hY O w h0 hst
  obtain ⟨F, ρ, H, E, ho, q1, q2⟩ := hst
  cases q1
  obtain ⟨v1, v2, v3, rfl, r1, r2, r3⟩ := q2.three_out
  obtain ⟨hi1, hi2⟩ := ho i _ hi rfl
  obtain ⟨hj1, hj2⟩ := ho j _ hj rfl
  obtain ⟨hk1, hk2⟩ := ho k _ hk rfl
  obtain ⟨b1, t1, rfl, e1, B1⟩ := cellOf E hi1 (.v _) r1
  obtain ⟨b2, t2, rfl, e2, B2⟩ := cellOf E hj1 (.v _) r2
  obtain ⟨b3, t3, rfl, e3, B3⟩ := cellOf E hk1 (.v _) r3
  have n12 : b1 ≠ b2 := fun h => hij (E.inj i j _ _ _ _ b1 hi1 hj1 rfl rfl e1 e2 rfl (by rw [h]; rfl))
  have n23 : b2 ≠ b3 := fun h => hjk (E.inj j k _ _ _ _ b2 hj1 hk1 rfl rfl e2 e3 rfl (by rw [h]; rfl))
  have S0 : SplC b1 b2 b3 t1 t2 t3 O s w := ⟨B1, B2, B3, hi2 _ _ e1 rfl, hj2 _ _ e2 rfl, hk2 _ _ e3 rfl⟩
  clear r1 r2 r3 hi1 hi2 hj1 hj2 hk1 hk2 e1 e2 e3 E ho hi hj hk
  have HJ := hide hJ
  have HN := hide hN
  have c0 := B1.cell 0
  clear hJ hN hNx B1 B2 B3
  refine (callsIn_wide (n := 1)).1 (callsIn_of_wp Tryd.func79 rfl trivial ?_ rfl)
  simp only [Tryd.ntmps79, List.size_toArray, List.length_cons, List.length_nil, Nat.reduceAdd, Nat.reduceSub, Array.replicate_succ, Array.replicate_zero, List.push_toArray, List.append_toArray, List.nil_append, List.cons_append]
  simp only [List.getElem?_toArray, List.getElem?_cons_zero] at c0
  gi_wp2
  gi_loopw [7] (fun _ wr => ∃ (r : Bt) (O : Nat → Prop), r.length ≤ 1000000 ∧ J (some r) O wr ∧ SplC b1 b2 b3 t1 t2 t3 O r wr) (fun _ wr => match wr.cell? ⟨b2, 0, none⟩ with | some (.string x) => x.size | _ => 0)
  case atStart => exact ⟨s, O, hs, h0, S0⟩
  case round =>
    obtain ⟨r, O1, hr, hJr, hS⟩ := hrel
    have HI := hide (Tryd.strings_Index_one ⟨r.toArray⟩ 44 wr)
    have c1 := hS.c1.cell 0
    have c2 := hS.c2.cell 0
    have c3 := hS.c3.cell 0
    simp only [List.getElem?_toArray, List.getElem?_cons_zero] at c1 c2 c3
    have hq : Lib.indexByte ((⟨r.toArray⟩ : ByteArray).data.toList) 44 = ixB r 44 := rfl
    rw [hq] at HI
    by_cases hix : ixB r 44 < 0
    · have hh : headT r = r := if_pos hix
      have hn : nextT r = none := if_pos hix
      obtain ⟨fn, tmps, assign, body, hy, hR⟩ := hY (some r) O1 wr _ _ ⟨r, rfl, rfl, rfl⟩ hJr
      rw [hh] at hy
      rw [hn] at hR
      gi_wp2_with (refine And.intro trivial ?_; gi_at_call 81; refine callsIn_wide.2 (HI.out.mono ?_); rintro e w' ⟨rfl, rfl⟩)
      refine hR.mono ?_
      rintro e W3 ⟨O', hfar, hO', ⟨rfl, hJ3⟩ | ⟨rfl, hJx3⟩⟩
      · clear hfar hR hy
        gi_wp2
        go_end0
        exact ⟨⟨_, rfl⟩, _, .inl ⟨_, rfl, hJ3⟩⟩
      · clear hfar hR hy
        gi_wp2
        go_end0
        exact ⟨⟨_, rfl⟩, _, .inr hJx3⟩
    · have hix0 : 0 ≤ ixB r 44 := by omega
      have hlt := ix_lt r 44 hix0
      have hh : headT r = r.take (ixB r 44).toNat := if_neg hix
      have hn : nextT r = some (r.drop ((ixB r 44).toNat + 1)) := if_neg hix
      obtain ⟨fn, tmps, assign, body, hy, hR⟩ := hY (some r) O1 wr _ _ ⟨r, rfl, rfl, rfl⟩ hJr
      rw [hh] at hy
      rw [hn] at hR
      have hex : (⟨r.toArray⟩ : ByteArray).extract 0 (ixB r 44).toNat = ⟨(r.take (ixB r 44).toNat).toArray⟩ := by rw [text_, List.drop_zero]
      gi_wp2_with (refine And.intro trivial ?_; gi_at_call 81; refine callsIn_wide.2 (HI.out.mono ?_); rintro e w' ⟨rfl, rfl⟩)
      refine hR.mono ?_
      rintro e W3 ⟨O', hfar, hO', ⟨rfl, hJ3⟩ | ⟨rfl, hJx3⟩⟩
      · have hlt1 := hS.c1.lt
        have hlt2 := hS.c2.lt
        have hlt3 := hS.c3.lt
        have B1 : Blk W3 b1 t1 #[.string ⟨#[44]⟩] := (hfar.2.2.2.2 _ hlt1 hS.n1).trans hS.c1
        have B2 : Blk W3 b2 t2 #[.string ⟨r.toArray⟩] := (hfar.2.2.2.2 _ hlt2 hS.n2).trans hS.c2
        have B3 : Blk W3 b3 t3 #[.int .i64 0] := (hfar.2.2.2.2 _ hlt3 hS.n3).trans hS.c3
        have m1 : ¬ O' b1 := fun q => (hO' _ q).elim hS.n1 fun q => by omega
        have m2 : ¬ O' b2 := fun q => (hO' _ q).elim hS.n2 fun q => by omega
        have m3 : ¬ O' b3 := fun q => (hO' _ q).elim hS.n3 fun q => by omega
        have d1 := B1.cell 0
        have d2 := B2.cell 0
        have d3 := B3.cell 0
        have f2 := B2.frozen 0
        simp only [List.getElem?_toArray, List.getElem?_cons_zero] at d1 d2 d3
        have HC := hide c2
        have HB := hide (And.intro B1 (And.intro B2 B3))
        clear hfar hR hy c1 c2 c3 hS B1 B2 B3
        gi_wp2
        obtain ⟨B1, B2, B3⟩ := HB.out
        have e : (⟨r.toArray⟩ : ByteArray).extract (ixB r 44 + 1).toNat r.length = ⟨(r.drop ((ixB r 44).toNat + 1)).toArray⟩ := by
          rw [text_, List.take_length, show (ixB r 44 + 1).toNat = (ixB r 44).toNat + 1 by omega]
        rw [e]
        have B2' : Blk (W3.setCell ⟨b2, 0, none⟩ (.string ⟨(r.drop ((ixB r 44).toNat + 1)).toArray⟩)) b2 t2 #[.string ⟨(r.drop ((ixB r 44).toNat + 1)).toArray⟩] := B2.set_ 0 _
        have hlr : (r.drop ((ixB r 44).toNat + 1)).length < r.length := by rw [List.length_drop]; omega
        refine ⟨⟨r.drop ((ixB r 44).toNat + 1), O', by omega, HN.out _ _ _ _ hJ3 ⟨rfl, rfl, rfl, by simp [World.setCell], fun b hb => Below.heap_setCell _ _ _ _ (fun q => m2 ((show b = b2 from q) ▸ hb))⟩, ⟨(Below.heap_setCell _ _ _ _ n12).trans B1, B2', (Below.heap_setCell _ _ _ _ (Ne.symm n23)).trans B3, m1, m2, m3⟩⟩, ?_⟩
        have g2 := B2'.cell 0
        simp only [List.getElem?_toArray, List.getElem?_cons_zero] at g2
        rw [g2, HC.out]
        exact hlr
      · clear hfar hR hy
        gi_wp2
        refine bodyPost_ret (results_none rfl _ _ _) rfl ?_
        exact ⟨⟨_, rfl⟩, _, .inr hJx3⟩
end Go.Proofs.YtpnbpcdmiiakcaaDoor
/- label: strings.Cut, strings.SplitSeq, by conditions. -/
namespace Go.Proofs.YtpnbpcdmiiakcaaDoor
set_option linter.unusedSimpArgs false
open Go.RowKit
set_option maxRecDepth 100000
set_option linter.unusedVariables false
def cutC (s : Bt) (c : UInt8) : Bt × Bt × Bool := if ixB s c < 0 then (s, [], false) else (s.take (ixB s c).toNat, s.drop ((ixB s c).toNat + 1), true)
abbrev cutCA (x : Bt × Bt × Bool) : AV := .tup [.d (tD x.1), .d (tD x.2.1), bA x.2.2]
theorem cut0_sat (s : Bt) (c : UInt8) (hn : s.length ≤ 1000000) : Sat Tryd.prog 58 [.d (tD s), .d (tD [c])] [] (cutCA (cutC s c)) [] := by
  have i1 := index_sat s c
  unfold cutC
  by_cases h : ixB s c < 0
  · rw [if_pos h]
    have ge0 : decide (ixB s c ≥ 0) = false := decide_eq_false (by omega)
    refine sat_of_vc (T := tiOf Tryd.prog) (E := E0) Tryd.func58 rfl rfl hE0 hm0 rfl ?_
    conv => whnf
    iterate 2
      repeat' (first | exact True.intro | ((first | refine And.intro (fun _ => ?_) tf | refine And.intro ft (fun _ => ?_) | refine And.intro (by kernel_rfl) ?_ | refine And.intro (by decide) ?_ | refine And.intro (fun _ => ?_) (fun h => absurd h (by decide)) | refine And.intro (fun h => absurd h (by decide)) (fun _ => ?_) | refine ⟨_, _, i1.pu rfl rfl, ?_⟩ | fail); conv => whnf) | (refine And.intro (fun _ => ?_) (fun _ => ?_) <;> conv => whnf) | fail)
      all_goals try (refine Or.inl ?_; conv => whnf)
    all_goals try exact (bnl ‹_› ge0).elim
    repeat' (first | exact True.intro | ((first | refine And.intro (fun _ => ?_) tf | refine And.intro ft (fun _ => ?_) | refine And.intro (by kernel_rfl) ?_ | refine And.intro (by decide) ?_ | refine And.intro (fun _ => ?_) (fun h => absurd h (by decide)) | refine And.intro (fun h => absurd h (by decide)) (fun _ => ?_) | fail); conv => whnf) | (refine And.intro (fun _ => ?_) (fun _ => ?_) <;> conv => whnf) | fail)
    all_goals try (refine Or.inl ?_; conv => whnf)
    all_goals refine ⟨[], ?_⟩
    repeat (any_goals (first | exact True.intro | exact rfl | with_reducible_and_instances rfl | exact (by kernel_rfl) | refine And.intro ?_ ?_))
    all_goals conv => whnf
  · rw [if_neg h]
    have ge0 : decide (ixB s c ≥ 0) = true := decide_eq_true (by omega)
    have hlt := ix_lt s c (by omega)
    obtain ⟨k, hk⟩ : ∃ k : Nat, ixB s c = (k : Int) := ⟨(ixB s c).toNat, by omega⟩
    rw [hk] at i1 ge0 hlt ⊢
    rw [Int.toNat_natCast] at hlt ⊢
    have hw : IntKind.i64.wrap ((k : Int) + 1) = ((k + 1 : Nat) : Int) := by rw [wi (by omega) (by omega)]; rfl
    have fr : ∀ {L : List AObj} {ty n : Nat} {x y : Operand}, Does Tryd.prog (.slice 9 x (some y) none none) ty L n [.d (tD s), .d (.v (.int .i64 (IntKind.i64.wrap ((k : Int) + (([c] : Bt).length : Int)))))] e0 (.d (tD (s.drop (k + 1)))) := by
      intro L ty n x y
      rw [show (([c] : Bt).length : Int) = 1 from rfl, hw]
      exact from_L Tryd.underlying9 (by omega)
    refine sat_of_vc (T := tiOf Tryd.prog) (E := E0) Tryd.func58 rfl rfl hE0 hm0 rfl ?_
    conv => whnf
    iterate 2
      repeat' (first | exact True.intro | ((first | refine And.intro (fun _ => ?_) tf | refine And.intro ft (fun _ => ?_) | refine And.intro (by kernel_rfl) ?_ | refine And.intro (by decide) ?_ | refine And.intro (fun _ => ?_) (fun h => absurd h (by decide)) | refine And.intro (fun h => absurd h (by decide)) (fun _ => ?_) | refine ⟨_, _, i1.pu rfl rfl, ?_⟩ | refine ⟨_, _, up_L Tryd.underlying9 (Nat.le_of_lt hlt), ?_⟩ | refine ⟨_, _, fr, ?_⟩ | fail); conv => whnf) | (refine And.intro (fun _ => ?_) (fun _ => ?_) <;> conv => whnf) | fail)
      all_goals try (refine Or.inl ?_; conv => whnf)
    all_goals try exact (bnl ge0 ‹_›).elim
    iterate 2
      repeat' (first | exact True.intro | ((first | refine And.intro (fun _ => ?_) tf | refine And.intro ft (fun _ => ?_) | refine And.intro (by kernel_rfl) ?_ | refine And.intro (by decide) ?_ | refine And.intro (fun _ => ?_) (fun h => absurd h (by decide)) | refine And.intro (fun h => absurd h (by decide)) (fun _ => ?_) | refine ⟨_, _, up_L Tryd.underlying9 (Nat.le_of_lt hlt), ?_⟩ | refine ⟨_, _, fr, ?_⟩ | fail); conv => whnf) | (refine And.intro (fun _ => ?_) (fun _ => ?_) <;> conv => whnf) | fail)
      all_goals try (refine Or.inl ?_; conv => whnf)
    all_goals refine ⟨[], ?_⟩
    repeat (any_goals (first | exact True.intro | exact rfl | with_reducible_and_instances rfl | exact (by kernel_rfl) | refine And.intro ?_ ?_))
    all_goals conv => whnf
theorem cut_sat (s : Bt) (c : UInt8) (hn : s.length ≤ 1000000) : Sat Tryd.prog 39 [.d (tD s), .d (tD [c])] [] (cutCA (cutC s c)) [] := by
  have i1 := cut0_sat s c hn
  refine sat_of_vc (T := tiOf Tryd.prog) (E := E0) Tryd.func39 rfl rfl hE0 hm0 rfl ?_
  conv => whnf
  iterate 3
    repeat' (first | exact True.intro | ((first | refine And.intro (fun _ => ?_) tf | refine And.intro ft (fun _ => ?_) | refine And.intro (by kernel_rfl) ?_ | refine And.intro (by decide) ?_ | refine And.intro (fun _ => ?_) (fun h => absurd h (by decide)) | refine And.intro (fun h => absurd h (by decide)) (fun _ => ?_) | refine ⟨_, _, i1.pu rfl rfl, ?_⟩ | fail); conv => whnf) | (refine And.intro (fun _ => ?_) (fun _ => ?_) <;> conv => whnf) | fail)
    all_goals try (refine Or.inl ?_; conv => whnf)
  all_goals refine ⟨[], ?_⟩
  repeat (any_goals (first | exact True.intro | exact rfl | with_reducible_and_instances rfl | exact (by kernel_rfl) | refine And.intro ?_ ?_))
  all_goals conv => whnf
abbrev spF : AV := .fn (.func 79) [] [.ptr 1 0, .ptr 0 0, .ptr 2 0]
theorem split0_sat (s : Bt) : Sat Tryd.prog 60 [.d (tD s), .d (tD [44]), iA 0] [] spF [.cells [.d (tD s)], .cells [.d (tD [44])], .cells [iA 0]] := by
  refine sat_of_vc (T := tiOf Tryd.prog) (E := E0) Tryd.func60 rfl rfl hE0 hm0 rfl ?_
  conv => whnf
  iterate 3
    repeat' (first | exact True.intro | ((first | refine And.intro (fun _ => ?_) tf | refine And.intro ft (fun _ => ?_) | refine And.intro (by kernel_rfl) ?_ | refine And.intro (by decide) ?_ | refine And.intro (fun _ => ?_) (fun h => absurd h (by decide)) | refine And.intro (fun h => absurd h (by decide)) (fun _ => ?_) | fail); conv => whnf) | (refine And.intro (fun _ => ?_) (fun _ => ?_) <;> conv => whnf) | fail)
    all_goals try (refine Or.inl ?_; conv => whnf)
  all_goals refine ⟨[], ?_⟩
  repeat (any_goals (first | exact True.intro | exact rfl | with_reducible_and_instances rfl | exact (by kernel_rfl) | refine And.intro ?_ ?_))
  all_goals conv => whnf
theorem split_sat (s : Bt) : Sat Tryd.prog 41 [.d (tD s), .d (tD [44])] [] spF [.cells [.d (tD s)], .cells [.d (tD [44])], .cells [iA 0]] := by
  have i1 := split0_sat s
  refine sat_of_vc (T := tiOf Tryd.prog) (E := E0) Tryd.func41 rfl rfl hE0 hm0 rfl ?_
  conv => whnf
  iterate 3
    repeat' (first | exact True.intro | ((first | refine And.intro (fun _ => ?_) tf | refine And.intro ft (fun _ => ?_) | refine And.intro (by kernel_rfl) ?_ | refine And.intro (by decide) ?_ | refine And.intro (fun _ => ?_) (fun h => absurd h (by decide)) | refine And.intro (fun h => absurd h (by decide)) (fun _ => ?_) | refine ⟨_, _, i1.nw rfl, ?_⟩ | fail); conv => whnf) | (refine And.intro (fun _ => ?_) (fun _ => ?_) <;> conv => whnf) | fail)
    all_goals try (refine Or.inl ?_; conv => whnf)
  all_goals refine ⟨[], ?_⟩
  repeat (any_goals (first | exact True.intro | exact rfl | with_reducible_and_instances rfl | exact (by kernel_rfl) | refine And.intro ?_ ?_))
  all_goals conv => whnf
end Go.Proofs.YtpnbpcdmiiakcaaDoor
/- label: Parse. -/
namespace Go.Proofs.YtpnbpcdmiiakcaaDoor
set_option linter.unusedSimpArgs false
open Go.RowKit
set_option maxRecDepth 100000
set_option linter.unusedVariables false
def splitC : Bt → List Bt
  | [] => [[]]
  | c :: r => if c = 44 then [] :: splitC r else match splitC r with | [] => [[c]] | h :: t => (c :: h) :: t
def restC (y : Option Bt) : List Bt := match y with | none => [] | some q => splitC q
theorem splitC_eq : ∀ r : Bt, splitC r = headT r :: restC (nextT r)
  | [] => rfl
  | c :: l => by
    have ih := splitC_eq l
    show (if c = 44 then [] :: splitC l else match splitC l with | [] => [[c]] | h :: t => (c :: h) :: t) = _
    by_cases hc : c = 44
    · rw [if_pos hc]
      have e : ixB (c :: l) 44 = 0 := by unfold ixB Lib.indexByte; rw [hc]; rfl
      have e1 : headT (c :: l) = [] := by unfold headT; rw [e]; rfl
      have e2 : nextT (c :: l) = some l := by unfold nextT; rw [e]; rfl
      rw [e1, e2]
      rfl
    · rw [if_neg hc, ih]
      have hcb : (c == (44 : UInt8)) = false := by rw [beq_eq_false_iff_ne]; exact hc
      have ge := Lib.indexByte_ge l 44
      by_cases hi : ixB l 44 < 0
      · have e1 : Lib.indexByte l 44 = -1 := by have : Lib.indexByte l 44 < 0 := hi; omega
        have e : ixB (c :: l) 44 = -1 := by unfold ixB Lib.indexByte; rw [hcb, e1]; rfl
        unfold headT nextT
        rw [if_pos hi, if_pos hi, e]
        rfl
      · have hn : ¬ Lib.indexByte l 44 = -1 := by have : ¬ Lib.indexByte l 44 < 0 := hi; omega
        have e : ixB (c :: l) 44 = ixB l 44 + 1 := by
          unfold ixB
          rw [Lib.indexByte, hcb]
          simp [hn]
        have h1 : headT (c :: l) = c :: headT l := by
          unfold headT
          rw [if_neg hi, e, if_neg (by omega), show (ixB l 44 + 1).toNat = (ixB l 44).toNat + 1 by omega]; rfl
        have h2 : nextT (c :: l) = nextT l := by
          unfold nextT
          rw [if_neg hi, e, if_neg (by omega), show (ixB l 44 + 1).toNat = (ixB l 44).toNat + 1 by omega]; rfl
        rw [h1, h2]
def takeP : List Bt → List Lab → Option (List Lab)
  | [], acc => some acc
  | p :: ps, acc => if (cutC p 61).2.2 = false ∨ acc.length = 8 then none else takeP ps (acc ++ [((cutC p 61).1, (cutC p 61).2.1)])
def finS (s : Ser) : Option Ser := if rightB s = true then some s else none
def parseS (t : Bt) : Option Ser :=
  if (cutC t 123).2.2 = false then finS ((cutC t 123).1, []) else if Lib.hasSuffix (cutC t 123).2.1 [125] = false then none else (takeP (splitC (Lib.trimSuffix (cutC t 123).2.1 [125])) []).bind fun l => finS ((cutC t 123).1, l)
theorem restC_next {r : Bt} : restC (some r) = headT r :: restC (nextT r) := splitC_eq r
theorem Sat.pre {P : Program} {g : FuncId} {args args' : List AV} {H H' : List AObj} {r : AV} (h : Sat P g args H r H') (ha : ∀ w F ρ vs, RAs w F ρ args' vs → RAs w F ρ args vs) : Sat P g args' H r H' := fun F ρ w vals En hv => h F ρ w vals En (ha _ _ _ _ hv)
theorem rightNil (nm : Bt) : Sat Tryd.prog 12 [.d (.agg [tD nm, nilV])] [] (bA (rightB (nm, []))) [] :=
  (sRight_sat (nm, [])).pre fun w F ρ vs h => by
    cases h with | cons h1 h2 =>
    cases h1 with | d h1 => exact .cons (.d h1.nilAgg) h2
theorem headT_len (r : Bt) : (headT r).length ≤ r.length := by
  unfold headT
  split
  · exact Nat.le_refl _
  · rw [List.length_take]; omega
theorem nextT_len {r q : Bt} (h : nextT r = some q) : q.length ≤ r.length := by
  unfold nextT at h
  split at h
  · cases h
  · injection h with h
    rw [← h, List.length_drop]; omega
theorem cutC_len (s : Bt) (c : UInt8) : (cutC s c).1.length ≤ s.length ∧ (cutC s c).2.1.length ≤ s.length := by
  unfold cutC
  split
  · exact ⟨Nat.le_refl _, Nat.zero_le _⟩
  · exact ⟨by rw [List.length_take]; omega, by rw [List.length_drop]; omega⟩
theorem trim_len (s p : Bt) : (Lib.trimSuffix s p).length ≤ s.length := by
  unfold Lib.trimSuffix
  split
  · rw [List.length_take]; omega
  · exact Nat.le_refl _
theorem finS_some {x s : Ser} (h : finS x = some s) : rightB x = true ∧ s = x := by
  unfold finS at h
  split at h
  · injection h with h; exact ⟨‹_›, h.symm⟩
  · cases h
set_option maxHeartbeats 8000000 in
theorem parse_none (t : Bt) (ht : t.length ≤ 1000000) (hp : parseS t = none) : Sat Tryd.prog 20 [.d (tD t)] [] (.tup [.d (serD ([], [])), bA false]) [] := by
  refine Sat.post (r := .tup [.d (.agg [tD [], nilV]), bA false]) ?_ fun w F ρ v h => nilTup h
  have c1 := cut_sat t 123 ht
  have cl := cutC_len t 123
  unfold parseS at hp
  generalize hc : cutC t 123 = c at *
  obtain ⟨nm, rest, lab⟩ := c
  simp only at hp cl
  cases lab with
  | false =>
    rw [if_pos rfl] at hp
    have hr : rightB (nm, []) = false := by
      unfold finS at hp
      split at hp
      · cases hp
      · simpa using ‹¬ rightB (nm, []) = true›
    have r1 := rightNil nm
    rw [hr] at r1
    refine sat_of_vc (T := tiOf Tryd.prog) (E := E0) Tryd.func20 rfl rfl hE0 hm0 rfl ?_
    conv => whnf
    iterate 6
      repeat' (first | exact True.intro | ((first | refine And.intro (fun _ => ?_) tf | refine And.intro ft (fun _ => ?_) | refine And.intro (by kernel_rfl) ?_ | refine And.intro (by decide) ?_ | refine And.intro (fun _ => ?_) (fun h => absurd h (by decide)) | refine And.intro (fun h => absurd h (by decide)) (fun _ => ?_) | refine ⟨_, _, c1.pu rfl rfl, ?_⟩ | refine ⟨_, _, r1.pu rfl rfl, ?_⟩ | fail); conv => whnf) | (refine And.intro (fun _ => ?_) (fun _ => ?_) <;> conv => whnf) | fail)
      all_goals try (refine Or.inl ?_; conv => whnf)
    all_goals try (exfalso; simp only [decide_eq_true_eq, decide_eq_false_iff_not, Bool.not_eq_true', Bool.not_eq_false', Bool.not_eq_true, Bool.not_eq_false, beq_iff_eq, bne_iff_ne, beq_eq_false_iff_ne, bne_eq_false_iff_eq, ne_eq, Decidable.not_not] at *; first | omega | contradiction | (simp_all; done) | (simp_all; omega))
    all_goals refine ⟨[], ?_⟩
    repeat (any_goals (first | exact True.intro | exact rfl | with_reducible_and_instances rfl | exact (by kernel_rfl) | refine And.intro ?_ ?_))
    all_goals conv => whnf
  | true =>
  rw [if_neg (by simp)] at hp
  have s1 := cutSuffix_sat rest [125] (by omega)
  cases hsx : Lib.hasSuffix rest [125] with
  | false =>
    rw [hsx] at s1
    refine sat_of_vc (T := tiOf Tryd.prog) (E := E0) Tryd.func20 rfl rfl hE0 hm0 rfl ?_
    conv => whnf
    iterate 5
      repeat' (first | exact True.intro | ((first | refine And.intro (fun _ => ?_) tf | refine And.intro ft (fun _ => ?_) | refine And.intro (by kernel_rfl) ?_ | refine And.intro (by decide) ?_ | refine And.intro (fun _ => ?_) (fun h => absurd h (by decide)) | refine And.intro (fun h => absurd h (by decide)) (fun _ => ?_) | refine ⟨_, _, c1.pu rfl rfl, ?_⟩ | refine ⟨_, _, s1.pu rfl rfl, ?_⟩ | fail); conv => whnf) | (refine And.intro (fun _ => ?_) (fun _ => ?_) <;> conv => whnf) | fail)
      all_goals try (refine Or.inl ?_; conv => whnf)
    all_goals try (exfalso; simp only [decide_eq_true_eq, decide_eq_false_iff_not, Bool.not_eq_true', Bool.not_eq_false', Bool.not_eq_true, Bool.not_eq_false, beq_iff_eq, bne_iff_ne, beq_eq_false_iff_ne, bne_eq_false_iff_eq, ne_eq, Decidable.not_not] at *; first | omega | contradiction | (simp_all; done) | (simp_all; omega))
    all_goals refine ⟨[], ?_⟩
    repeat (any_goals (first | exact True.intro | exact rfl | with_reducible_and_instances rfl | exact (by kernel_rfl) | refine And.intro ?_ ?_))
    all_goals conv => whnf
  | true =>
  rw [hsx] at s1
  rw [if_neg (by rw [hsx]; simp)] at hp
  have tl := trim_len rest [125]
  generalize hlist : Lib.trimSuffix rest [125] = list at *
  have sp := split_sat list
  obtain ⟨R, hR⟩ : ∃ R, takeP (restC (some list)) [] = R := ⟨_, rfl⟩
  rw [show takeP (splitC list) [] = R from hR] at hp
  refine sat_of_vc (T := tiOf Tryd.prog) (E := E0) Tryd.func20 rfl rfl hE0 hm0 rfl ?_
  conv => whnf
  iterate 3
    repeat' (first | exact True.intro | ((first | refine And.intro (fun _ => ?_) tf | refine And.intro ft (fun _ => ?_) | refine And.intro (by kernel_rfl) ?_ | refine And.intro (by decide) ?_ | refine And.intro (fun _ => ?_) (fun h => absurd h (by decide)) | refine And.intro (fun h => absurd h (by decide)) (fun _ => ?_) | refine ⟨_, _, c1.pu rfl rfl, ?_⟩ | refine ⟨_, _, s1.pu rfl rfl, ?_⟩ | fail); conv => whnf) | (refine And.intro (fun _ => ?_) (fun _ => ?_) <;> conv => whnf) | fail)
    all_goals try (refine Or.inl ?_; conv => whnf)
  all_goals try (exfalso; simp only [decide_eq_true_eq, decide_eq_false_iff_not, Bool.not_eq_true', Bool.not_eq_false', Bool.not_eq_true, Bool.not_eq_false, beq_iff_eq, bne_iff_ne, beq_eq_false_iff_ne, bne_eq_false_iff_eq, ne_eq, Decidable.not_not] at *; first | omega | contradiction | (simp_all; done) | (simp_all; omega))
  repeat' (first | exact True.intro | ((first | refine And.intro (fun _ => ?_) tf | refine And.intro ft (fun _ => ?_) | refine And.intro (by kernel_rfl) ?_ | refine And.intro (by decide) ?_ | refine And.intro (fun _ => ?_) (fun h => absurd h (by decide)) | refine And.intro (fun h => absurd h (by decide)) (fun _ => ?_) | refine ⟨_, _, sp.nw rfl, ?_⟩ | fail); conv => whnf) | (refine And.intro (fun _ => ?_) (fun _ => ?_) <;> conv => whnf) | fail)
  refine Or.inr ⟨List Lab, Option Bt, fun y acc => takeP (restC y) acc = R ∧ acc.length ≤ 8 ∧ ∀ r, y = some r → r.length ≤ 1000000, fun acc => [.cells [.d (tD []), .d nilV], .cells [bA false], .cells [.d (tD nm), .own 6], .dead, .dead, .dead, .sl 2 (acc.map labR)], [(32, .fn (.func 79) [] [.ptr 4 0, .ptr 3 0, .ptr 5 0]), (7, .ptr 2 0), (3, .ptr 1 0), (2, .ptr 0 0)], 6, 79, [], [.ptr 4 0, .ptr 3 0, .ptr 5 0], [.dead, .dead, .dead, .cells [.d (tD list)], .cells [.d (tD [44])], .cells [iA 0]], some list, splitNx, fun y => y = none, [.cells [.d (tD []), .d nilV], .cells [bA false], .cells [.d (tD nm), .own 6], .cells [.d (tD list)], .cells [.d (tD [44])], .cells [iA 0], .sl 2 []], ?_, ⟨[], ⟨hR, Nat.zero_le _, fun r h => by injection h with h; subst h; omega⟩, rfl⟩, rfl, by kernel_rfl, ?_, splitIt (by omega) (by decide) (by decide) rfl rfl rfl, ?_, fun k z _ => by show 6 ≤ 7; decide, ?_, ?_⟩
  · all_goals refine ⟨[], ?_⟩
    repeat (any_goals (first | exact True.intro | exact rfl | with_reducible_and_instances rfl | exact (by kernel_rfl) | refine And.intro ?_ ?_))
    all_goals conv => whnf
  · exact ⟨rfl, rfl, rfl, trivial⟩
  · rintro k x k' ⟨r, rfl, rfl, rfl⟩
    rfl
  · rintro y acc x y' ⟨hI1, hI2, hI3⟩ ⟨r, rfl, rfl, rfl⟩
    have hrl := hI3 r rfl
    have hhl := headT_len r
    have c2 := cut_sat (headT r) 61 (by omega)
    have hal : (acc.map labR).length = acc.length := List.length_map _
    rw [restC_next, takeP] at hI1
    generalize cutC (headT r) 61 = x at *
    obtain ⟨a, v, ok⟩ := x
    simp only at hI1
    conv => whnf
    cases ok with
    | false =>
      iterate 4
        repeat' (first | exact True.intro | ((first | refine And.intro (fun _ => ?_) tf | refine And.intro ft (fun _ => ?_) | refine And.intro (by kernel_rfl) ?_ | refine And.intro (by decide) ?_ | refine And.intro (fun _ => ?_) (fun h => absurd h (by decide)) | refine And.intro (fun h => absurd h (by decide)) (fun _ => ?_) | refine ⟨_, _, c2.pu rfl rfl, ?_⟩ | fail); conv => whnf) | (refine And.intro (fun _ => ?_) (fun _ => ?_) <;> conv => whnf) | fail)
        all_goals try (refine Or.inl ?_; conv => whnf)
      all_goals try exact (bnl (a := (!(a, v, false).2.2)) rfl ‹_›).elim
      all_goals refine ⟨[], ?_⟩
      repeat (any_goals (first | exact True.intro | exact rfl | with_reducible_and_instances rfl | exact (by kernel_rfl) | refine And.intro ?_ ?_))
      all_goals conv => whnf
    | true =>
      by_cases h8 : acc.length = 8
      · have e8 : ((((acc.map labR).length : Nat) : Int) == 8) = true := by rw [hal, h8]; rfl
        iterate 4
          repeat' (first | exact True.intro | ((first | refine And.intro (fun _ => ?_) tf | refine And.intro ft (fun _ => ?_) | refine And.intro (by kernel_rfl) ?_ | refine And.intro (by decide) ?_ | refine And.intro (fun _ => ?_) (fun h => absurd h (by decide)) | refine And.intro (fun h => absurd h (by decide)) (fun _ => ?_) | refine ⟨_, _, c2.pu rfl rfl, ?_⟩ | fail); conv => whnf) | (refine And.intro (fun _ => ?_) (fun _ => ?_) <;> conv => whnf) | fail)
          all_goals try (refine Or.inl ?_; conv => whnf)
        all_goals try exact (bnl e8 ‹_›).elim
        all_goals try (exfalso; simp only [decide_eq_true_eq, decide_eq_false_iff_not, Bool.not_eq_true', Bool.not_eq_false', Bool.not_eq_true, Bool.not_eq_false, beq_iff_eq, bne_iff_ne, beq_eq_false_iff_ne, bne_eq_false_iff_eq, ne_eq, Decidable.not_not] at *; first | omega | contradiction | (simp_all; done) | (simp_all; omega))
        all_goals refine ⟨[], ?_⟩
        repeat (any_goals (first | exact True.intro | exact rfl | with_reducible_and_instances rfl | exact (by kernel_rfl) | refine And.intro ?_ ?_))
        all_goals conv => whnf
      · have e8 : ((((acc.map labR).length : Nat) : Int) == 8) = false := by rw [hal, beq_eq_false_iff_ne]; omega
        rw [if_neg (by simp [h8])] at hI1
        iterate 4
          repeat' (first | exact True.intro | ((first | refine And.intro (fun _ => ?_) tf | refine And.intro ft (fun _ => ?_) | refine And.intro (by kernel_rfl) ?_ | refine And.intro (by decide) ?_ | refine And.intro (fun _ => ?_) (fun h => absurd h (by decide)) | refine And.intro (fun h => absurd h (by decide)) (fun _ => ?_) | refine ⟨_, _, c2.pu rfl rfl, ?_⟩ | refine ⟨_, _, ap 2 32 (by kernel_rfl) rfl rfl (by simp; omega), ?_⟩ | fail); conv => whnf) | (refine And.intro (fun _ => ?_) (fun _ => ?_) <;> conv => whnf) | fail)
          all_goals try (refine Or.inl ?_; conv => whnf)
        all_goals try exact (bnl ‹_› e8).elim
        all_goals try (exfalso; simp only [decide_eq_true_eq, decide_eq_false_iff_not, Bool.not_eq_true', Bool.not_eq_false', Bool.not_eq_true, Bool.not_eq_false, beq_iff_eq, bne_iff_ne, beq_eq_false_iff_ne, bne_eq_false_iff_eq, ne_eq, Decidable.not_not] at *; first | omega | contradiction | (simp_all; done) | (simp_all; omega))
        refine ⟨acc ++ [(a, v)], ⟨hI1, by rw [List.length_append]; simp; omega, fun q hq => by have := nextT_len hq; omega⟩, ?_⟩
        all_goals refine ⟨[(6, 8)], ?_⟩
        repeat (any_goals (first | exact True.intro | exact rfl | with_reducible_and_instances rfl | exact (by kernel_rfl) | refine And.intro ?_ ?_))
        all_goals conv => whnf
        rw [List.map_append]; rfl
  · rintro y acc rfl ⟨hI1, hI2, hI3⟩
    have hR2 : R = some acc := hI1.symm
    rw [hR2] at hp
    have hp : finS (nm, acc) = none := hp
    have hr : rightB (nm, acc) = false := by
      unfold finS at hp
      split at hp
      · cases hp
      · simpa using ‹¬ rightB (nm, acc) = true›
    have r1 := sRight_sat (nm, acc)
    rw [hr] at r1
    conv => whnf
    iterate 4
      repeat' (first | exact True.intro | ((first | refine And.intro (fun _ => ?_) tf | refine And.intro ft (fun _ => ?_) | refine And.intro (by kernel_rfl) ?_ | refine And.intro (by decide) ?_ | refine And.intro (fun _ => ?_) (fun h => absurd h (by decide)) | refine And.intro (fun h => absurd h (by decide)) (fun _ => ?_) | refine ⟨_, _, r1.lendAgg rfl rfl, ?_⟩ | fail); conv => whnf) | (refine And.intro (fun _ => ?_) (fun _ => ?_) <;> conv => whnf) | fail)
      all_goals try (refine Or.inl ?_; conv => whnf)
    all_goals try (exfalso; simp only [decide_eq_true_eq, decide_eq_false_iff_not, Bool.not_eq_true', Bool.not_eq_false', Bool.not_eq_true, Bool.not_eq_false, beq_iff_eq, bne_iff_ne, beq_eq_false_iff_ne, bne_eq_false_iff_eq, ne_eq, Decidable.not_not] at *; first | omega | contradiction | (simp_all; done) | (simp_all; omega))
    all_goals refine ⟨[], ?_⟩
    repeat (any_goals (first | exact True.intro | exact rfl | with_reducible_and_instances rfl | exact (by kernel_rfl) | refine And.intro ?_ ?_))
    all_goals conv => whnf
set_option maxHeartbeats 8000000 in
theorem parse_some (t : Bt) (s : Ser) (ht : t.length ≤ 1000000) (hp : parseS t = some s) : Sat Tryd.prog 20 [.d (tD t)] [] (.tup [.d (serD s), bA true]) [] := by
  have c1 := cut_sat t 123 ht
  have cl := cutC_len t 123
  unfold parseS at hp
  generalize hc : cutC t 123 = c at *
  obtain ⟨nm, rest, lab⟩ := c
  simp only at hp cl
  cases lab with
  | false =>
    rw [if_pos rfl] at hp
    obtain ⟨hr, rfl⟩ := finS_some hp
    have r1 := rightNil nm
    rw [hr] at r1
    refine Sat.post (r := .tup [.d (.agg [tD nm, nilV]), bA true]) ?_ fun w F ρ v h => nilTup h
    refine sat_of_vc (T := tiOf Tryd.prog) (E := E0) Tryd.func20 rfl rfl hE0 hm0 rfl ?_
    conv => whnf
    iterate 6
      repeat' (first | exact True.intro | ((first | refine And.intro (fun _ => ?_) tf | refine And.intro ft (fun _ => ?_) | refine And.intro (by kernel_rfl) ?_ | refine And.intro (by decide) ?_ | refine And.intro (fun _ => ?_) (fun h => absurd h (by decide)) | refine And.intro (fun h => absurd h (by decide)) (fun _ => ?_) | refine ⟨_, _, c1.pu rfl rfl, ?_⟩ | refine ⟨_, _, r1.pu rfl rfl, ?_⟩ | fail); conv => whnf) | (refine And.intro (fun _ => ?_) (fun _ => ?_) <;> conv => whnf) | fail)
      all_goals try (refine Or.inl ?_; conv => whnf)
    all_goals try (exfalso; simp only [decide_eq_true_eq, decide_eq_false_iff_not, Bool.not_eq_true', Bool.not_eq_false', Bool.not_eq_true, Bool.not_eq_false, beq_iff_eq, bne_iff_ne, beq_eq_false_iff_ne, bne_eq_false_iff_eq, ne_eq, Decidable.not_not] at *; first | omega | contradiction | (simp_all; done) | (simp_all; omega))
    all_goals refine ⟨[], ?_⟩
    repeat (any_goals (first | exact True.intro | exact rfl | with_reducible_and_instances rfl | exact (by kernel_rfl) | refine And.intro ?_ ?_))
    all_goals conv => whnf
  | true =>
  rw [if_neg (by simp)] at hp
  have s1 := cutSuffix_sat rest [125] (by omega)
  cases hsx : Lib.hasSuffix rest [125] with
  | false =>
    rw [if_pos hsx] at hp
    cases hp
  | true =>
  rw [hsx] at s1
  rw [if_neg (by rw [hsx]; simp)] at hp
  have tl := trim_len rest [125]
  generalize hlist : Lib.trimSuffix rest [125] = list at *
  have sp := split_sat list
  obtain ⟨R, hR⟩ : ∃ R, takeP (restC (some list)) [] = R := ⟨_, rfl⟩
  rw [show takeP (splitC list) [] = R from hR] at hp
  refine sat_of_vc (T := tiOf Tryd.prog) (E := E0) Tryd.func20 rfl rfl hE0 hm0 rfl ?_
  conv => whnf
  iterate 3
    repeat' (first | exact True.intro | ((first | refine And.intro (fun _ => ?_) tf | refine And.intro ft (fun _ => ?_) | refine And.intro (by kernel_rfl) ?_ | refine And.intro (by decide) ?_ | refine And.intro (fun _ => ?_) (fun h => absurd h (by decide)) | refine And.intro (fun h => absurd h (by decide)) (fun _ => ?_) | refine ⟨_, _, c1.pu rfl rfl, ?_⟩ | refine ⟨_, _, s1.pu rfl rfl, ?_⟩ | fail); conv => whnf) | (refine And.intro (fun _ => ?_) (fun _ => ?_) <;> conv => whnf) | fail)
    all_goals try (refine Or.inl ?_; conv => whnf)
  all_goals try (exfalso; simp only [decide_eq_true_eq, decide_eq_false_iff_not, Bool.not_eq_true', Bool.not_eq_false', Bool.not_eq_true, Bool.not_eq_false, beq_iff_eq, bne_iff_ne, beq_eq_false_iff_ne, bne_eq_false_iff_eq, ne_eq, Decidable.not_not] at *; first | omega | contradiction | (simp_all; done) | (simp_all; omega))
  repeat' (first | exact True.intro | ((first | refine And.intro (fun _ => ?_) tf | refine And.intro ft (fun _ => ?_) | refine And.intro (by kernel_rfl) ?_ | refine And.intro (by decide) ?_ | refine And.intro (fun _ => ?_) (fun h => absurd h (by decide)) | refine And.intro (fun h => absurd h (by decide)) (fun _ => ?_) | refine ⟨_, _, sp.nw rfl, ?_⟩ | fail); conv => whnf) | (refine And.intro (fun _ => ?_) (fun _ => ?_) <;> conv => whnf) | fail)
  refine Or.inr ⟨List Lab, Option Bt, fun y acc => takeP (restC y) acc = R ∧ acc.length ≤ 8 ∧ ∀ r, y = some r → r.length ≤ 1000000, fun acc => [.cells [.d (tD []), .d nilV], .cells [bA false], .cells [.d (tD nm), .own 6], .dead, .dead, .dead, .sl 2 (acc.map labR)], [(32, .fn (.func 79) [] [.ptr 4 0, .ptr 3 0, .ptr 5 0]), (7, .ptr 2 0), (3, .ptr 1 0), (2, .ptr 0 0)], 6, 79, [], [.ptr 4 0, .ptr 3 0, .ptr 5 0], [.dead, .dead, .dead, .cells [.d (tD list)], .cells [.d (tD [44])], .cells [iA 0]], some list, splitNx, fun y => y = none, [.cells [.d (tD []), .d nilV], .cells [bA false], .cells [.d (tD nm), .own 6], .cells [.d (tD list)], .cells [.d (tD [44])], .cells [iA 0], .sl 2 []], ?_, ⟨[], ⟨hR, Nat.zero_le _, fun r h => by injection h with h; subst h; omega⟩, rfl⟩, rfl, by kernel_rfl, ?_, splitIt (by omega) (by decide) (by decide) rfl rfl rfl, ?_, fun k z _ => by show 6 ≤ 7; decide, ?_, ?_⟩
  · all_goals refine ⟨[], ?_⟩
    repeat (any_goals (first | exact True.intro | exact rfl | with_reducible_and_instances rfl | exact (by kernel_rfl) | refine And.intro ?_ ?_))
    all_goals conv => whnf
  · exact ⟨rfl, rfl, rfl, trivial⟩
  · rintro k x k' ⟨r, rfl, rfl, rfl⟩
    rfl
  · rintro y acc x y' ⟨hI1, hI2, hI3⟩ ⟨r, rfl, rfl, rfl⟩
    have hrl := hI3 r rfl
    have hhl := headT_len r
    have c2 := cut_sat (headT r) 61 (by omega)
    have hal : (acc.map labR).length = acc.length := List.length_map _
    rw [restC_next, takeP] at hI1
    generalize cutC (headT r) 61 = x at *
    obtain ⟨a, v, ok⟩ := x
    simp only at hI1
    conv => whnf
    cases ok with
    | false =>
      rw [if_pos (.inl rfl)] at hI1
      rw [← hI1] at hp
      cases hp
    | true =>
      by_cases h8 : acc.length = 8
      · rw [if_pos (.inr h8)] at hI1
        rw [← hI1] at hp
        cases hp
      · have e8 : ((((acc.map labR).length : Nat) : Int) == 8) = false := by rw [hal, beq_eq_false_iff_ne]; omega
        rw [if_neg (by simp [h8])] at hI1
        iterate 4
          repeat' (first | exact True.intro | ((first | refine And.intro (fun _ => ?_) tf | refine And.intro ft (fun _ => ?_) | refine And.intro (by kernel_rfl) ?_ | refine And.intro (by decide) ?_ | refine And.intro (fun _ => ?_) (fun h => absurd h (by decide)) | refine And.intro (fun h => absurd h (by decide)) (fun _ => ?_) | refine ⟨_, _, c2.pu rfl rfl, ?_⟩ | refine ⟨_, _, ap 2 32 (by kernel_rfl) rfl rfl (by simp; omega), ?_⟩ | fail); conv => whnf) | (refine And.intro (fun _ => ?_) (fun _ => ?_) <;> conv => whnf) | fail)
          all_goals try (refine Or.inl ?_; conv => whnf)
        all_goals try exact (bnl ‹_› e8).elim
        all_goals try (exfalso; simp only [decide_eq_true_eq, decide_eq_false_iff_not, Bool.not_eq_true', Bool.not_eq_false', Bool.not_eq_true, Bool.not_eq_false, beq_iff_eq, bne_iff_ne, beq_eq_false_iff_ne, bne_eq_false_iff_eq, ne_eq, Decidable.not_not] at *; first | omega | contradiction | (simp_all; done) | (simp_all; omega))
        refine ⟨acc ++ [(a, v)], ⟨hI1, by rw [List.length_append]; simp; omega, fun q hq => by have := nextT_len hq; omega⟩, ?_⟩
        all_goals refine ⟨[(6, 8)], ?_⟩
        repeat (any_goals (first | exact True.intro | exact rfl | with_reducible_and_instances rfl | exact (by kernel_rfl) | refine And.intro ?_ ?_))
        all_goals conv => whnf
        rw [List.map_append]; rfl
  · rintro y acc rfl ⟨hI1, hI2, hI3⟩
    have hR2 : R = some acc := hI1.symm
    rw [hR2] at hp
    obtain ⟨hr, rfl⟩ := finS_some (show finS (nm, acc) = some s from hp)
    have r1 := sRight_sat (nm, acc)
    rw [hr] at r1
    conv => whnf
    iterate 4
      repeat' (first | exact True.intro | ((first | refine And.intro (fun _ => ?_) tf | refine And.intro ft (fun _ => ?_) | refine And.intro (by kernel_rfl) ?_ | refine And.intro (by decide) ?_ | refine And.intro (fun _ => ?_) (fun h => absurd h (by decide)) | refine And.intro (fun h => absurd h (by decide)) (fun _ => ?_) | refine ⟨_, _, r1.lendAgg rfl rfl, ?_⟩ | fail); conv => whnf) | (refine And.intro (fun _ => ?_) (fun _ => ?_) <;> conv => whnf) | fail)
      all_goals try (refine Or.inl ?_; conv => whnf)
    all_goals try (exfalso; simp only [decide_eq_true_eq, decide_eq_false_iff_not, Bool.not_eq_true', Bool.not_eq_false', Bool.not_eq_true, Bool.not_eq_false, beq_iff_eq, bne_iff_ne, beq_eq_false_iff_ne, bne_eq_false_iff_eq, ne_eq, Decidable.not_not] at *; first | omega | contradiction | (simp_all; done) | (simp_all; omega))
    all_goals refine ⟨[], ?_⟩
    repeat (any_goals (first | exact True.intro | exact rfl | with_reducible_and_instances rfl | exact (by kernel_rfl) | refine And.intro ?_ ?_))
    all_goals conv => whnf
end Go.Proofs.YtpnbpcdmiiakcaaDoor
/- alive of the law 08. -/
namespace Go.Proofs.YtpnbpcdmiiakcaaDoor
set_option linter.unusedSimpArgs false
open Go.RowKit
set_option maxRecDepth 100000
set_option linter.unusedVariables false
def hitsT : Bt := [104, 105, 116, 115]
def labsM : List Lab := [([97], [49]), ([98], [50])]
def serM : Ser := (hitsT, labsM)
def bM8 : Bt := [4, 104, 105, 116, 115, 2, 1, 97, 1, 49, 1, 98, 1, 50]
def lf8 (k : Nat) : Bt := bM8.drop k
theorem text_at8 (l l' : Bt) (x : Bt) (n s : Nat) (hn : l.length ≤ 65536) (hc : cnt l 64 = (n, s, 0)) (hs : s + n ≤ l.length) (hl : l.drop (s + n) = l') (hx : (l.take (s + n)).drop s = x) : Sat Tryd.prog 47 [.ptr 0 0, iA 64] [rdO l 0] (.d (tD x)) [rdO l' 0] := by
  have := text_sat l 64 n s (by decide) hn hc hs
  rwa [hl, hx] at this
theorem count_at8 (l l' : Bt) (n s : Nat) (hn : l.length ≤ 65536) (hd : cnt l 8 = (n, s, 0)) (hl : l.drop s = l') : Sat Tryd.prog 48 [.ptr 0 0, iA 8] [rdO l 0] (iA n) [rdO l' 0] := by
  have := countM_sat l 8 (by decide) hn (by rw [hd])
  rw [hd] at this
  rw [← hl]
  exact this
theorem err8_sat (l : Bt) : Sat Tryd.prog 49 [.ptr 0 0] [rdO l 0] (iA 0) [rdO l 0] := by
  refine sat_of_vc (T := tiOf Tryd.prog) (E := E0) Tryd.func49 rfl rfl hE0 hm0 rfl ?_
  conv => whnf
  iterate 2
    repeat' (first | exact True.intro | ((first | refine And.intro (fun _ => ?_) tf | refine And.intro ft (fun _ => ?_) | refine And.intro (by kernel_rfl) ?_ | refine And.intro (by decide) ?_ | refine And.intro (fun _ => ?_) (fun h => absurd h (by decide)) | refine And.intro (fun h => absurd h (by decide)) (fun _ => ?_) | fail); conv => whnf) | (refine And.intro (fun _ => ?_) (fun _ => ?_) <;> conv => whnf) | fail)
    all_goals try (refine Or.inl ?_; conv => whnf)
  all_goals refine ⟨[], ?_⟩
  repeat (any_goals (first | exact True.intro | exact rfl | with_reducible_and_instances rfl | exact (by kernel_rfl) | refine And.intro ?_ ?_))
  all_goals conv => whnf
set_option maxHeartbeats 4000000 in
theorem readM_sat : Sat Tryd.prog 25 [.ptr 0 0] [rdO (lf8 0) 0] (.tup [.d (serD serM), iA 0]) [rdO (lf8 14) 0] := by
  have t0 := text_at8 (lf8 0) (lf8 5) hitsT 4 1 (by decide) (by decide) (by decide) (by decide) (by decide)
  have c0 := count_at8 (lf8 5) (lf8 6) 2 1 (by decide) (by decide) (by decide)
  have t1 := text_at8 (lf8 6) (lf8 8) [97] 1 1 (by decide) (by decide) (by decide) (by decide) (by decide)
  have t2 := text_at8 (lf8 8) (lf8 10) [49] 1 1 (by decide) (by decide) (by decide) (by decide) (by decide)
  have t3 := text_at8 (lf8 10) (lf8 12) [98] 1 1 (by decide) (by decide) (by decide) (by decide) (by decide)
  have t4 := text_at8 (lf8 12) (lf8 14) [50] 1 1 (by decide) (by decide) (by decide) (by decide) (by decide)
  have e1 := err8_sat (lf8 14)
  have r1 := sRight_sat serM
  rw [show rightB serM = true by decide] at r1
  refine sat_of_vc (T := tiOf Tryd.prog) (E := E0) Tryd.func25 rfl rfl hE0 hm0 rfl ?_
  conv => whnf
  iterate 3
    repeat' (first | exact True.intro | ((first | refine And.intro (fun _ => ?_) tf | refine And.intro ft (fun _ => ?_) | refine And.intro (by kernel_rfl) ?_ | refine And.intro (by decide) ?_ | refine And.intro (fun _ => ?_) (fun h => absurd h (by decide)) | refine And.intro (fun h => absurd h (by decide)) (fun _ => ?_) | refine ⟨_, _, t0.at1 0 rfl rfl rfl, ?_⟩ | refine ⟨_, _, c0.at1 0 rfl rfl rfl, ?_⟩ | fail); conv => whnf) | (refine And.intro (fun _ => ?_) (fun _ => ?_) <;> conv => whnf) | fail)
    all_goals try (refine Or.inl ?_; conv => whnf)
  refine ⟨Nat, fun k => k ≤ 2, fun k => ([(12, iA k), (11, iA 2), (4, .ptr 2 0), (2, .ptr 1 0), (0, .ptr 0 0)], [rdO (lf8 (6 + 4 * k)) 0, .cells [.d (tD []), .d nilV], .cells [.d (tD hitsT), .own 3], .sl 2 ((labsM.take k).map labR)]), fun k => 2 - k, ⟨0, by decide, ?_⟩, ?_⟩
  · all_goals refine ⟨[], ?_⟩
    repeat (any_goals (first | exact True.intro | exact rfl | with_reducible_and_instances rfl | exact (by kernel_rfl) | refine And.intro ?_ ?_))
    all_goals conv => whnf
  intro k hk
  have hk3 : k = 0 ∨ k = 1 ∨ k = 2 := by have : k ≤ 2 := hk; omega
  rcases hk3 with rfl | rfl | rfl
  · conv => whnf
    iterate 3
      repeat' (first | exact True.intro | ((first | refine And.intro (fun _ => ?_) tf | refine And.intro ft (fun _ => ?_) | refine And.intro (by kernel_rfl) ?_ | refine And.intro (by decide) ?_ | refine And.intro (fun _ => ?_) (fun h => absurd h (by decide)) | refine And.intro (fun h => absurd h (by decide)) (fun _ => ?_) | refine ⟨_, _, t1.at1 0 rfl rfl rfl, ?_⟩ | refine ⟨_, _, t2.at1 0 rfl rfl rfl, ?_⟩ | refine ⟨_, _, ap 2 32 (by kernel_rfl) rfl rfl (by simp), ?_⟩ | fail); conv => whnf) | (refine And.intro (fun _ => ?_) (fun _ => ?_) <;> conv => whnf) | fail)
      all_goals try (refine Or.inl ?_; conv => whnf)
    refine ⟨1, by decide, by decide, ?_⟩
    all_goals refine ⟨[(3, 5)], ?_⟩
    repeat (any_goals (first | exact True.intro | exact rfl | with_reducible_and_instances rfl | exact (by kernel_rfl) | refine And.intro ?_ ?_))
    all_goals conv => whnf
  · conv => whnf
    iterate 3
      repeat' (first | exact True.intro | ((first | refine And.intro (fun _ => ?_) tf | refine And.intro ft (fun _ => ?_) | refine And.intro (by kernel_rfl) ?_ | refine And.intro (by decide) ?_ | refine And.intro (fun _ => ?_) (fun h => absurd h (by decide)) | refine And.intro (fun h => absurd h (by decide)) (fun _ => ?_) | refine ⟨_, _, t3.at1 0 rfl rfl rfl, ?_⟩ | refine ⟨_, _, t4.at1 0 rfl rfl rfl, ?_⟩ | refine ⟨_, _, ap 2 32 (by kernel_rfl) rfl rfl (by simp [labsM]), ?_⟩ | fail); conv => whnf) | (refine And.intro (fun _ => ?_) (fun _ => ?_) <;> conv => whnf) | fail)
      all_goals try (refine Or.inl ?_; conv => whnf)
    refine ⟨2, by decide, by decide, ?_⟩
    all_goals refine ⟨[(3, 5)], ?_⟩
    repeat (any_goals (first | exact True.intro | exact rfl | with_reducible_and_instances rfl | exact (by kernel_rfl) | refine And.intro ?_ ?_))
    all_goals conv => whnf
  · conv => whnf
    iterate 5
      repeat' (first | exact True.intro | ((first | refine And.intro (fun _ => ?_) tf | refine And.intro ft (fun _ => ?_) | refine And.intro (by kernel_rfl) ?_ | refine And.intro (by decide) ?_ | refine And.intro (fun _ => ?_) (fun h => absurd h (by decide)) | refine And.intro (fun h => absurd h (by decide)) (fun _ => ?_) | refine ⟨_, _, e1.at1 0 rfl rfl rfl, ?_⟩ | refine ⟨_, _, r1.lendAgg rfl rfl, ?_⟩ | fail); conv => whnf) | (refine And.intro (fun _ => ?_) (fun _ => ?_) <;> conv => whnf) | fail)
      all_goals try (refine Or.inl ?_; conv => whnf)
    all_goals refine ⟨[], ?_⟩
    repeat (any_goals (first | exact True.intro | exact rfl | with_reducible_and_instances rfl | exact (by kernel_rfl) | refine And.intro ?_ ?_))
    all_goals conv => whnf
end Go.Proofs.YtpnbpcdmiiakcaaDoor
/- alive of the law 08, the whole. -/
namespace Go.Proofs.YtpnbpcdmiiakcaaDoor
set_option linter.unusedSimpArgs false
open Go.RowKit
set_option maxRecDepth 100000
set_option linter.unusedVariables false
def txM : Bt := [104, 105, 116, 115, 123, 97, 61, 49, 44, 98, 61, 50, 125]
def txN : Bt := [104, 105, 116, 115, 123, 98, 61, 50, 44, 97, 61, 49, 125]
theorem cmpNil (a : Ser) (nm : Bt) (hn : a.2.length ≤ 1000000) : Sat Tryd.prog 22 [.d (serD a), .d (.agg [tD nm, nilV])] [] (iA (serCmp a (nm, []))) [] :=
  (serCmp_sat a (nm, []) hn).pre fun w F ρ vs h => by
    cases h with | cons h1 h2 =>
    cases h2 with | cons h2 h3 =>
    cases h2 with | d h2 => exact .cons h1 (.cons (.d h2.nilAgg) h3)
set_option maxHeartbeats 8000000 in
theorem alive8 : Sat Tryd.prog 6 [] [] (bA true) [] := by
  have m1 := make_sat hitsT [([98], [50]), ([97], [49])]
  rw [show makeS hitsT [([98], [50]), ([97], [49])] = (serM, 0) by decide +kernel] at m1
  have m2 := make_sat hitsT [([97], []), ([97], [])]
  rw [show makeS hitsT [([97], []), ([97], [])] = (([], []), 18) by decide +kernel] at m2
  have p1 := parse_some txM serM (by decide) (by decide +kernel)
  have p2 := parse_none txN (by decide) (by decide +kernel)
  have g1 := get_sat serM [98] (by decide)
  rw [show getL serM.2 [98] = ([50], true) by decide +kernel] at g1
  have b1 := bytes_satS serM
  rw [show bytesS serM = bM8 by decide +kernel] at b1
  have n1 : Sat Tryd.prog 24 [.d (bsD bM8)] [] (.ptr 1 0) [.dead, rdO (lf8 0) 0] := newR_sat bM8 (by decide) (by decide)
  have rd := readM_sat
  have r1 := sRight_sat serM
  rw [show rightB serM = true by decide +kernel] at r1
  have t1 := text_satS serM
  rw [show textS serM = txM by decide +kernel] at t1
  have s1 := sameS_sat serM serM (by decide) (by decide)
  rw [decide_eq_true rfl] at s1
  have c1 := cmpNil serM hitsT (by decide)
  rw [show serCmp serM (hitsT, []) = 1 by decide +kernel] at c1
  refine sat_of_vc (T := tiOf Tryd.prog) (E := E0) Tryd.func6 rfl rfl hE0 hm0 rfl ?_
  conv => whnf
  iterate 4
    repeat' (first | exact True.intro | ((first | refine And.intro (fun _ => ?_) tf | refine And.intro ft (fun _ => ?_) | refine And.intro (by kernel_rfl) ?_ | refine And.intro (by decide) ?_ | refine And.intro (fun _ => ?_) (fun h => absurd h (by decide)) | refine And.intro (fun h => absurd h (by decide)) (fun _ => ?_) | refine ⟨_, _, frz_b m1 rfl rfl, ?_⟩ | refine ⟨_, _, frz_b m2 rfl rfl, ?_⟩ | refine ⟨_, _, p1.pu rfl rfl, ?_⟩ | refine ⟨_, _, p2.pu rfl rfl, ?_⟩ | refine ⟨_, _, g1.pu rfl rfl, ?_⟩ | refine ⟨_, _, b1.pu rfl rfl, ?_⟩ | refine ⟨_, _, n1.nw rfl, ?_⟩ | refine ⟨_, _, rd.at1 7 rfl rfl rfl, ?_⟩ | refine ⟨_, _, eqP (by kernel_rfl), ?_⟩ | refine ⟨_, _, eqN (by kernel_rfl), ?_⟩ | refine ⟨_, _, r1.pu rfl rfl, ?_⟩ | refine ⟨_, _, t1.pu rfl rfl, ?_⟩ | refine ⟨_, _, s1.pu rfl rfl, ?_⟩ | refine ⟨_, _, c1.pu rfl rfl, ?_⟩ | refine ⟨_, _, eqL', ?_⟩ | fail); conv => whnf) | (refine And.intro (fun _ => ?_) (fun _ => ?_) <;> conv => whnf) | fail)
    all_goals try (refine Or.inl ?_; conv => whnf)
  all_goals try (exfalso; simp only [decide_eq_true_eq, decide_eq_false_iff_not, Bool.not_eq_true', Bool.not_eq_false', Bool.not_eq_true, Bool.not_eq_false, beq_iff_eq, bne_iff_ne, beq_eq_false_iff_ne, bne_eq_false_iff_eq, ne_eq, Decidable.not_not] at *; first | omega | contradiction | (simp_all; done) | (simp_all; omega))
  all_goals refine ⟨[], ?_⟩
  repeat (any_goals (first | exact True.intro | exact rfl | with_reducible_and_instances rfl | exact (by kernel_rfl) | refine And.intro ?_ ?_))
  all_goals conv => whnf
end Go.Proofs.YtpnbpcdmiiakcaaDoor
/- label, in plain Lean: the order of series is one; the sort. -/
namespace Go.Proofs.YtpnbpcdmiiakcaaDoor
set_option linter.unusedSimpArgs false
set_option linter.unusedVariables false
open Go.RowKit
structure Cmp3 {α : Type} (f : α → α → Int) : Prop where
  rng : ∀ a b, f a b = -1 ∨ f a b = 0 ∨ f a b = 1
  neg : ∀ a b, f b a = - f a b
  eq : ∀ a b, f a b = 0 ↔ a = b
  tr : ∀ a b c, f a b ≤ 0 → f b c ≤ 0 → f a c ≤ 0
theorem ordB_tri (a b : Bt) : a < b ∨ a = b ∨ b < a := by
  by_cases h1 : a < b
  · exact .inl h1
  · by_cases h2 : b < a
    · exact .inr (.inr h2)
    · exact .inr (.inl (List.le_antisymm (List.not_lt.1 h2) (List.not_lt.1 h1)))
/-! ### the sort -/
theorem sinkR_perm (x : Lab) : ∀ r : List Lab, (sinkR x r).Perm (x :: r)
  | [] => .refl _
  | a :: r => by
    unfold sinkR
    split
    · exact ((sinkR_perm x r).cons a).trans (.swap x a r)
    · exact .refl _
theorem insR_perm : ∀ (l r : List Lab), (l.foldl (fun r x => sinkR x r) r).Perm (l ++ r)
  | [], r => .refl _
  | x :: l, r => by
    rw [List.foldl_cons]
    refine (insR_perm l _).trans ?_
    refine ((sinkR_perm x r).append_left l).trans ?_
    exact List.perm_middle
theorem insS_perm (l : List Lab) : (insS l).Perm l := by
  unfold insS insR
  refine (List.reverse_perm _).trans ?_
  have := insR_perm l []
  rwa [List.append_nil] at this
/-! ### strictly ascending names -/
def ascL (l : List Lab) : Prop := l.Pairwise fun a b => a.1 < b.1
theorem chkL_iff : ∀ (l : List Lab) (p : Option Bt), chkL p l = true ↔ (∀ x ∈ l, labB x = true) ∧ ascL l ∧ ∀ a, p = some a → ∀ x ∈ l, a < x.1
  | [], p => by simp [chkL, ascL]
  | y :: r, p => by
    have ih := chkL_iff r (some y.1)
    have e : chkL p (y :: r) = (labB y && ((match p with | none => true | some a => decide (a < y.1)) && chkL (some y.1) r)) := by cases p <;> rfl
    rw [e, Bool.and_eq_true, Bool.and_eq_true, ih]
    unfold ascL
    rw [List.pairwise_cons]
    constructor
    · rintro ⟨h1, h2, h3, h4, h5⟩
      refine ⟨fun x hx => ?_, ⟨h5 _ rfl, h4⟩, fun a ha x hx => ?_⟩
      · rcases List.mem_cons.1 hx with q | q
        · rw [q]; exact h1
        · exact h3 x q
      · subst ha
        have ha : a < y.1 := of_decide_eq_true h2
        rcases List.mem_cons.1 hx with q | q
        · rw [q]; exact ha
        · exact List.lt_trans ha (h5 _ rfl x q)
    · rintro ⟨h1, ⟨h2, h3⟩, h4⟩
      refine ⟨h1 y (List.mem_cons_self ..), ?_, fun x hx => h1 x (List.mem_cons_of_mem _ hx), h3, fun a ha x hx => ?_⟩
      · cases p with
        | none => rfl
        | some a => exact decide_eq_true (h4 a rfl y (List.mem_cons_self ..))
      · injection ha with ha
        rw [← ha]
        exact h2 x hx
theorem right_iff (s : Ser) : rightB s = true ↔ nameL s.1 = true ∧ s.2.length ≤ 8 ∧ (∀ x ∈ s.2, labB x = true) ∧ ascL s.2 := by
  unfold rightB
  rw [Bool.and_eq_true, Bool.and_eq_true, decide_eq_true_eq, chkL_iff]
  constructor
  · rintro ⟨h1, h2, h3, h4, _⟩
    exact ⟨h1, h2, h3, h4⟩
  · rintro ⟨h1, h2, h3, h4⟩
    exact ⟨h1, h2, h3, h4, fun a h => by cases h⟩
end Go.Proofs.YtpnbpcdmiiakcaaDoor
/- label, in plain Lean: a right series' text is parsed as it was; bytes tell the series. -/
namespace Go.Proofs.YtpnbpcdmiiakcaaDoor
set_option linter.unusedSimpArgs false
set_option linter.unusedVariables false
open Go.RowKit
theorem labB_out {x : Lab} (h : labB x = true) : nameL x.1 = true ∧ valueL x.2 = true := by
  unfold labB at h
  rw [Bool.and_eq_true] at h
  exact ⟨h.2, h.1⟩
/-! ### bytes -/
end Go.Proofs.YtpnbpcdmiiakcaaDoor
/- The document's Uint, Int, Text, Turn, Unturn. -/
namespace Go.Proofs.YtpnbpcdmiiakcaaDoor
open Go.RowKit
set_option linter.unusedVariables false
set_option linter.unusedSimpArgs false

theorem spell_more2 (u : Nat) : (128 + (u : Int) % 128) = (((UInt8.ofNat (128 + u % 128)).toNat : Nat) : Int) := by
  rw [UInt8.toNat_ofNat', Nat.mod_eq_of_lt (by omega)]
  omega
theorem bnd_le : ∀ (g f : Nat), f ≤ g → bnd f ≤ bnd g
  | 0, f, h => by obtain rfl : f = 0 := by omega
                  exact Nat.le_refl _
  | g + 1, f, h => by
    by_cases he : f = g + 1
    · subst he; exact Nat.le_refl _
    · have := bnd_le g f (by omega); simp only [bnd]; omega
set_option maxRecDepth 100000 in
theorem refUint_any (u : Nat) (w : World) (hu : u < 18446744073709551616) :
    Calls Tryd.prog 38 #[.int .u64 u] w fun e w' => ∃ v', e = .returned v' ∧ Ow w' w.heap.size 5 1 v' (enc u).length ((enc u).map bv) ∧ Below w.heap.size w w' := by
  obtain ⟨i0, hi0, hz0, hz1, hz2⟩ := info_parts Tryd.info8
  have HU := hide hu
  clear hu
  go_enter Tryd.func38, Tryd.ntmps38
  go_wp2
  go_loopw [0, 3] (fun x v wr => ∃ (f q m : Nat) (acc : List UInt8), x = .int .u64 q ∧ q < bnd f ∧ f ≤ 9 ∧ m + f + 1 ≤ 10 ∧ Ow wr w.heap.size 5 1 v m (acc.map bv) ∧ Hid (acc ++ encF f q = enc u) ∧ Below w.heap.size w wr) (fun x _ _ => (intOf x).toNat)
  case atStart => exact ⟨9, u, 0, [], rfl, by rw [bnd9]; exact HU.out, by omega, by omega, Ow.lit w #[] 0 (Nat.le_refl _) (by simp [maxLen]) rfl, hide rfl, (Below.refl _ _).alloc (Nat.le_refl _) _⟩
  case round =>
    obtain ⟨f, q, m, acc, rfl, hq, hf, hm, own, HE, hb⟩ := hrel
    by_cases h : q < 128
    · have he := HE.out
      rw [encF_small h] at he
      have HE2 := hide he
      clear he
      have hsp := spell_last q h
      have HS := hide hsp
      clear hsp
      have hcell : Rd (wr.alloc (.cells #[.int .u8 q] 5)) (wr.heap.size + 1) 1 (some ⟨wr.heap.size, 0, none⟩) 1 ([UInt8.ofNat q].map bv) := by
        rw [HS.out]
        exact RdB.lit wr [UInt8.ofNat q] 5 (0, 0) 1 rfl
      go_wp2_with (at_builtin; refine wpList_append_ow _ rfl (.tmp 16) (.tmp 19) _ rfl w.heap.size 5 i0 _ 1 1 Tryd.underlying41 hi0 hz0 hz1 hz2 rfl (by omega) _ m (acc.map bv) rfl (own.alloc _) (wr.heap.size + 1) (some ⟨wr.heap.size, 0, none⟩) 1 1 _ rfl hcell (bvs_one _) (by simp only [maxLen]; omega) (by omega) (by have := hb.size; simp; omega) ?_; intro v1 w1 hown1 hg1 hat1 hnn1)
      go_ret
      have hsum : m + 1 = (enc u).length := by
        have h1 := congrArg List.length HE2.out
        have h2 := own.1
        simp only [List.length_append, List.length_cons, List.length_nil, List.length_map, Nat.mul_one] at h1 h2
        omega
      refine ⟨_, rfl, ?_, (hb.alloc (by have := hb.size; omega) _).grown hg1 (by have := hb.size; simp; omega) (fun k hk => own.lt k hk)⟩
      rw [← HE2.out, List.map_append]
      rw [← HE2.out] at hsum
      rw [← hsum]
      exact hown1
    · match f with
      | 0 => simp only [bnd] at hq; omega
      | f + 1 =>
        have he := HE.out
        rw [encF_big h] at he
        have HE2 := hide he
        clear he HE
        have hwq : IntKind.u64.wrap ((q : Int) / 128) = (q : Int) / 128 := by
          have h1 := bnd_le 9 (f + 1) hf
          rw [bnd9] at h1
          rw [u64_wrap]; omega
        have HQ := hide hq
        clear hq
        have hsp := spell_more2 q
        have hcell : Rd (wr.alloc (.cells #[.int .u8 ((UInt8.ofNat (128 + q % 128)).toNat : Nat)] 5)) (wr.heap.size + 1) 1 (some ⟨wr.heap.size, 0, none⟩) 1 ([UInt8.ofNat (128 + q % 128)].map bv) :=
          RdB.lit wr [UInt8.ofNat (128 + q % 128)] 5 (0, 0) 1 rfl
        generalize UInt8.ofNat (128 + q % 128) = y at hsp hcell HE2
        rw [← hsp] at hcell
        have HSP := hide hsp
        clear hsp
        go_wp2_with (at_builtin; refine wpList_append_ow _ rfl (.tmp 7) (.tmp 12) _ rfl w.heap.size 5 i0 _ 1 1 Tryd.underlying41 hi0 hz0 hz1 hz2 rfl (by omega) _ m (acc.map bv) rfl (own.alloc _) (wr.heap.size + 1) (some ⟨wr.heap.size, 0, none⟩) 1 1 _ rfl hcell (bvs_one _) (by simp only [maxLen]; omega) (by omega) (by have := hb.size; simp; omega) ?_; intro v1 w1 hown1 hg1 hat1 hnn1)
        go_roundw
        case rel => exact ⟨f, q / 128, m + 1, acc ++ [y], by go_num, by have := HQ.out; simp only [bnd] at this; omega, by omega, by omega, by rw [List.map_append]; exact hown1, hide (by rw [List.append_assoc]; exact HE2.out), (hb.alloc (by have := hb.size; omega) _).grown hg1 (by have := hb.size; simp; omega) (fun k hk => own.lt k hk)⟩
        case measure => simp [intOf]; omega
theorem refText_any (s : ByteArray) (w : World) (hs : s.size ≤ 65536) :
    Calls Tryd.prog 37 #[.string s] w fun e w' => ∃ v', e = .returned v' ∧ Ow w' w.heap.size 5 1 v' (encT s).length ((encT s).map bv) ∧ Below w.heap.size w w' := by
  obtain ⟨i0, hi0, hz0, hz1, hz2⟩ := info_parts Tryd.info8
  have hw : IntKind.u64.wrap (s.size : Int) = s.size := by rw [u64_wrap]; omega
  have HEL := hide (show (enc s.size).length ≤ 10 from (encF_len 9 s.size).2)
  have HTL := hide (show (encT s).length = (enc s.size).length + s.size from by unfold encT; rw [List.length_append, size_toList])
  go_enter Tryd.func37, Tryd.ntmps37
  go_wp2_with (first
    | (go_at_call 38; refine (refUint_any s.size _ (by omega)).mono ?_; rintro e w1 ⟨v1, rfl, own1, hb1⟩)
    | (at_builtin; refine wpList_append_ow_str _ rfl (.tmp 6) (.tmp 7) _ _ rfl w.heap.size 5 i0 Tryd.underlying41 Tryd.underlying9 hi0 hz0 hz1 hz2 v1 _ _ rfl own1 s rfl (by have := HEL.out; simp only [maxLen]; omega) (by have := HEL.out; omega) hb1.size ?_; intro v2 w2 own2 hg2))
  go_ret
  rw [HTL.out]
  refine ⟨_, rfl, ?_, hb1.grown hg2 hb1.size (fun k hk => own1.lt k hk)⟩
  rw [encT, List.map_append]
  exact own2
end Go.Proofs.YtpnbpcdmiiakcaaDoor
/- label: the document's Bytes. -/
namespace Go.Proofs.YtpnbpcdmiiakcaaDoor
set_option linter.unusedSimpArgs false
open Go.RowKit
set_option maxRecDepth 100000
set_option linter.unusedVariables false
/-- A contract whose answer is a slice of its own, from flat arguments. -/
theorem Sat.ownNewF {P : Program} {g : FuncId} {args : List AV} {vals : List Value} {s : Nat} {rows : List (List D)} {us : List Value} {e : TypeId} (ha : FlatWs args vals) (hf : FlatVs rows.flatten us) (hs : ∀ r ∈ rows, r.length = s) (h0 : 0 < rows.length)
    (h : ∀ w : World, Calls P g vals.toArray w fun x w' => ∃ v, x = .returned v ∧ Ow w' w.heap.size e s v rows.length us ∧ Below w.heap.size w w') :
    Sat P g args [] (.own 0) [.sl s rows] := by
  intro F ρ w vals' En hv
  have := ha.eq hv
  subst this
  refine (h w).mono ?_
  rintro x w' ⟨v, rfl, how, hb⟩
  have hlt : ∀ k, blkOf v = some k → k < w'.heap.size := fun k hk => by
    obtain ⟨g, off, cap, rfl, _, hg, _⟩ := how.open_ h0
    injection hk with hk
    subst hk
    exact hg
  have hG : w.grownBy w' none := ⟨hb.os, hb.tape, hb.output, hb.size, fun b h _ => hb.block b h⟩
  have hnone : hp ([] : List AObj) 0 = none := rfl
  obtain ⟨A', c', he, g1, g2, hrd⟩ := how.form
  subst he
  have how0 : Ow w' 0 0 s (.slice A' rows.length c') rows.length us := ⟨how.1, by
    rcases how.2 with h | ⟨a, h, _, h'⟩ | ⟨g, off, cap, h, _, h'⟩
    · exact .inl h
    · exact .inr (.inl ⟨a, h, Nat.zero_le _, h'⟩)
    · exact .inr (.inr ⟨g, off, cap, h, Nat.zero_le _, h'⟩)⟩
  obtain ⟨S, K, E⟩ := En.new (n := 0) (o' := .sl s rows) (h := .slice A' rows.length c') hnone hG (fun b hb' => ⟨how.lt b (by rw [← blk_own rfl]; exact hb'), hlt b hb'⟩) ⟨_, how0, hf.rds, hs⟩
  have e : updF (hp []) 0 (some (.sl s rows)) = hp [.sl s rows] := by
    funext i
    match i with
    | 0 => rfl
    | i + 1 => rfl
  rw [e] at S E
  exact ⟨_, rfl, F, _, S, K, E, .own (updF_same _ _ _)⟩
theorem rUint_sat (n : Nat) (hn : n < 18446744073709551616) : Sat Tryd.prog 38 [.d (.v (.int .u64 (n : Int)))] [] (.own 0) [.sl 1 ((enc n).map bR)] :=
  .ownNewF (e := 5) (by repeat constructor) (bR_flats _) one_len (by rw [List.length_map]; exact (enc_lens n).1) fun w => by
    rw [List.length_map]
    exact refUint_any n w hn
theorem encT_L (x : Bt) : encT ⟨x.toArray⟩ = encTL x := by
  rfl
theorem rTextB_sat (x : Bt) (hn : x.length ≤ 65536) : Sat Tryd.prog 37 [.d (tD x)] [] (.own 0) [.sl 1 ((encTL x).map bR)] :=
  .ownNewF (e := 5) (by repeat constructor) (bR_flats _) one_len (by rw [List.length_map]; exact (encTL_len x).1) fun w => by
    rw [List.length_map, ← encT_L]
    exact refText_any ⟨x.toArray⟩ w (by rw [tsz]; exact hn)
set_option maxHeartbeats 4000000 in
theorem rBytes_satS (s : Ser) : Sat Tryd.prog 18 [.d (serD s)] [] (.d (bsD (bytesS s))) [] := by
  obtain ⟨nm, l⟩ := s
  have hl : (l.map labR).length = l.length := List.length_map _
  have r1 := rRight_sat (nm, l)
  show Sat _ _ _ _ (.d (bsD (if rightB (nm, l) = true then encTL nm ++ enc l.length ++ labsT l else []))) _
  cases hr : rightB (nm, l) with
  | false =>
    rw [hr] at r1
    rw [if_neg (by simp)]
    refine sat_of_vc (T := tiOf Tryd.prog) (E := E0) Tryd.func18 rfl rfl hE0 hm0 rfl ?_
    conv => whnf
    iterate 4
      repeat' (first | exact True.intro | ((first | refine And.intro (fun _ => ?_) tf | refine And.intro ft (fun _ => ?_) | refine And.intro (by kernel_rfl) ?_ | refine And.intro (by decide) ?_ | refine And.intro (fun _ => ?_) (fun h => absurd h (by decide)) | refine And.intro (fun h => absurd h (by decide)) (fun _ => ?_) | refine ⟨_, _, r1.pu rfl rfl, ?_⟩ | fail); conv => whnf) | (refine And.intro (fun _ => ?_) (fun _ => ?_) <;> conv => whnf) | fail)
      all_goals try (refine Or.inl ?_; conv => whnf)
    all_goals try (exfalso; simp only [decide_eq_true_eq, decide_eq_false_iff_not, Bool.not_eq_true', Bool.not_eq_false', Bool.not_eq_true, Bool.not_eq_false, beq_iff_eq, bne_iff_ne, beq_eq_false_iff_ne, bne_eq_false_iff_eq, ne_eq, Decidable.not_not] at *; first | omega | contradiction | (simp_all; done) | (simp_all; omega))
    all_goals refine ⟨[], ?_⟩
    repeat (any_goals (first | exact True.intro | exact rfl | with_reducible_and_instances rfl | exact (by kernel_rfl) | refine And.intro ?_ ?_))
    all_goals conv => whnf
  | true =>
  rw [hr] at r1
  rw [if_pos rfl]
  obtain ⟨q1, q2, q3⟩ := right_out hr
  have q2 : l.length ≤ 8 := q2
  have q3 : ∀ x ∈ l, labB x = true := q3
  have q4 : nm.length ≤ 64 := nameL_len q1
  have t1 := rTextB_sat nm (by omega)
  have hb1 := encTL_len nm
  have hb2 := enc_lens l.length
  have hu : IntKind.u64.wrap ((l.map labR).length : Int) = (l.length : Int) := by
    show ((l.map labR).length : Int) % 18446744073709551616 = _
    rw [hl]
    exact Int.emod_eq_of_lt (by omega) (by omega)
  have u2 : Sat Tryd.prog 38 [.d (.v (.int .u64 (IntKind.u64.wrap ((l.map labR).length : Int))))] [] (.own 0) [.sl 1 ((enc l.length).map bR)] := by
    rw [hu]; exact rUint_sat _ (by omega)
  refine sat_of_vc (T := tiOf Tryd.prog) (E := E0) Tryd.func18 rfl rfl hE0 hm0 rfl ?_
  conv => whnf
  iterate 3
    repeat' (first | exact True.intro | ((first | refine And.intro (fun _ => ?_) tf | refine And.intro ft (fun _ => ?_) | refine And.intro (by kernel_rfl) ?_ | refine And.intro (by decide) ?_ | refine And.intro (fun _ => ?_) (fun h => absurd h (by decide)) | refine And.intro (fun h => absurd h (by decide)) (fun _ => ?_) | refine ⟨_, _, r1.pu rfl rfl, ?_⟩ | refine ⟨_, _, t1.nw rfl, ?_⟩ | refine ⟨_, _, u2.nw rfl, ?_⟩ | refine ⟨_, _, ap1 rfl rfl (by omega), ?_⟩ | fail); conv => whnf) | (refine And.intro (fun _ => ?_) (fun _ => ?_) <;> conv => whnf) | fail)
    all_goals try (refine Or.inl ?_; conv => whnf)
  all_goals try (exfalso; simp only [decide_eq_true_eq, decide_eq_false_iff_not, Bool.not_eq_true', Bool.not_eq_false', Bool.not_eq_true, Bool.not_eq_false, beq_iff_eq, bne_iff_ne, beq_eq_false_iff_ne, bne_eq_false_iff_eq, ne_eq, Decidable.not_not] at *; first | omega | contradiction | (simp_all; done) | (simp_all; omega))
  refine ⟨Nat, fun i => i ≤ l.length, fun i => ([(4, iA i), (3, .own 1), (1, .ptr 0 0)], [.cells [.d (tD nm), .d (.sl 2 (l.map labR))], .sl 1 ((encTL nm ++ enc l.length ++ labsT (l.take i)).map bR)]), fun i => l.length - i, ⟨0, Nat.zero_le _, ?_⟩, ?_⟩
  · all_goals refine ⟨[(1, 3)], ?_⟩
    repeat (any_goals (first | exact True.intro | exact rfl | with_reducible_and_instances rfl | exact (by kernel_rfl) | refine And.intro ?_ ?_))
    all_goals conv => whnf
    show _ = AObj.sl 1 ((encTL nm ++ enc l.length ++ []).map bR)
    rw [List.append_nil]
  intro i hi
  have hi : i ≤ l.length := hi
  have hb := labsT_len (l := l.take i) fun x hx => q3 x (List.mem_of_mem_take hx)
  rw [List.length_take] at hb
  have hb3 : (encTL nm ++ enc l.length ++ labsT (l.take i)).length ≤ 2000 := by rw [List.length_append, List.length_append]; omega
  conv => whnf
  by_cases hlt : i < l.length
  · have hx : l[i]? = some l[i] := List.getElem?_eq_getElem hlt
    generalize l[i] = x at hx
    have hgx := map_get (f := labR) hx
    have hlb := labB_len (q3 x (List.mem_of_getElem? hx))
    have d1 : decide ((i : Int) < ((l.map labR).length : Nat)) = true := decide_eq_true (by rw [hl]; omega)
    have t2 := rTextB_sat x.1 (by omega)
    have t3 := rTextB_sat x.2 (by omega)
    have l1 := encTL_len x.1
    have l2 := encTL_len x.2
    have h1 : (encTL nm ++ enc l.length ++ labsT (l.take i)).length + (encTL x.1).length ≤ 100000 := by omega
    have h2 : (encTL nm ++ enc l.length ++ labsT (l.take i) ++ encTL x.1).length + (encTL x.2).length ≤ 100000 := by rw [List.length_append]; omega
    iterate 4
      repeat' (first | exact True.intro | ((first | refine ⟨i, _, rfl, hgx, ?_⟩ | refine And.intro (fun _ => ?_) tf | refine And.intro ft (fun _ => ?_) | refine And.intro (by kernel_rfl) ?_ | refine And.intro (by decide) ?_ | refine And.intro (fun _ => ?_) (fun h => absurd h (by decide)) | refine And.intro (fun h => absurd h (by decide)) (fun _ => ?_) | refine ⟨_, _, t2.nw rfl, ?_⟩ | refine ⟨_, _, t3.nw rfl, ?_⟩ | refine ⟨_, _, ap1 rfl rfl h1, ?_⟩ | refine ⟨_, _, ap1 rfl rfl h2, ?_⟩ | fail); conv => whnf) | (refine And.intro (fun _ => ?_) (fun _ => ?_) <;> conv => whnf) | fail)
      all_goals try (refine Or.inl ?_; conv => whnf)
    all_goals try exact (bnl d1 ‹_›).elim
    refine ⟨i + 1, hlt, show l.length - (i + 1) < l.length - i by omega, ?_⟩
    all_goals refine ⟨[(1, 5)], ?_⟩
    repeat (any_goals (first | exact True.intro | exact rfl | with_reducible_and_instances rfl | exact (by kernel_rfl) | refine And.intro ?_ ?_))
    all_goals conv => whnf
    · exact wk1 (by omega)
    · rw [labsT_next hx, ← List.append_assoc (encTL nm ++ enc l.length), ← List.append_assoc]
  · have d1 : decide ((i : Int) < ((l.map labR).length : Nat)) = false := decide_eq_false (by rw [hl]; omega)
    iterate 4
      repeat' (first | exact True.intro | ((first | refine And.intro (fun _ => ?_) tf | refine And.intro ft (fun _ => ?_) | refine And.intro (by kernel_rfl) ?_ | refine And.intro (by decide) ?_ | refine And.intro (fun _ => ?_) (fun h => absurd h (by decide)) | refine And.intro (fun h => absurd h (by decide)) (fun _ => ?_) | fail); conv => whnf) | (refine And.intro (fun _ => ?_) (fun _ => ?_) <;> conv => whnf) | fail)
      all_goals try (refine Or.inl ?_; conv => whnf)
    all_goals try exact (bnl ‹_› d1).elim
    all_goals refine ⟨[], ?_⟩
    repeat (any_goals (first | exact True.intro | exact rfl | with_reducible_and_instances rfl | exact (by kernel_rfl) | refine And.intro ?_ ?_))
    all_goals conv => whnf
    rw [List.take_of_length_le (by omega)]
end Go.Proofs.YtpnbpcdmiiakcaaDoor
