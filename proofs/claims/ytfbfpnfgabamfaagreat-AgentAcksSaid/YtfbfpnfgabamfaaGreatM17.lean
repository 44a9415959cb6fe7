/- Parts AgAk, Laid of the proof, put together. -/
import Derived.Test.YtfbfpnfgabamfaaGreatM16
import Derived.Test.YtfbfpnfgabamfaaGreatChecked
import Derived.Test.YtfbfpnfgabamfaaGreatRows
namespace Go.Proofs.YtfbfpnfgabamfaaGreat
set_option linter.unusedSimpArgs false
open Go.RowKit
set_option maxRecDepth 100000
set_option linter.unusedVariables false
def evsF (l : List Evt) : Fr := ⟨0, 0, 0, 0, 0, 0, 0, 0, 0, 0, l, ([], []), []⟩
abbrev evsX (l : List Evt) : List D := [iD 0, iD 0, iD 0, iD 0, iD 0, iD 0, iD 0, iD 0, iD 0, iD 0, .sl 4 (l.map evR), tD [], nilV, nilV]
theorem evsX_le (l : List Evt) : nilLe (evsX l) (frR (evsF l)) := by
  repeat' (first | exact trivial | refine And.intro ?_ ?_ | exact .inl rfl | exact .inr ⟨rfl, _, rfl⟩)
theorem evsF_ok {l : List Evt} (h : l.length ≤ 1000000) (h2 : ∀ x ∈ l, x.2.2.2.length ≤ 1000000) : FrOk (evsF l) := ⟨z64, z64, z64, z64, z64, z64, z64, z64, z64, z64, h, h2, by simp [evsF]⟩
theorem sameEv (l : List Evt) (h : l.length ≤ 1000000) (h2 : ∀ x ∈ l, x.2.2.2.length ≤ 1000000) : Sat Tryz.prog 25 [.d (.agg (evsX l)), .d (.agg (evsX l))] [] (bA true) [] := by
  have s := same_sat (evsF l) (evsF l) (evsF_ok h h2) (evsF_ok h h2)
  rw [sameB_iff.2 rfl] at s
  refine s.pre fun w F ρ vs hv => ?_
  cases hv with | cons h1 h3 =>
  cases h3 with | cons h3 h4 =>
  cases h1 with | d h1 =>
  cases h3 with | d h3 => exact .cons (.d (h1.nilLe (evsX_le l))) (.cons (.d (h3.nilLe (evsX_le l))) h4)
theorem take_ak {A : Ag} (hi : AgInv A) {E next : Int} (h : rightF (akF A.id E next) = true) : takeA A A.clock (encodeT (akF A.id E next)) = if A.boot = 0 then (A, 21) else ackA A (akF A.id E next) := by
  have hd := dec_bare (f := akF A.id E next) ⟨rfl, rfl, rfl⟩ h (small_len (k := 6) rfl (by decide) rfl)
  have hc := hi.clock
  by_cases hb : A.boot = 0
  · have ho : observeA A A.clock = (A, 21) := if_pos hb
    unfold takeA
    simp only
    rw [ho, if_pos hb, if_pos (show (21 : Nat) ≠ 0 by decide)]
  · have ho : observeA A A.clock = (A, 0) := by
      unfold observeA
      rw [if_neg hb, if_neg (by omega), Int.max_self]
    unfold takeA
    simp only
    rw [ho, hd, if_neg hb]
    simp only
    rw [if_neg (by decide), if_neg (by decide), if_neg (fun h => h.2.2 rfl), if_neg (fun h => h rfl)]
    unfold frameA
    rw [if_neg (show ¬ (akF A.id E next).k = 2 from (by decide : ¬ (6 : Int) = 2)), if_neg (show ¬ (akF A.id E next).k = 3 from (by decide : ¬ (6 : Int) = 3))]
set_option maxHeartbeats 32000000 in
theorem acks_sat (id most : Int) (l : List Cl) (next : Int) (other : Bool) (hid : in64 id) (hm : in64 most) (hl : ∀ c ∈ l, clIn c) (hn : in64 next) : Sat Tryz.prog 6 [iA id, iA most, .d (.sl 7 (l.map clR)), iA next, bA other] [] (bA true) [] := by
  have a1 := alive14
  have g1 := great14_sat l
  cases hg : greatC l with
  | true =>
    rw [hg] at g1
    refine sat_of_vc (T := tiOf Tryz.prog) (E := E0) Tryz.func6 rfl rfl hE0 hm0 rfl ?_
    conv => whnf
    iterate 4
      repeat' (first | exact True.intro | ((first | refine Yb fun _ => ?_ | refine Yc fun _ => ?_ | refine Ya (by kernel_rfl) ?_ | refine Ya (by decide) ?_ | refine Yd (by decide) fun _ => ?_ | refine Ye (by decide) fun _ => ?_ | refine ⟨_, _, a1.pu rfl rfl, ?_⟩ | refine ⟨_, _, g1.pu rfl rfl, ?_⟩); conv => whnf) | (refine Ya (fun _ => ?_) (fun _ => ?_) <;> conv => whnf))
      all_goals try (refine Or.inl ?_; conv => whnf)
    all_goals refine ⟨[], ?_⟩
    repeat (any_goals (first | exact True.intro | exact rfl | exact (by kernel_rfl) | refine Ya ?_ ?_))
    all_goals conv => whnf
  | false =>
  rw [hg] at g1
  obtain ⟨h60, hok⟩ := greatC_no hg hl
  by_cases hno : id < 0 ∨ 64 ≤ id ∨ most < 1 ∨ 1024 < most
  · have n1 := agNew_no id most hno
    refine sat_of_vc (T := tiOf Tryz.prog) (E := E0) Tryz.func6 rfl rfl hE0 hm0 rfl ?_
    conv => whnf
    iterate 6
      repeat' (first | exact True.intro | ((first | refine Yb fun _ => ?_ | refine Yc fun _ => ?_ | refine Ya (by kernel_rfl) ?_ | refine Ya (by decide) ?_ | refine Yd (by decide) fun _ => ?_ | refine Ye (by decide) fun _ => ?_ | refine ⟨_, _, a1.pu rfl rfl, ?_⟩ | refine ⟨_, _, g1.pu rfl rfl, ?_⟩ | refine ⟨_, _, n1.pu rfl rfl, ?_⟩ | refine ⟨_, _, eqN (by kernel_rfl), ?_⟩); conv => whnf) | (refine Ya (fun _ => ?_) (fun _ => ?_) <;> conv => whnf))
      all_goals try (refine Or.inl ?_; conv => whnf)
    all_goals refine ⟨[], ?_⟩
    repeat (any_goals (first | exact True.intro | exact rfl | exact (by kernel_rfl) | refine Ya ?_ ?_))
    all_goals conv => whnf
  have n1 := agNew_ok id most hno
  have hml : (l.map clR).length = l.length := List.length_map _
  have hi0 : AgInv (newA id most 0) := newA_inv ⟨by omega, by omega⟩ ⟨by omega, by omega⟩ ⟨by decide, by decide⟩
  refine sat_of_vc (T := tiOf Tryz.prog) (E := E0) Tryz.func6 rfl rfl hE0 hm0 rfl ?_
  conv => whnf
  iterate 6
    repeat' (first | exact True.intro | ((first | refine Yb fun _ => ?_ | refine Yc fun _ => ?_ | refine Ya (by kernel_rfl) ?_ | refine Ya (by decide) ?_ | refine Yd (by decide) fun _ => ?_ | refine Ye (by decide) fun _ => ?_ | refine ⟨_, _, a1.pu rfl rfl, ?_⟩ | refine ⟨_, _, g1.pu rfl rfl, ?_⟩ | refine ⟨_, _, n1.nw rfl, ?_⟩ | refine ⟨_, _, eqP (by kernel_rfl), ?_⟩); conv => whnf) | (refine Ya (fun _ => ?_) (fun _ => ?_) <;> conv => whnf))
    all_goals try (refine Or.inl ?_; conv => whnf)
  refine ⟨Nat × Ag, fun z => z.1 ≤ l.length ∧ z.2 = playA (newA id most 0) (l.take z.1), fun z => ([(13, iA z.1), (11, .ptr 0 0), (4, bA other), (3, iA next), (2, .d (.sl 7 (l.map clR))), (0, iA id)], agH z.2), fun z => l.length - z.1, ⟨(0, newA id most 0), ⟨Nat.zero_le _, rfl⟩, ?_⟩, ?_⟩
  · all_goals refine ⟨[], ?_⟩
    repeat (any_goals (first | exact True.intro | exact rfl | exact (by kernel_rfl) | refine Ya ?_ ?_))
    all_goals conv => whnf
  rintro ⟨i, A⟩ ⟨hi, hA⟩
  have hi : i ≤ l.length := hi
  have hA : A = playA (newA id most 0) (l.take i) := hA
  have hii : AgInv A := by rw [hA]; exact play_take hi0 hok i
  by_cases hlt : i < l.length
  · have hx : l[i]? = some l[i] := List.getElem?_eq_getElem hlt
    generalize l[i] = x at hx
    have hgx := map_get (f := clR) hx
    have hox := hok x (List.mem_of_getElem? hx)
    have hnx := playA_next (a := newA id most 0) hx
    rw [← hA] at hnx
    have d1 : decide ((i : Int) < ((l.map clR).length : Nat)) = true := decide_eq_true (by rw [hml]; omega)
    have q1 := do_sat _ hii x hox
    conv => whnf
    iterate 5
      repeat' (first | exact True.intro | ((first | refine ⟨i, _, rfl, hgx, ?_⟩ | refine Yb fun _ => ?_ | refine Yc fun _ => ?_ | refine Ya (by kernel_rfl) ?_ | refine Ya (by decide) ?_ | refine Yd (by decide) fun _ => ?_ | refine Ye (by decide) fun _ => ?_ | refine ⟨_, _, q1.at3 0 1 2 rfl rfl rfl rfl rfl rfl, ?_⟩); conv => whnf) | (refine Ya (fun _ => ?_) (fun _ => ?_) <;> conv => whnf))
      all_goals try (refine Or.inl ?_; conv => whnf)
    all_goals try exact (bnl d1 ‹_›).elim
    refine ⟨(i + 1, doA A x), ⟨hlt, hnx.symm⟩, show l.length - (i + 1) < l.length - i by omega, ?_⟩
    all_goals refine ⟨[(1, 3), (2, 4)], ?_⟩
    repeat (any_goals (first | exact True.intro | exact rfl | exact (by kernel_rfl) | refine Ya ?_ ?_))
    all_goals conv => whnf
    exact wk1 (by omega)
  have d1 : decide ((i : Int) < ((l.map clR).length : Nat)) = false := decide_eq_false (by rw [hml]; omega)
  have hpi := (play_id (l.take i) (newA id most 0)).1
  rw [← hA] at hpi
  have hpi : A.id = id := hpi
  clear hA hi hlt
  subst hpi
  have he := hii.epoch
  have hb := hii.boot
  have hwe : IntKind.i64.wrap (A.epoch + 1) = A.epoch + 1 := wi (by omega) (by omega)
  obtain ⟨E, hE, hE2⟩ : ∃ E : Int, E = (if other = true then A.epoch + 1 else A.epoch) ∧ in64 E := ⟨_, rfl, by split <;> exact ⟨by omega, by omega⟩⟩
  have e1 := agEpoch_sat A
  cases hr : rightF (akF A.id E next) with
  | false =>
    have e2 := akF_bad hid hE2 hn hr
    cases other with
    | true =>
      have hE : E = A.epoch + 1 := hE
      rw [hE, ← hwe] at e2
      conv => whnf
      iterate 8
        repeat' (first | exact True.intro | ((first | refine Yb fun _ => ?_ | refine Yc fun _ => ?_ | refine Ya (by kernel_rfl) ?_ | refine Ya (by decide) ?_ | refine Yd (by decide) fun _ => ?_ | refine Ye (by decide) fun _ => ?_ | refine ⟨_, _, e1.at3 0 1 2 rfl rfl rfl rfl rfl rfl, ?_⟩ | refine ⟨_, _, e2.pu rfl rfl, ?_⟩); conv => whnf) | (refine Ya (fun _ => ?_) (fun _ => ?_) <;> conv => whnf))
        all_goals try (refine Or.inl ?_; conv => whnf)
      all_goals try exact (bnl ‹_› d1).elim
      all_goals refine ⟨[], ?_⟩
      repeat (any_goals (first | exact True.intro | exact rfl | exact (by kernel_rfl) | refine Ya ?_ ?_))
      all_goals conv => whnf
    | false =>
      have hE : E = A.epoch := hE
      rw [hE] at e2
      conv => whnf
      iterate 8
        repeat' (first | exact True.intro | ((first | refine Yb fun _ => ?_ | refine Yc fun _ => ?_ | refine Ya (by kernel_rfl) ?_ | refine Ya (by decide) ?_ | refine Yd (by decide) fun _ => ?_ | refine Ye (by decide) fun _ => ?_ | refine ⟨_, _, e1.at3 0 1 2 rfl rfl rfl rfl rfl rfl, ?_⟩ | refine ⟨_, _, e2.pu rfl rfl, ?_⟩); conv => whnf) | (refine Ya (fun _ => ?_) (fun _ => ?_) <;> conv => whnf))
        all_goals try (refine Or.inl ?_; conv => whnf)
      all_goals try exact (bnl ‹_› d1).elim
      all_goals refine ⟨[], ?_⟩
      repeat (any_goals (first | exact True.intro | exact rfl | exact (by kernel_rfl) | refine Ya ?_ ?_))
      all_goals conv => whnf
  | true =>
  obtain ⟨ro1, ro2, ro3⟩ := akF_only hr
  have hkl : A.kept.length ≤ 1024 := by have := hii.len; have := hii.most; omega
  have hmk : (A.kept.map evR).length = A.kept.length := List.length_map _
  have hll : ∀ x ∈ A.kept, x.2.2.2.length ≤ 1000 := fun x hx => by have := lab_len hii hx; omega
  have hfi := hii.first
  have hse := hii.seq
  have hfd : firstA A = A.seq - (A.kept.length : Int) := rfl
  have e2 := fun (L : List AObj) (n : Nat) => encD (f := akF A.id E next) ⟨rfl, rfl, rfl⟩ (akF_ok hid hE2 hn) hr (small_len (k := 6) rfl (by decide) rfl) L n
  have k1 := kept_sat A (by omega) hll
  have f1 := agFirst_sat A ⟨by omega, by omega⟩
  have c1 := agClock_sat A
  have t1 := take_satA A A.clock (encodeT (akF A.id E next)) hfi hse (by omega)
  have hta := take_ak hii hr
  have dff : (firstA A == firstA A) = true := by simp
  have dll : ((((A.kept.map evR).length : Nat) : Int) == ((A.kept.map evR).length : Int)) = true := by simp
  have b1 := agBoot_sat A
  have s1 := agSeq_sat A
  have tE : ∀ {e : Nat}, (if A.boot = 0 then (A, 21) else ackA A (akF A.id E next)) = (A, e) → Sat Tryz.prog 27 [.ptr 0 0, iA A.clock, .d (bsD (encodeT (akF A.id E next)))] (agH A) (iA e) (agH2 A) := fun {e} h => by have := t1; rw [hta, h] at this; exact this
  cases other with
  | true =>
    have hE : E = A.epoch + 1 := hE
    subst hE
    have t1 : ∃ e : Nat, e ≠ 0 ∧ Sat Tryz.prog 27 [.ptr 0 0, iA A.clock, .d (bsD (encodeT (akF A.id (A.epoch + 1) next)))] (agH A) (iA e) (agH2 A) := by
      by_cases hb0 : A.boot = 0
      · exact ⟨21, by decide, tE (if_pos hb0)⟩
      · exact ⟨22, by decide, tE (by rw [if_neg hb0]; unfold ackA; rw [if_pos (.inr (show A.epoch + 1 ≠ A.epoch by omega))])⟩
    obtain ⟨e, he0, t1⟩ := t1
    have d2 := ne0 he0
    conv => whnf
    iterate 16
      repeat' (first | exact True.intro | ((first | rw [hwe] | refine Yb fun _ => ?_ | refine Yc fun _ => ?_ | refine Ya (by kernel_rfl) ?_ | refine Ya (by decide) ?_ | refine Yd (by decide) fun _ => ?_ | refine Ye (by decide) fun _ => ?_ | refine ⟨_, _, e1.at3 0 1 2 rfl rfl rfl rfl rfl rfl, ?_⟩ | refine ⟨_, _, e2 _ _, ?_⟩ | refine ⟨_, _, CallOK.frzO (k1.at3 0 1 2 rfl rfl rfl rfl rfl rfl), ?_⟩ | refine ⟨_, _, f1.at3 0 1 2 rfl rfl rfl rfl rfl rfl, ?_⟩ | refine ⟨_, _, c1.at3 0 1 2 rfl rfl rfl rfl rfl rfl, ?_⟩ | refine ⟨_, _, t1.at3 0 1 2 rfl rfl rfl rfl rfl rfl, ?_⟩ | refine ⟨_, _, CallOK.frzO (k1.at3 0 5 6 rfl rfl rfl rfl rfl rfl), ?_⟩ | refine ⟨_, _, f1.at3 0 5 6 rfl rfl rfl rfl rfl rfl, ?_⟩ | refine ⟨_, _, b1.at3 0 5 6 rfl rfl rfl rfl rfl rfl, ?_⟩ | refine ⟨_, _, e1.at3 0 5 6 rfl rfl rfl rfl rfl rfl, ?_⟩); conv => whnf) | (refine Ya (fun _ => ?_) (fun _ => ?_) <;> conv => whnf))
      all_goals try (refine Or.inl ?_; conv => whnf)
    all_goals try exact (bnl ‹_› d1).elim
    all_goals try exact (bnl d2 ‹_›).elim
    all_goals try exact (bnl dff ‹_›).elim
    all_goals try exact (bnl dll ‹_›).elim
    all_goals refine ⟨[], ?_⟩
    repeat (any_goals (first | exact True.intro | exact rfl | exact (by kernel_rfl) | refine Ya ?_ ?_))
    all_goals conv => whnf
  | false =>
  have hE : E = A.epoch := hE
  subst hE
  by_cases hb0 : A.boot = 0
  · have t1 := tE (e := 21) (if_pos hb0)
    have d3 : (A.boot == 0) = true := by rw [beq_iff_eq]; exact hb0
    conv => whnf
    iterate 16
      repeat' (first | exact True.intro | ((first | refine Yb fun _ => ?_ | refine Yc fun _ => ?_ | refine Ya (by kernel_rfl) ?_ | refine Ya (by decide) ?_ | refine Yd (by decide) fun _ => ?_ | refine Ye (by decide) fun _ => ?_ | refine ⟨_, _, e1.at3 0 1 2 rfl rfl rfl rfl rfl rfl, ?_⟩ | refine ⟨_, _, e2 _ _, ?_⟩ | refine ⟨_, _, CallOK.frzO (k1.at3 0 1 2 rfl rfl rfl rfl rfl rfl), ?_⟩ | refine ⟨_, _, f1.at3 0 1 2 rfl rfl rfl rfl rfl rfl, ?_⟩ | refine ⟨_, _, c1.at3 0 1 2 rfl rfl rfl rfl rfl rfl, ?_⟩ | refine ⟨_, _, t1.at3 0 1 2 rfl rfl rfl rfl rfl rfl, ?_⟩ | refine ⟨_, _, CallOK.frzO (k1.at3 0 5 6 rfl rfl rfl rfl rfl rfl), ?_⟩ | refine ⟨_, _, f1.at3 0 5 6 rfl rfl rfl rfl rfl rfl, ?_⟩ | refine ⟨_, _, b1.at3 0 5 6 rfl rfl rfl rfl rfl rfl, ?_⟩); conv => whnf) | (refine Ya (fun _ => ?_) (fun _ => ?_) <;> conv => whnf))
      all_goals try (refine Or.inl ?_; conv => whnf)
    all_goals try exact (bnl ‹_› d1).elim
    all_goals try exact (bnl dff ‹_›).elim
    all_goals try exact (bnl dll ‹_›).elim
    all_goals try exact (bnl d3 ‹_›).elim
    all_goals refine ⟨[], ?_⟩
    repeat (any_goals (first | exact True.intro | exact rfl | exact (by kernel_rfl) | refine Ya ?_ ?_))
    all_goals conv => whnf
  have d3 : (A.boot == 0) = false := by rw [beqI, decide_eq_false hb0]
  by_cases he0 : A.epoch = 0
  · have t1 := tE (e := 22) (by rw [if_neg hb0]; unfold ackA; rw [if_pos (.inl he0)])
    have d4 : (A.epoch == 0) = true := by rw [beq_iff_eq]; exact he0
    conv => whnf
    iterate 16
      repeat' (first | exact True.intro | ((first | refine Yb fun _ => ?_ | refine Yc fun _ => ?_ | refine Ya (by kernel_rfl) ?_ | refine Ya (by decide) ?_ | refine Yd (by decide) fun _ => ?_ | refine Ye (by decide) fun _ => ?_ | refine ⟨_, _, e1.at3 0 1 2 rfl rfl rfl rfl rfl rfl, ?_⟩ | refine ⟨_, _, e2 _ _, ?_⟩ | refine ⟨_, _, CallOK.frzO (k1.at3 0 1 2 rfl rfl rfl rfl rfl rfl), ?_⟩ | refine ⟨_, _, f1.at3 0 1 2 rfl rfl rfl rfl rfl rfl, ?_⟩ | refine ⟨_, _, c1.at3 0 1 2 rfl rfl rfl rfl rfl rfl, ?_⟩ | refine ⟨_, _, t1.at3 0 1 2 rfl rfl rfl rfl rfl rfl, ?_⟩ | refine ⟨_, _, CallOK.frzO (k1.at3 0 5 6 rfl rfl rfl rfl rfl rfl), ?_⟩ | refine ⟨_, _, f1.at3 0 5 6 rfl rfl rfl rfl rfl rfl, ?_⟩ | refine ⟨_, _, b1.at3 0 5 6 rfl rfl rfl rfl rfl rfl, ?_⟩ | refine ⟨_, _, e1.at3 0 5 6 rfl rfl rfl rfl rfl rfl, ?_⟩); conv => whnf) | (refine Ya (fun _ => ?_) (fun _ => ?_) <;> conv => whnf))
      all_goals try (refine Or.inl ?_; conv => whnf)
    all_goals try exact (bnl ‹_› d1).elim
    all_goals try exact (bnl dff ‹_›).elim
    all_goals try exact (bnl dll ‹_›).elim
    all_goals try exact (bnl ‹_› d3).elim
    all_goals try exact (bnl d4 ‹_›).elim
    all_goals refine ⟨[], ?_⟩
    repeat (any_goals (first | exact True.intro | exact rfl | exact (by kernel_rfl) | refine Ya ?_ ?_))
    all_goals conv => whnf
  have d4 : (A.epoch == 0) = false := by rw [beqI, decide_eq_false he0]
  by_cases hsn : A.seq < next
  · have t1 := tE (e := 11) (by rw [if_neg hb0]; unfold ackA; rw [if_neg (fun h => h.elim he0 (fun q => q rfl)), if_pos (show A.seq < (akF A.id A.epoch next).n from hsn)])
    have d5 : decide (next > A.seq) = true := decide_eq_true hsn
    conv => whnf
    iterate 16
      repeat' (first | exact True.intro | ((first | refine Yb fun _ => ?_ | refine Yc fun _ => ?_ | refine Ya (by kernel_rfl) ?_ | refine Ya (by decide) ?_ | refine Yd (by decide) fun _ => ?_ | refine Ye (by decide) fun _ => ?_ | refine ⟨_, _, e1.at3 0 1 2 rfl rfl rfl rfl rfl rfl, ?_⟩ | refine ⟨_, _, e2 _ _, ?_⟩ | refine ⟨_, _, CallOK.frzO (k1.at3 0 1 2 rfl rfl rfl rfl rfl rfl), ?_⟩ | refine ⟨_, _, f1.at3 0 1 2 rfl rfl rfl rfl rfl rfl, ?_⟩ | refine ⟨_, _, c1.at3 0 1 2 rfl rfl rfl rfl rfl rfl, ?_⟩ | refine ⟨_, _, t1.at3 0 1 2 rfl rfl rfl rfl rfl rfl, ?_⟩ | refine ⟨_, _, CallOK.frzO (k1.at3 0 5 6 rfl rfl rfl rfl rfl rfl), ?_⟩ | refine ⟨_, _, f1.at3 0 5 6 rfl rfl rfl rfl rfl rfl, ?_⟩ | refine ⟨_, _, b1.at3 0 5 6 rfl rfl rfl rfl rfl rfl, ?_⟩ | refine ⟨_, _, e1.at3 0 5 6 rfl rfl rfl rfl rfl rfl, ?_⟩ | refine ⟨_, _, s1.at3 0 5 6 rfl rfl rfl rfl rfl rfl, ?_⟩); conv => whnf) | (refine Ya (fun _ => ?_) (fun _ => ?_) <;> conv => whnf))
      all_goals try (refine Or.inl ?_; conv => whnf)
    all_goals try exact (bnl ‹_› d1).elim
    all_goals try exact (bnl dff ‹_›).elim
    all_goals try exact (bnl dll ‹_›).elim
    all_goals try exact (bnl ‹_› d3).elim
    all_goals try exact (bnl ‹_› d4).elim
    all_goals refine ⟨[], ?_⟩
    repeat (any_goals (first | exact True.intro | exact rfl | exact (by kernel_rfl) | refine Ya ?_ ?_))
    all_goals conv => whnf
    all_goals exact congrArg (fun z => bA z) d5
  have hak : (if A.boot = 0 then (A, 21) else ackA A (akF A.id A.epoch next)) = ({ A with kept := A.kept.drop (next - firstA A).toNat }, 0) := by
    rw [if_neg hb0]; unfold ackA
    rw [if_neg (fun h => h.elim he0 (fun q => q rfl)), if_neg (show ¬ A.seq < (akF A.id A.epoch next).n from hsn)]
    rfl
  rw [hta, hak] at t1
  generalize hG : (next - firstA A).toNat = G at *
  have hGl : G ≤ A.kept.length := by omega
  have hwn : IntKind.i64.wrap (next - firstA A) = next - firstA A := wi (by omega) (by omega)
  have hmx : (if (0 : Int) > IntKind.i64.wrap (next - firstA A) then (0 : Int) else IntKind.i64.wrap (next - firstA A)) = (G : Int) := by rw [hwn]; split <;> omega
  have d5 : decide ((G : Int) > ((A.kept.map evR).length : Int)) = false := decide_eq_false (by rw [hmk]; omega)
  have hF2 : firstA { A with kept := A.kept.drop G } = firstA A + G := by show A.seq - ((A.kept.drop G).length : Int) = _; rw [List.length_drop]; omega
  have k2 := kept_sat { A with kept := A.kept.drop G } (by show (A.kept.drop G).length ≤ _; rw [List.length_drop]; omega) (fun x hx => hll x (List.mem_of_mem_drop hx))
  have f2 := agFirst_sat { A with kept := A.kept.drop G } (by rw [hF2]; exact ⟨by omega, by omega⟩)
  rw [hF2] at f2
  have d6 : ((firstA A + G) == (if next > firstA A then next else firstA A)) = true := by rw [beq_iff_eq]; split <;> omega
  have sv := sameEv (A.kept.drop G) (by rw [List.length_drop]; omega) (fun x hx => by have := hll x (List.mem_of_mem_drop hx); omega)
  have hdm : (A.kept.map evR).drop G = (A.kept.drop G).map evR := (List.map_drop).symm
  conv => whnf
  iterate 18
    repeat' (first | exact True.intro | ((first | rw [hmx] | rw [hdm] | refine Yb fun _ => ?_ | refine Yc fun _ => ?_ | refine Ya (by kernel_rfl) ?_ | refine Ya (by decide) ?_ | refine Yd (by decide) fun _ => ?_ | refine Ye (by decide) fun _ => ?_ | refine ⟨_, _, e1.at3 0 1 2 rfl rfl rfl rfl rfl rfl, ?_⟩ | refine ⟨_, _, e2 _ _, ?_⟩ | refine ⟨_, _, CallOK.frzO (k1.at3 0 1 2 rfl rfl rfl rfl rfl rfl), ?_⟩ | refine ⟨_, _, f1.at3 0 1 2 rfl rfl rfl rfl rfl rfl, ?_⟩ | refine ⟨_, _, c1.at3 0 1 2 rfl rfl rfl rfl rfl rfl, ?_⟩ | refine ⟨_, _, t1.at3 0 1 2 rfl rfl rfl rfl rfl rfl, ?_⟩ | refine ⟨_, _, CallOK.frzO (k2.at3 0 5 6 rfl rfl rfl rfl rfl rfl), ?_⟩ | refine ⟨_, _, f2.at3 0 5 6 rfl rfl rfl rfl rfl rfl, ?_⟩ | refine ⟨_, _, from_d (lo := G) 4 56 (by kernel_rfl) (by rw [hmk]; exact hGl), ?_⟩ | refine ⟨_, _, sv.pu rfl rfl, ?_⟩); conv => whnf) | (refine Ya (fun _ => ?_) (fun _ => ?_) <;> conv => whnf))
    all_goals try (refine Or.inl ?_; conv => whnf)
  all_goals try exact (bnl ‹_› d1).elim
  all_goals try exact (bnl ‹_› d5).elim
  all_goals try exact (bnl d6 ‹_›).elim
  all_goals refine ⟨[], ?_⟩
  repeat (any_goals (first | exact True.intro | exact rfl | exact (by kernel_rfl) | refine Ya ?_ ?_))
  all_goals conv => whnf
end Go.Proofs.YtfbfpnfgabamfaaGreat
namespace Go.Proofs.YtfbfpnfgabamfaaGreat
set_option linter.unusedSimpArgs false
set_option linter.unusedVariables false
open Go.RowKit
theorem own : ownKnob Tryz.prog.godebug = none := by kernel_rfl
theorem laidOut : laidOutB Tryz.prog = true := by kernel_rfl
end Go.Proofs.YtfbfpnfgabamfaaGreat
