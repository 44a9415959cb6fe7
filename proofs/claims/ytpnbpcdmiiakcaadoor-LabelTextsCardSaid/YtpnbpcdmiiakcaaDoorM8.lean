/- Parts LaK, LaL, LaM, LaN, LaO, LaP, LaQ, LaR, LaX, CodeI, LaU, LaV of the proof, put together. -/
import Derived.Test.YtpnbpcdmiiakcaaDoorM7
import Derived.RangeFuncNested
import Derived.RangeFuncBound
import Derived.RangeFuncCalls
import Derived.RangeFuncLeaves
import Derived.OwnWalkIn
import Derived.TacticsInMore
import Derived.LoopNIn
import Derived.LoopIn
import Derived.Lib.IndexLaws
/- label: a series as bytes, by the program. -/
namespace Go.Proofs.YtpnbpcdmiiakcaaDoor
set_option linter.unusedSimpArgs false
open Go.RowKit
set_option maxRecDepth 100000
set_option linter.unusedVariables false
def encTL (x : Bt) : Bt := enc x.length ++ x
def labsT (l : List Lab) : Bt := (l.map fun x => encTL x.1 ++ encTL x.2).flatten
def bytesS (s : Ser) : Bt := if rightB s = true then encTL s.1 ++ enc s.2.length ++ labsT s.2 else []
theorem encTL_len (x : Bt) : 1 ≤ (encTL x).length ∧ (encTL x).length ≤ 10 + x.length := by
  unfold encTL
  rw [List.length_append]
  have : 1 ≤ (enc x.length).length ∧ (enc x.length).length ≤ 10 := encF_len 9 x.length
  omega
theorem labsT_len : ∀ {l : List Lab}, (∀ x ∈ l, labB x = true) → (labsT l).length ≤ 148 * l.length
  | [], _ => by simp [labsT]
  | x :: r, h => by
    have h0 := labB_len (h x (List.mem_cons_self ..))
    have h1 := encTL_len x.1
    have h3 := encTL_len x.2
    have h2 := labsT_len (l := r) fun y hy => h y (List.mem_cons_of_mem _ hy)
    show (encTL x.1 ++ encTL x.2 ++ labsT r).length ≤ _
    rw [List.length_append, List.length_append, List.length_cons]
    omega
theorem labsT_next {l : List Lab} {i : Nat} {x : Lab} (hx : l[i]? = some x) : labsT (l.take (i + 1)) = labsT (l.take i) ++ (encTL x.1 ++ encTL x.2) := by
  unfold labsT
  rw [map_take_succ hx]; simp
theorem texts1 (x : Bt) (h : x.length ≤ 65536) : Sat Tryd.prog 35 [.d (.sl 1 [[tD x]])] [] (.own 0) [.sl 1 ((encTL x).map bR)] := by
  have e : encTs [⟨x.toArray⟩] = encTL x := by
    unfold encTs encT encTL
    simp only [List.map_cons, List.map_nil, List.flatten_cons, List.flatten_nil, List.append_nil]
    rfl
  have := texts_sat [⟨x.toArray⟩] (by simp) (fun y hy => by rw [List.mem_singleton.1 hy]; exact h) (by rw [e]; have := encTL_len x; omega)
  rwa [e] at this
theorem texts2 (x y : Bt) (h : x.length ≤ 65536) (h2 : y.length ≤ 65536) : Sat Tryd.prog 35 [.d (.sl 1 [[tD x], [tD y]])] [] (.own 0) [.sl 1 ((encTL x ++ encTL y).map bR)] := by
  have e : encTs [⟨x.toArray⟩, ⟨y.toArray⟩] = encTL x ++ encTL y := by
    unfold encTs encT encTL
    simp only [List.map_cons, List.map_nil, List.flatten_cons, List.flatten_nil, List.append_nil]
    rfl
  have := texts_sat [⟨x.toArray⟩, ⟨y.toArray⟩] (by simp) (fun z hz => by
    simp only [List.mem_cons, List.not_mem_nil, or_false] at hz
    rcases hz with rfl | rfl
    · exact h
    · exact h2) (by rw [e, List.length_append]; have := encTL_len x; omega)
  rwa [e] at this
theorem uints1 (n : Nat) (h : n ≤ 1000) : Sat Tryd.prog 36 [.d (.sl 1 [uR n])] [] (.own 0) [.sl 1 ((enc n).map bR)] := by
  have e : encs [n] = enc n := by unfold encs; simp
  have hl : 1 ≤ (enc n).length ∧ (enc n).length ≤ 10 := encF_len 9 n
  have := uints_sat [n] (by simp) (fun y hy => by rw [List.mem_singleton.1 hy]; omega) (by rw [e]; omega)
  rwa [e] at this
theorem enc_lens (n : Nat) : 1 ≤ (enc n).length ∧ (enc n).length ≤ 10 := encF_len 9 n
theorem ap1 {L : List AObj} {ty n i j : Nat} {sx xx : Operand} {a b : Bt} (hi : L[i]? = some (.sl 1 (a.map bR))) (hj : L[j]? = some (.sl 1 (b.map bR))) (hb : a.length + b.length ≤ 100000) : Does Tryd.prog (.call { callee := .builtin .append, args := #[sx, xx], argTypes := #[41, 41] }) ty L n [.own i, .own j] ⟨[i, j], [(i, .dead)], [.sl 1 ((a ++ b).map bR)]⟩ (.own n) := by
  have := ap (P := Tryd.prog) (t := 41) (L := L) (ty := ty) (n := n) (i := i) (j := j) (sx := sx) (xx := xx) 1 1 (by kernel_rfl) hi hj (by rw [List.length_map, List.length_map]; omega)
  rwa [← List.map_append] at this
set_option maxHeartbeats 4000000 in
theorem bytes_satS (s : Ser) : Sat Tryd.prog 17 [.d (serD s)] [] (.d (bsD (bytesS s))) [] := by
  obtain ⟨nm, l⟩ := s
  have hl : (l.map labR).length = l.length := List.length_map _
  have r1 := sRight_sat (nm, l)
  unfold bytesS
  cases hr : rightB (nm, l) with
  | false =>
    rw [hr] at r1
    rw [if_neg (by simp)]
    refine sat_of_vc (T := tiOf Tryd.prog) (E := E0) Tryd.func17 rfl rfl hE0 hm0 rfl ?_
    conv => whnf
    iterate 4
      repeat' (first | exact True.intro | ((first | refine And.intro (fun _ => ?_) tf | refine And.intro ft (fun _ => ?_) | refine And.intro (by kernel_rfl) ?_ | refine And.intro (by decide) ?_ | refine And.intro (fun _ => ?_) (fun h => absurd h (by decide)) | refine And.intro (fun h => absurd h (by decide)) (fun _ => ?_) | refine ⟨_, _, r1.pu rfl rfl, ?_⟩ | fail); conv => whnf) | (refine And.intro (fun _ => ?_) (fun _ => ?_) <;> conv => whnf) | fail)
      all_goals try (refine Or.inl ?_; conv => whnf)
    all_goals try (exfalso; simp only [decide_eq_true_eq, decide_eq_false_iff_not, Bool.not_eq_true', Bool.not_eq_false', Bool.not_eq_true, Bool.not_eq_false, beq_iff_eq, bne_iff_ne, beq_eq_false_iff_ne, bne_eq_false_iff_eq, ne_eq, Decidable.not_not] at *; first | omega | contradiction | (simp_all; done) | (simp_all; omega))
    all_goals refine ⟨[], ?_⟩
    repeat (any_goals (first | exact True.intro | exact rfl | with_reducible_and_instances rfl | exact (by kernel_rfl) | refine And.intro ?_ ?_))
    all_goals conv => whnf
  | true =>
  rw [hr] at r1
  rw [if_pos rfl]
  obtain ⟨q1, q2, q3⟩ := right_out hr
  have q2 : l.length ≤ 8 := q2
  have q3 : ∀ x ∈ l, labB x = true := q3
  have q4 : nm.length ≤ 64 := nameL_len q1
  have t1 := texts1 nm (by omega)
  have u1 := uints1 l.length (by omega)
  have hb1 := encTL_len nm
  have hb2 := enc_lens l.length
  have hu : IntKind.u64.wrap ((l.map labR).length : Int) = (l.length : Int) := by
    show ((l.map labR).length : Int) % 18446744073709551616 = _
    rw [hl]
    exact Int.emod_eq_of_lt (by omega) (by omega)
  have u2 : Sat Tryd.prog 36 [.d (.sl 1 [[.v (.int .u64 (IntKind.u64.wrap ((l.map labR).length : Int)))]])] [] (.own 0) [.sl 1 ((enc l.length).map bR)] := by
    rw [hu]; exact u1
  refine sat_of_vc (T := tiOf Tryd.prog) (E := E0) Tryd.func17 rfl rfl hE0 hm0 rfl ?_
  conv => whnf
  iterate 3
    repeat' (first | exact True.intro | ((first | refine And.intro (fun _ => ?_) tf | refine And.intro ft (fun _ => ?_) | refine And.intro (by kernel_rfl) ?_ | refine And.intro (by decide) ?_ | refine And.intro (fun _ => ?_) (fun h => absurd h (by decide)) | refine And.intro (fun h => absurd h (by decide)) (fun _ => ?_) | refine ⟨_, _, r1.pu rfl rfl, ?_⟩ | refine ⟨_, _, lendON t1 rfl (bR_flats _), ?_⟩ | refine ⟨_, _, lendON u2 rfl (bR_flats _), ?_⟩ | refine ⟨_, _, ap1 rfl rfl (by omega), ?_⟩ | fail); conv => whnf) | (refine And.intro (fun _ => ?_) (fun _ => ?_) <;> conv => whnf) | fail)
    all_goals try (refine Or.inl ?_; conv => whnf)
  all_goals try (exfalso; simp only [decide_eq_true_eq, decide_eq_false_iff_not, Bool.not_eq_true', Bool.not_eq_false', Bool.not_eq_true, Bool.not_eq_false, beq_iff_eq, bne_iff_ne, beq_eq_false_iff_ne, bne_eq_false_iff_eq, ne_eq, Decidable.not_not] at *; first | omega | contradiction | (simp_all; done) | (simp_all; omega))
  refine ⟨Nat, fun i => i ≤ l.length, fun i => ([(23, iA i), (22, iA (l.map labR).length), (21, .d (.sl 2 (l.map labR))), (3, .own 1)], [.cells [.d (tD nm), .d (.sl 2 (l.map labR))], .sl 1 ((encTL nm ++ enc l.length ++ labsT (l.take i)).map bR)]), fun i => l.length - i, ⟨0, Nat.zero_le _, ?_⟩, ?_⟩
  · all_goals refine ⟨[(1, 5)], ?_⟩
    repeat (any_goals (first | exact True.intro | exact rfl | with_reducible_and_instances rfl | exact (by kernel_rfl) | refine And.intro ?_ ?_))
    all_goals conv => whnf
    show _ = AObj.sl 1 ((encTL nm ++ enc l.length ++ []).map bR)
    rw [List.append_nil]
  intro i hi
  have hi : i ≤ l.length := hi
  have hb := labsT_len (l := l.take i) fun x hx => q3 x (List.mem_of_mem_take hx)
  rw [List.length_take] at hb
  have hb3 : (encTL nm ++ enc l.length ++ labsT (l.take i)).length ≤ 2000 := by rw [List.length_append, List.length_append]; omega
  conv => whnf
  by_cases hlt : i < l.length
  · have hx : l[i]? = some l[i] := List.getElem?_eq_getElem hlt
    generalize l[i] = x at hx
    have hgx := map_get (f := labR) hx
    have hlb := labB_len (q3 x (List.mem_of_getElem? hx))
    have d1 : decide ((i : Int) < ((l.map labR).length : Nat)) = true := decide_eq_true (by rw [hl]; omega)
    have t2 := texts2 x.1 x.2 (by omega) (by omega)
    have l1 := encTL_len x.1
    have l2 := encTL_len x.2
    have h12 : (encTL nm ++ enc l.length ++ labsT (l.take i)).length + (encTL x.1 ++ encTL x.2).length ≤ 100000 := by rw [List.length_append (bs := encTL x.2)]; omega
    iterate 4
      repeat' (first | exact True.intro | ((first | refine ⟨i, _, rfl, hgx, ?_⟩ | refine And.intro (fun _ => ?_) tf | refine And.intro ft (fun _ => ?_) | refine And.intro (by kernel_rfl) ?_ | refine And.intro (by decide) ?_ | refine And.intro (fun _ => ?_) (fun h => absurd h (by decide)) | refine And.intro (fun h => absurd h (by decide)) (fun _ => ?_) | refine ⟨_, _, lendON t2 rfl (bR_flats _), ?_⟩ | refine ⟨_, _, ap1 rfl rfl h12, ?_⟩ | fail); conv => whnf) | (refine And.intro (fun _ => ?_) (fun _ => ?_) <;> conv => whnf) | fail)
      all_goals try (refine Or.inl ?_; conv => whnf)
    all_goals try exact (bnl d1 ‹_›).elim
    refine ⟨i + 1, hlt, show l.length - (i + 1) < l.length - i by omega, ?_⟩
    all_goals refine ⟨[(1, 5)], ?_⟩
    repeat (any_goals (first | exact True.intro | exact rfl | with_reducible_and_instances rfl | exact (by kernel_rfl) | refine And.intro ?_ ?_))
    all_goals conv => whnf
    · exact wk1 (by omega)
    · rw [labsT_next hx, ← List.append_assoc (encTL nm ++ enc l.length)]
  · have d1 : decide ((i : Int) < ((l.map labR).length : Nat)) = false := decide_eq_false (by rw [hl]; omega)
    iterate 4
      repeat' (first | exact True.intro | ((first | refine And.intro (fun _ => ?_) tf | refine And.intro ft (fun _ => ?_) | refine And.intro (by kernel_rfl) ?_ | refine And.intro (by decide) ?_ | refine And.intro (fun _ => ?_) (fun h => absurd h (by decide)) | refine And.intro (fun h => absurd h (by decide)) (fun _ => ?_) | fail); conv => whnf) | (refine And.intro (fun _ => ?_) (fun _ => ?_) <;> conv => whnf) | fail)
      all_goals try (refine Or.inl ?_; conv => whnf)
    all_goals try exact (bnl ‹_› d1).elim
    all_goals refine ⟨[], ?_⟩
    repeat (any_goals (first | exact True.intro | exact rfl | with_reducible_and_instances rfl | exact (by kernel_rfl) | refine And.intro ?_ ?_))
    all_goals conv => whnf
    rw [List.take_of_length_le (by omega)]
end Go.Proofs.YtpnbpcdmiiakcaaDoor
/- label: strings.SplitSeq at one byte: its iterator. -/
namespace Go.Proofs.YtpnbpcdmiiakcaaDoor
open Go.RowKit
set_option linter.unusedVariables false
set_option linter.unusedSimpArgs false
/-- The part up to a byte, and what is behind it. -/
def headT (r : Bt) : Bt := if ixB r 44 < 0 then r else r.take (ixB r 44).toNat
def nextT (r : Bt) : Option Bt := if ixB r 44 < 0 then none else some (r.drop ((ixB r 44).toNat + 1))
def splitNx (y : Option Bt) (x : List AV) (y' : Option Bt) : Prop := ∃ r, y = some r ∧ x = [.d (tD (headT r))] ∧ y' = nextT r
theorem ix_lt : ∀ (r : Bt) (c : UInt8), 0 ≤ ixB r c → (ixB r c).toNat < r.length
  | [], c, h => absurd (show (0 : Int) ≤ -1 from h) (by decide)
  | b :: l, c, h => by
    have ih := ix_lt l c
    unfold ixB Lib.indexByte at h ⊢
    split
    · simp
    · rename_i hb
      rw [if_neg hb] at h
      split
      · rename_i h2; rw [if_pos h2] at h; exact absurd h (by decide)
      · rename_i h2
        rw [if_neg h2] at h
        have g := Lib.indexByte_ge l c
        have h3 : Lib.indexByte l c ≠ -1 := by simpa using h2
        have := ih (show 0 ≤ Lib.indexByte l c by omega)
        rw [List.length_cons]
        show (Lib.indexByte l c + 1).toNat < _
        have e : (ixB l c).toNat = (Lib.indexByte l c).toNat := rfl
        omega
theorem cellOf {w : World} {F : Nat → Prop} {ρ : Nat → Option Value} {H : Hp} (E : Env F ρ H w) {i : Nat} {d : D} {u : Value} (hi : H i = some (.cells [.d d])) (hd : FlatV d u) {v : Value} (hv : RA w F ρ (.ptr i 0) v) :
    ∃ b t, v = .pointer (some ⟨b, 0, none⟩) ∧ ρ i = some v ∧ Blk w b t #[u] := by
  obtain ⟨b, rfl, h1, ⟨b', t, vs, h2, hB, hR, _⟩, _⟩ := E.cellsAt hi rfl hv
  injection h2 with h2; injection h2 with h2; injection h2 with h2
  subst h2
  obtain ⟨u', e4, hu⟩ := hR.one_out
  have : vs = #[u'] := by
    apply Array.ext'
    rw [e4]
  subst this
  cases hu with | d hu =>
  have := FlatV.eq hd hu
  subst this
  exact ⟨b, t, rfl, h1, hB⟩
attribute [local go_sem] Oper.semAt_some
/-- The iterator's own cells: the byte, what is left, a nought. -/
structure SplC (b1 b2 b3 t1 t2 t3 : Nat) (O : Nat → Prop) (r : Bt) (w : World) : Prop where
  c1 : Blk w b1 t1 #[.string ⟨#[44]⟩]
  c2 : Blk w b2 t2 #[.string ⟨r.toArray⟩]
  c3 : Blk w b3 t3 #[.int .i64 0]
  n1 : ¬ O b1
  n2 : ¬ O b2
  n3 : ¬ O b3
set_option maxHeartbeats 1000000 in
set_option maxRecDepth 100000 in
theorem splitIt {s : Bt} (hs : s.length ≤ 1000000) {Hs : List AObj} {i j k : Nat} (hij : i ≠ j) (hjk : j ≠ k) (hi : Hs[i]? = some (.cells [.d (tD [44])])) (hj : Hs[j]? = some (.cells [.d (tD s)])) (hk : Hs[k]? = some (.cells [iA 0])) :
    IterO Tryd.prog 79 [] [.ptr i 0, .ptr j 0, .ptr k 0] Hs (some s) splitNx (fun y => y = none) := by
  intro us vs l
  refine ⟨fun y vals y' => ∃ r, y = some r ∧ vals = [.string ⟨(headT r).toArray⟩] ∧ y' = nextT r, ?_, ?_⟩
  · rintro y vals y' ⟨r, rfl, rfl, rfl⟩
    exact ⟨[.d (tD (headT r))], ⟨r, rfl, rfl, rfl⟩, fun w F ρ => .cons (.d (.v _)) .nil⟩
  intro J Jx hJ hN hNx hY O w h0 hst
  obtain ⟨F, ρ, H, E, ho, q1, q2⟩ := hst
  cases q1
  obtain ⟨v1, v2, v3, rfl, r1, r2, r3⟩ := q2.three_out
  obtain ⟨hi1, hi2⟩ := ho i _ hi rfl
  obtain ⟨hj1, hj2⟩ := ho j _ hj rfl
  obtain ⟨hk1, hk2⟩ := ho k _ hk rfl
  obtain ⟨b1, t1, rfl, e1, B1⟩ := cellOf E hi1 (.v _) r1
  obtain ⟨b2, t2, rfl, e2, B2⟩ := cellOf E hj1 (.v _) r2
  obtain ⟨b3, t3, rfl, e3, B3⟩ := cellOf E hk1 (.v _) r3
  have n12 : b1 ≠ b2 := fun h => hij (E.inj i j _ _ _ _ b1 hi1 hj1 rfl rfl e1 e2 rfl (by rw [h]; rfl))
  have n23 : b2 ≠ b3 := fun h => hjk (E.inj j k _ _ _ _ b2 hj1 hk1 rfl rfl e2 e3 rfl (by rw [h]; rfl))
  have S0 : SplC b1 b2 b3 t1 t2 t3 O s w := ⟨B1, B2, B3, hi2 _ _ e1 rfl, hj2 _ _ e2 rfl, hk2 _ _ e3 rfl⟩
  clear r1 r2 r3 hi1 hi2 hj1 hj2 hk1 hk2 e1 e2 e3 E ho hi hj hk
  have HJ := hide hJ
  have HN := hide hN
  have c0 := B1.cell 0
  clear hJ hN hNx B1 B2 B3
  refine (callsIn_wide (n := 1)).1 (callsIn_of_wp Tryd.func79 rfl trivial ?_ rfl)
  simp only [Tryd.ntmps79, List.size_toArray, List.length_cons, List.length_nil, Nat.reduceAdd, Nat.reduceSub, Array.replicate_succ, Array.replicate_zero, List.push_toArray, List.append_toArray, List.nil_append, List.cons_append]
  simp only [List.getElem?_toArray, List.getElem?_cons_zero] at c0
  gi_wp2
  gi_loopw [7] (fun _ wr => ∃ (r : Bt) (O : Nat → Prop), r.length ≤ 1000000 ∧ J (some r) O wr ∧ SplC b1 b2 b3 t1 t2 t3 O r wr) (fun _ wr => match wr.cell? ⟨b2, 0, none⟩ with | some (.string x) => x.size | _ => 0)
  case atStart => exact ⟨s, O, hs, h0, S0⟩
  case round =>
    obtain ⟨r, O1, hr, hJr, hS⟩ := hrel
    have HI := hide (Tryd.strings_Index_one ⟨r.toArray⟩ 44 wr)
    have c1 := hS.c1.cell 0
    have c2 := hS.c2.cell 0
    have c3 := hS.c3.cell 0
    simp only [List.getElem?_toArray, List.getElem?_cons_zero] at c1 c2 c3
    have hq : Lib.indexByte ((⟨r.toArray⟩ : ByteArray).data.toList) 44 = ixB r 44 := rfl
    rw [hq] at HI
    by_cases hix : ixB r 44 < 0
    · have hh : headT r = r := if_pos hix
      have hn : nextT r = none := if_pos hix
      obtain ⟨fn, tmps, assign, body, hy, hR⟩ := hY (some r) O1 wr _ _ ⟨r, rfl, rfl, rfl⟩ hJr
      rw [hh] at hy
      rw [hn] at hR
      gi_wp2_with (refine And.intro trivial ?_; gi_at_call 81; refine callsIn_wide.2 (HI.out.mono ?_); rintro e w' ⟨rfl, rfl⟩)
      refine hR.mono ?_
      rintro e W3 ⟨O', hfar, hO', ⟨rfl, hJ3⟩ | ⟨rfl, hJx3⟩⟩
      · clear hfar hR hy
        gi_wp2
        go_end0
        exact ⟨⟨_, rfl⟩, _, .inl ⟨_, rfl, hJ3⟩⟩
      · clear hfar hR hy
        gi_wp2
        go_end0
        exact ⟨⟨_, rfl⟩, _, .inr hJx3⟩
    · have hix0 : 0 ≤ ixB r 44 := by omega
      have hlt := ix_lt r 44 hix0
      have hh : headT r = r.take (ixB r 44).toNat := if_neg hix
      have hn : nextT r = some (r.drop ((ixB r 44).toNat + 1)) := if_neg hix
      obtain ⟨fn, tmps, assign, body, hy, hR⟩ := hY (some r) O1 wr _ _ ⟨r, rfl, rfl, rfl⟩ hJr
      rw [hh] at hy
      rw [hn] at hR
      have hex : (⟨r.toArray⟩ : ByteArray).extract 0 (ixB r 44).toNat = ⟨(r.take (ixB r 44).toNat).toArray⟩ := by rw [text_, List.drop_zero]
      gi_wp2_with (refine And.intro trivial ?_; gi_at_call 81; refine callsIn_wide.2 (HI.out.mono ?_); rintro e w' ⟨rfl, rfl⟩)
      refine hR.mono ?_
      rintro e W3 ⟨O', hfar, hO', ⟨rfl, hJ3⟩ | ⟨rfl, hJx3⟩⟩
      · have hlt1 := hS.c1.lt
        have hlt2 := hS.c2.lt
        have hlt3 := hS.c3.lt
        have B1 : Blk W3 b1 t1 #[.string ⟨#[44]⟩] := (hfar.2.2.2.2 _ hlt1 hS.n1).trans hS.c1
        have B2 : Blk W3 b2 t2 #[.string ⟨r.toArray⟩] := (hfar.2.2.2.2 _ hlt2 hS.n2).trans hS.c2
        have B3 : Blk W3 b3 t3 #[.int .i64 0] := (hfar.2.2.2.2 _ hlt3 hS.n3).trans hS.c3
        have m1 : ¬ O' b1 := fun q => (hO' _ q).elim hS.n1 fun q => by omega
        have m2 : ¬ O' b2 := fun q => (hO' _ q).elim hS.n2 fun q => by omega
        have m3 : ¬ O' b3 := fun q => (hO' _ q).elim hS.n3 fun q => by omega
        have d1 := B1.cell 0
        have d2 := B2.cell 0
        have d3 := B3.cell 0
        have f2 := B2.frozen 0
        simp only [List.getElem?_toArray, List.getElem?_cons_zero] at d1 d2 d3
        have HC := hide c2
        have HB := hide (And.intro B1 (And.intro B2 B3))
        clear hfar hR hy c1 c2 c3 hS B1 B2 B3
        gi_wp2
        obtain ⟨B1, B2, B3⟩ := HB.out
        have e : (⟨r.toArray⟩ : ByteArray).extract (ixB r 44 + 1).toNat r.length = ⟨(r.drop ((ixB r 44).toNat + 1)).toArray⟩ := by
          rw [text_, List.take_length, show (ixB r 44 + 1).toNat = (ixB r 44).toNat + 1 by omega]
        rw [e]
        have B2' : Blk (W3.setCell ⟨b2, 0, none⟩ (.string ⟨(r.drop ((ixB r 44).toNat + 1)).toArray⟩)) b2 t2 #[.string ⟨(r.drop ((ixB r 44).toNat + 1)).toArray⟩] := B2.set_ 0 _
        have hlr : (r.drop ((ixB r 44).toNat + 1)).length < r.length := by rw [List.length_drop]; omega
        refine ⟨⟨r.drop ((ixB r 44).toNat + 1), O', by omega, HN.out _ _ _ _ hJ3 ⟨rfl, rfl, rfl, by simp [World.setCell], fun b hb => Below.heap_setCell _ _ _ _ (fun q => m2 ((show b = b2 from q) ▸ hb))⟩, ⟨(Below.heap_setCell _ _ _ _ n12).trans B1, B2', (Below.heap_setCell _ _ _ _ (Ne.symm n23)).trans B3, m1, m2, m3⟩⟩, ?_⟩
        have g2 := B2'.cell 0
        simp only [List.getElem?_toArray, List.getElem?_cons_zero] at g2
        rw [g2, HC.out]
        exact hlr
      · clear hfar hR hy
        gi_wp2
        refine bodyPost_ret (results_none rfl _ _ _) rfl ?_
        exact ⟨⟨_, rfl⟩, _, .inr hJx3⟩
end Go.Proofs.YtpnbpcdmiiakcaaDoor
/- label: strings.Cut, strings.SplitSeq, by conditions. -/
namespace Go.Proofs.YtpnbpcdmiiakcaaDoor
set_option linter.unusedSimpArgs false
open Go.RowKit
set_option maxRecDepth 100000
set_option linter.unusedVariables false
def cutC (s : Bt) (c : UInt8) : Bt × Bt × Bool := if ixB s c < 0 then (s, [], false) else (s.take (ixB s c).toNat, s.drop ((ixB s c).toNat + 1), true)
abbrev cutCA (x : Bt × Bt × Bool) : AV := .tup [.d (tD x.1), .d (tD x.2.1), bA x.2.2]
theorem cut0_sat (s : Bt) (c : UInt8) (hn : s.length ≤ 1000000) : Sat Tryd.prog 58 [.d (tD s), .d (tD [c])] [] (cutCA (cutC s c)) [] := by
  have i1 := index_sat s c
  unfold cutC
  by_cases h : ixB s c < 0
  · rw [if_pos h]
    have ge0 : decide (ixB s c ≥ 0) = false := decide_eq_false (by omega)
    refine sat_of_vc (T := tiOf Tryd.prog) (E := E0) Tryd.func58 rfl rfl hE0 hm0 rfl ?_
    conv => whnf
    iterate 2
      repeat' (first | exact True.intro | ((first | refine And.intro (fun _ => ?_) tf | refine And.intro ft (fun _ => ?_) | refine And.intro (by kernel_rfl) ?_ | refine And.intro (by decide) ?_ | refine And.intro (fun _ => ?_) (fun h => absurd h (by decide)) | refine And.intro (fun h => absurd h (by decide)) (fun _ => ?_) | refine ⟨_, _, i1.pu rfl rfl, ?_⟩ | fail); conv => whnf) | (refine And.intro (fun _ => ?_) (fun _ => ?_) <;> conv => whnf) | fail)
      all_goals try (refine Or.inl ?_; conv => whnf)
    all_goals try exact (bnl ‹_› ge0).elim
    repeat' (first | exact True.intro | ((first | refine And.intro (fun _ => ?_) tf | refine And.intro ft (fun _ => ?_) | refine And.intro (by kernel_rfl) ?_ | refine And.intro (by decide) ?_ | refine And.intro (fun _ => ?_) (fun h => absurd h (by decide)) | refine And.intro (fun h => absurd h (by decide)) (fun _ => ?_) | fail); conv => whnf) | (refine And.intro (fun _ => ?_) (fun _ => ?_) <;> conv => whnf) | fail)
    all_goals try (refine Or.inl ?_; conv => whnf)
    all_goals refine ⟨[], ?_⟩
    repeat (any_goals (first | exact True.intro | exact rfl | with_reducible_and_instances rfl | exact (by kernel_rfl) | refine And.intro ?_ ?_))
    all_goals conv => whnf
  · rw [if_neg h]
    have ge0 : decide (ixB s c ≥ 0) = true := decide_eq_true (by omega)
    have hlt := ix_lt s c (by omega)
    obtain ⟨k, hk⟩ : ∃ k : Nat, ixB s c = (k : Int) := ⟨(ixB s c).toNat, by omega⟩
    rw [hk] at i1 ge0 hlt ⊢
    rw [Int.toNat_natCast] at hlt ⊢
    have hw : IntKind.i64.wrap ((k : Int) + 1) = ((k + 1 : Nat) : Int) := by rw [wi (by omega) (by omega)]; rfl
    have fr : ∀ {L : List AObj} {ty n : Nat} {x y : Operand}, Does Tryd.prog (.slice 9 x (some y) none none) ty L n [.d (tD s), .d (.v (.int .i64 (IntKind.i64.wrap ((k : Int) + (([c] : Bt).length : Int)))))] e0 (.d (tD (s.drop (k + 1)))) := by
      intro L ty n x y
      rw [show (([c] : Bt).length : Int) = 1 from rfl, hw]
      exact from_L Tryd.underlying9 (by omega)
    refine sat_of_vc (T := tiOf Tryd.prog) (E := E0) Tryd.func58 rfl rfl hE0 hm0 rfl ?_
    conv => whnf
    iterate 2
      repeat' (first | exact True.intro | ((first | refine And.intro (fun _ => ?_) tf | refine And.intro ft (fun _ => ?_) | refine And.intro (by kernel_rfl) ?_ | refine And.intro (by decide) ?_ | refine And.intro (fun _ => ?_) (fun h => absurd h (by decide)) | refine And.intro (fun h => absurd h (by decide)) (fun _ => ?_) | refine ⟨_, _, i1.pu rfl rfl, ?_⟩ | refine ⟨_, _, up_L Tryd.underlying9 (Nat.le_of_lt hlt), ?_⟩ | refine ⟨_, _, fr, ?_⟩ | fail); conv => whnf) | (refine And.intro (fun _ => ?_) (fun _ => ?_) <;> conv => whnf) | fail)
      all_goals try (refine Or.inl ?_; conv => whnf)
    all_goals try exact (bnl ge0 ‹_›).elim
    iterate 2
      repeat' (first | exact True.intro | ((first | refine And.intro (fun _ => ?_) tf | refine And.intro ft (fun _ => ?_) | refine And.intro (by kernel_rfl) ?_ | refine And.intro (by decide) ?_ | refine And.intro (fun _ => ?_) (fun h => absurd h (by decide)) | refine And.intro (fun h => absurd h (by decide)) (fun _ => ?_) | refine ⟨_, _, up_L Tryd.underlying9 (Nat.le_of_lt hlt), ?_⟩ | refine ⟨_, _, fr, ?_⟩ | fail); conv => whnf) | (refine And.intro (fun _ => ?_) (fun _ => ?_) <;> conv => whnf) | fail)
      all_goals try (refine Or.inl ?_; conv => whnf)
    all_goals refine ⟨[], ?_⟩
    repeat (any_goals (first | exact True.intro | exact rfl | with_reducible_and_instances rfl | exact (by kernel_rfl) | refine And.intro ?_ ?_))
    all_goals conv => whnf
theorem cut_sat (s : Bt) (c : UInt8) (hn : s.length ≤ 1000000) : Sat Tryd.prog 39 [.d (tD s), .d (tD [c])] [] (cutCA (cutC s c)) [] := by
  have i1 := cut0_sat s c hn
  refine sat_of_vc (T := tiOf Tryd.prog) (E := E0) Tryd.func39 rfl rfl hE0 hm0 rfl ?_
  conv => whnf
  iterate 3
    repeat' (first | exact True.intro | ((first | refine And.intro (fun _ => ?_) tf | refine And.intro ft (fun _ => ?_) | refine And.intro (by kernel_rfl) ?_ | refine And.intro (by decide) ?_ | refine And.intro (fun _ => ?_) (fun h => absurd h (by decide)) | refine And.intro (fun h => absurd h (by decide)) (fun _ => ?_) | refine ⟨_, _, i1.pu rfl rfl, ?_⟩ | fail); conv => whnf) | (refine And.intro (fun _ => ?_) (fun _ => ?_) <;> conv => whnf) | fail)
    all_goals try (refine Or.inl ?_; conv => whnf)
  all_goals refine ⟨[], ?_⟩
  repeat (any_goals (first | exact True.intro | exact rfl | with_reducible_and_instances rfl | exact (by kernel_rfl) | refine And.intro ?_ ?_))
  all_goals conv => whnf
abbrev spF : AV := .fn (.func 79) [] [.ptr 1 0, .ptr 0 0, .ptr 2 0]
theorem split0_sat (s : Bt) : Sat Tryd.prog 60 [.d (tD s), .d (tD [44]), iA 0] [] spF [.cells [.d (tD s)], .cells [.d (tD [44])], .cells [iA 0]] := by
  refine sat_of_vc (T := tiOf Tryd.prog) (E := E0) Tryd.func60 rfl rfl hE0 hm0 rfl ?_
  conv => whnf
  iterate 3
    repeat' (first | exact True.intro | ((first | refine And.intro (fun _ => ?_) tf | refine And.intro ft (fun _ => ?_) | refine And.intro (by kernel_rfl) ?_ | refine And.intro (by decide) ?_ | refine And.intro (fun _ => ?_) (fun h => absurd h (by decide)) | refine And.intro (fun h => absurd h (by decide)) (fun _ => ?_) | fail); conv => whnf) | (refine And.intro (fun _ => ?_) (fun _ => ?_) <;> conv => whnf) | fail)
    all_goals try (refine Or.inl ?_; conv => whnf)
  all_goals refine ⟨[], ?_⟩
  repeat (any_goals (first | exact True.intro | exact rfl | with_reducible_and_instances rfl | exact (by kernel_rfl) | refine And.intro ?_ ?_))
  all_goals conv => whnf
theorem split_sat (s : Bt) : Sat Tryd.prog 41 [.d (tD s), .d (tD [44])] [] spF [.cells [.d (tD s)], .cells [.d (tD [44])], .cells [iA 0]] := by
  have i1 := split0_sat s
  refine sat_of_vc (T := tiOf Tryd.prog) (E := E0) Tryd.func41 rfl rfl hE0 hm0 rfl ?_
  conv => whnf
  iterate 3
    repeat' (first | exact True.intro | ((first | refine And.intro (fun _ => ?_) tf | refine And.intro ft (fun _ => ?_) | refine And.intro (by kernel_rfl) ?_ | refine And.intro (by decide) ?_ | refine And.intro (fun _ => ?_) (fun h => absurd h (by decide)) | refine And.intro (fun h => absurd h (by decide)) (fun _ => ?_) | refine ⟨_, _, i1.nw rfl, ?_⟩ | fail); conv => whnf) | (refine And.intro (fun _ => ?_) (fun _ => ?_) <;> conv => whnf) | fail)
    all_goals try (refine Or.inl ?_; conv => whnf)
  all_goals refine ⟨[], ?_⟩
  repeat (any_goals (first | exact True.intro | exact rfl | with_reducible_and_instances rfl | exact (by kernel_rfl) | refine And.intro ?_ ?_))
  all_goals conv => whnf
end Go.Proofs.YtpnbpcdmiiakcaaDoor
/- label: Parse. -/
namespace Go.Proofs.YtpnbpcdmiiakcaaDoor
set_option linter.unusedSimpArgs false
open Go.RowKit
set_option maxRecDepth 100000
set_option linter.unusedVariables false
def splitC : Bt → List Bt
  | [] => [[]]
  | c :: r => if c = 44 then [] :: splitC r else match splitC r with | [] => [[c]] | h :: t => (c :: h) :: t
def restC (y : Option Bt) : List Bt := match y with | none => [] | some q => splitC q
theorem splitC_eq : ∀ r : Bt, splitC r = headT r :: restC (nextT r)
  | [] => rfl
  | c :: l => by
    have ih := splitC_eq l
    show (if c = 44 then [] :: splitC l else match splitC l with | [] => [[c]] | h :: t => (c :: h) :: t) = _
    by_cases hc : c = 44
    · rw [if_pos hc]
      have e : ixB (c :: l) 44 = 0 := by unfold ixB Lib.indexByte; rw [hc]; rfl
      have e1 : headT (c :: l) = [] := by unfold headT; rw [e]; rfl
      have e2 : nextT (c :: l) = some l := by unfold nextT; rw [e]; rfl
      rw [e1, e2]
      rfl
    · rw [if_neg hc, ih]
      have hcb : (c == (44 : UInt8)) = false := by rw [beq_eq_false_iff_ne]; exact hc
      have ge := Lib.indexByte_ge l 44
      by_cases hi : ixB l 44 < 0
      · have e1 : Lib.indexByte l 44 = -1 := by have : Lib.indexByte l 44 < 0 := hi; omega
        have e : ixB (c :: l) 44 = -1 := by unfold ixB Lib.indexByte; rw [hcb, e1]; rfl
        unfold headT nextT
        rw [if_pos hi, if_pos hi, e]
        rfl
      · have hn : ¬ Lib.indexByte l 44 = -1 := by have : ¬ Lib.indexByte l 44 < 0 := hi; omega
        have e : ixB (c :: l) 44 = ixB l 44 + 1 := by
          unfold ixB
          rw [Lib.indexByte, hcb]
          simp [hn]
        have h1 : headT (c :: l) = c :: headT l := by
          unfold headT
          rw [if_neg hi, e, if_neg (by omega), show (ixB l 44 + 1).toNat = (ixB l 44).toNat + 1 by omega]; rfl
        have h2 : nextT (c :: l) = nextT l := by
          unfold nextT
          rw [if_neg hi, e, if_neg (by omega), show (ixB l 44 + 1).toNat = (ixB l 44).toNat + 1 by omega]; rfl
        rw [h1, h2]
def takeP : List Bt → List Lab → Option (List Lab)
  | [], acc => some acc
  | p :: ps, acc => if (cutC p 61).2.2 = false ∨ acc.length = 8 then none else takeP ps (acc ++ [((cutC p 61).1, (cutC p 61).2.1)])
def finS (s : Ser) : Option Ser := if rightB s = true then some s else none
def parseS (t : Bt) : Option Ser :=
  if (cutC t 123).2.2 = false then finS ((cutC t 123).1, []) else if Lib.hasSuffix (cutC t 123).2.1 [125] = false then none else (takeP (splitC (Lib.trimSuffix (cutC t 123).2.1 [125])) []).bind fun l => finS ((cutC t 123).1, l)
theorem restC_next {r : Bt} : restC (some r) = headT r :: restC (nextT r) := splitC_eq r
theorem Sat.pre {P : Program} {g : FuncId} {args args' : List AV} {H H' : List AObj} {r : AV} (h : Sat P g args H r H') (ha : ∀ w F ρ vs, RAs w F ρ args' vs → RAs w F ρ args vs) : Sat P g args' H r H' := fun F ρ w vals En hv => h F ρ w vals En (ha _ _ _ _ hv)
theorem rightNil (nm : Bt) : Sat Tryd.prog 12 [.d (.agg [tD nm, nilV])] [] (bA (rightB (nm, []))) [] :=
  (sRight_sat (nm, [])).pre fun w F ρ vs h => by
    cases h with | cons h1 h2 =>
    cases h1 with | d h1 => exact .cons (.d h1.nilAgg) h2
theorem headT_len (r : Bt) : (headT r).length ≤ r.length := by
  unfold headT
  split
  · exact Nat.le_refl _
  · rw [List.length_take]; omega
theorem nextT_len {r q : Bt} (h : nextT r = some q) : q.length ≤ r.length := by
  unfold nextT at h
  split at h
  · cases h
  · injection h with h
    rw [← h, List.length_drop]; omega
theorem cutC_len (s : Bt) (c : UInt8) : (cutC s c).1.length ≤ s.length ∧ (cutC s c).2.1.length ≤ s.length := by
  unfold cutC
  split
  · exact ⟨Nat.le_refl _, Nat.zero_le _⟩
  · exact ⟨by rw [List.length_take]; omega, by rw [List.length_drop]; omega⟩
theorem trim_len (s p : Bt) : (Lib.trimSuffix s p).length ≤ s.length := by
  unfold Lib.trimSuffix
  split
  · rw [List.length_take]; omega
  · exact Nat.le_refl _
theorem finS_some {x s : Ser} (h : finS x = some s) : rightB x = true ∧ s = x := by
  unfold finS at h
  split at h
  · injection h with h; exact ⟨‹_›, h.symm⟩
  · cases h
set_option maxHeartbeats 8000000 in
theorem parse_none (t : Bt) (ht : t.length ≤ 1000000) (hp : parseS t = none) : Sat Tryd.prog 20 [.d (tD t)] [] (.tup [.d (serD ([], [])), bA false]) [] := by
  refine Sat.post (r := .tup [.d (.agg [tD [], nilV]), bA false]) ?_ fun w F ρ v h => nilTup h
  have c1 := cut_sat t 123 ht
  have cl := cutC_len t 123
  unfold parseS at hp
  generalize hc : cutC t 123 = c at *
  obtain ⟨nm, rest, lab⟩ := c
  simp only at hp cl
  cases lab with
  | false =>
    rw [if_pos rfl] at hp
    have hr : rightB (nm, []) = false := by
      unfold finS at hp
      split at hp
      · cases hp
      · simpa using ‹¬ rightB (nm, []) = true›
    have r1 := rightNil nm
    rw [hr] at r1
    refine sat_of_vc (T := tiOf Tryd.prog) (E := E0) Tryd.func20 rfl rfl hE0 hm0 rfl ?_
    conv => whnf
    iterate 6
      repeat' (first | exact True.intro | ((first | refine And.intro (fun _ => ?_) tf | refine And.intro ft (fun _ => ?_) | refine And.intro (by kernel_rfl) ?_ | refine And.intro (by decide) ?_ | refine And.intro (fun _ => ?_) (fun h => absurd h (by decide)) | refine And.intro (fun h => absurd h (by decide)) (fun _ => ?_) | refine ⟨_, _, c1.pu rfl rfl, ?_⟩ | refine ⟨_, _, r1.pu rfl rfl, ?_⟩ | fail); conv => whnf) | (refine And.intro (fun _ => ?_) (fun _ => ?_) <;> conv => whnf) | fail)
      all_goals try (refine Or.inl ?_; conv => whnf)
    all_goals try (exfalso; simp only [decide_eq_true_eq, decide_eq_false_iff_not, Bool.not_eq_true', Bool.not_eq_false', Bool.not_eq_true, Bool.not_eq_false, beq_iff_eq, bne_iff_ne, beq_eq_false_iff_ne, bne_eq_false_iff_eq, ne_eq, Decidable.not_not] at *; first | omega | contradiction | (simp_all; done) | (simp_all; omega))
    all_goals refine ⟨[], ?_⟩
    repeat (any_goals (first | exact True.intro | exact rfl | with_reducible_and_instances rfl | exact (by kernel_rfl) | refine And.intro ?_ ?_))
    all_goals conv => whnf
  | true =>
  rw [if_neg (by simp)] at hp
  have s1 := cutSuffix_sat rest [125] (by omega)
  cases hsx : Lib.hasSuffix rest [125] with
  | false =>
    rw [hsx] at s1
    refine sat_of_vc (T := tiOf Tryd.prog) (E := E0) Tryd.func20 rfl rfl hE0 hm0 rfl ?_
    conv => whnf
    iterate 5
      repeat' (first | exact True.intro | ((first | refine And.intro (fun _ => ?_) tf | refine And.intro ft (fun _ => ?_) | refine And.intro (by kernel_rfl) ?_ | refine And.intro (by decide) ?_ | refine And.intro (fun _ => ?_) (fun h => absurd h (by decide)) | refine And.intro (fun h => absurd h (by decide)) (fun _ => ?_) | refine ⟨_, _, c1.pu rfl rfl, ?_⟩ | refine ⟨_, _, s1.pu rfl rfl, ?_⟩ | fail); conv => whnf) | (refine And.intro (fun _ => ?_) (fun _ => ?_) <;> conv => whnf) | fail)
      all_goals try (refine Or.inl ?_; conv => whnf)
    all_goals try (exfalso; simp only [decide_eq_true_eq, decide_eq_false_iff_not, Bool.not_eq_true', Bool.not_eq_false', Bool.not_eq_true, Bool.not_eq_false, beq_iff_eq, bne_iff_ne, beq_eq_false_iff_ne, bne_eq_false_iff_eq, ne_eq, Decidable.not_not] at *; first | omega | contradiction | (simp_all; done) | (simp_all; omega))
    all_goals refine ⟨[], ?_⟩
    repeat (any_goals (first | exact True.intro | exact rfl | with_reducible_and_instances rfl | exact (by kernel_rfl) | refine And.intro ?_ ?_))
    all_goals conv => whnf
  | true =>
  rw [hsx] at s1
  rw [if_neg (by rw [hsx]; simp)] at hp
  have tl := trim_len rest [125]
  generalize hlist : Lib.trimSuffix rest [125] = list at *
  have sp := split_sat list
  obtain ⟨R, hR⟩ : ∃ R, takeP (restC (some list)) [] = R := ⟨_, rfl⟩
  rw [show takeP (splitC list) [] = R from hR] at hp
  refine sat_of_vc (T := tiOf Tryd.prog) (E := E0) Tryd.func20 rfl rfl hE0 hm0 rfl ?_
  conv => whnf
  iterate 3
    repeat' (first | exact True.intro | ((first | refine And.intro (fun _ => ?_) tf | refine And.intro ft (fun _ => ?_) | refine And.intro (by kernel_rfl) ?_ | refine And.intro (by decide) ?_ | refine And.intro (fun _ => ?_) (fun h => absurd h (by decide)) | refine And.intro (fun h => absurd h (by decide)) (fun _ => ?_) | refine ⟨_, _, c1.pu rfl rfl, ?_⟩ | refine ⟨_, _, s1.pu rfl rfl, ?_⟩ | fail); conv => whnf) | (refine And.intro (fun _ => ?_) (fun _ => ?_) <;> conv => whnf) | fail)
    all_goals try (refine Or.inl ?_; conv => whnf)
  all_goals try (exfalso; simp only [decide_eq_true_eq, decide_eq_false_iff_not, Bool.not_eq_true', Bool.not_eq_false', Bool.not_eq_true, Bool.not_eq_false, beq_iff_eq, bne_iff_ne, beq_eq_false_iff_ne, bne_eq_false_iff_eq, ne_eq, Decidable.not_not] at *; first | omega | contradiction | (simp_all; done) | (simp_all; omega))
  repeat' (first | exact True.intro | ((first | refine And.intro (fun _ => ?_) tf | refine And.intro ft (fun _ => ?_) | refine And.intro (by kernel_rfl) ?_ | refine And.intro (by decide) ?_ | refine And.intro (fun _ => ?_) (fun h => absurd h (by decide)) | refine And.intro (fun h => absurd h (by decide)) (fun _ => ?_) | refine ⟨_, _, sp.nw rfl, ?_⟩ | fail); conv => whnf) | (refine And.intro (fun _ => ?_) (fun _ => ?_) <;> conv => whnf) | fail)
  refine Or.inr ⟨List Lab, Option Bt, fun y acc => takeP (restC y) acc = R ∧ acc.length ≤ 8 ∧ ∀ r, y = some r → r.length ≤ 1000000, fun acc => [.cells [.d (tD []), .d nilV], .cells [bA false], .cells [.d (tD nm), .own 6], .dead, .dead, .dead, .sl 2 (acc.map labR)], [(32, .fn (.func 79) [] [.ptr 4 0, .ptr 3 0, .ptr 5 0]), (7, .ptr 2 0), (3, .ptr 1 0), (2, .ptr 0 0)], 6, 79, [], [.ptr 4 0, .ptr 3 0, .ptr 5 0], [.dead, .dead, .dead, .cells [.d (tD list)], .cells [.d (tD [44])], .cells [iA 0]], some list, splitNx, fun y => y = none, [.cells [.d (tD []), .d nilV], .cells [bA false], .cells [.d (tD nm), .own 6], .cells [.d (tD list)], .cells [.d (tD [44])], .cells [iA 0], .sl 2 []], ?_, ⟨[], ⟨hR, Nat.zero_le _, fun r h => by injection h with h; subst h; omega⟩, rfl⟩, rfl, by kernel_rfl, ?_, splitIt (by omega) (by decide) (by decide) rfl rfl rfl, ?_, fun k z _ => by show 6 ≤ 7; decide, ?_, ?_⟩
  · all_goals refine ⟨[], ?_⟩
    repeat (any_goals (first | exact True.intro | exact rfl | with_reducible_and_instances rfl | exact (by kernel_rfl) | refine And.intro ?_ ?_))
    all_goals conv => whnf
  · exact ⟨rfl, rfl, rfl, trivial⟩
  · rintro k x k' ⟨r, rfl, rfl, rfl⟩
    rfl
  · rintro y acc x y' ⟨hI1, hI2, hI3⟩ ⟨r, rfl, rfl, rfl⟩
    have hrl := hI3 r rfl
    have hhl := headT_len r
    have c2 := cut_sat (headT r) 61 (by omega)
    have hal : (acc.map labR).length = acc.length := List.length_map _
    rw [restC_next, takeP] at hI1
    generalize cutC (headT r) 61 = x at *
    obtain ⟨a, v, ok⟩ := x
    simp only at hI1
    conv => whnf
    cases ok with
    | false =>
      iterate 4
        repeat' (first | exact True.intro | ((first | refine And.intro (fun _ => ?_) tf | refine And.intro ft (fun _ => ?_) | refine And.intro (by kernel_rfl) ?_ | refine And.intro (by decide) ?_ | refine And.intro (fun _ => ?_) (fun h => absurd h (by decide)) | refine And.intro (fun h => absurd h (by decide)) (fun _ => ?_) | refine ⟨_, _, c2.pu rfl rfl, ?_⟩ | fail); conv => whnf) | (refine And.intro (fun _ => ?_) (fun _ => ?_) <;> conv => whnf) | fail)
        all_goals try (refine Or.inl ?_; conv => whnf)
      all_goals try exact (bnl (a := (!(a, v, false).2.2)) rfl ‹_›).elim
      all_goals refine ⟨[], ?_⟩
      repeat (any_goals (first | exact True.intro | exact rfl | with_reducible_and_instances rfl | exact (by kernel_rfl) | refine And.intro ?_ ?_))
      all_goals conv => whnf
    | true =>
      by_cases h8 : acc.length = 8
      · have e8 : ((((acc.map labR).length : Nat) : Int) == 8) = true := by rw [hal, h8]; rfl
        iterate 4
          repeat' (first | exact True.intro | ((first | refine And.intro (fun _ => ?_) tf | refine And.intro ft (fun _ => ?_) | refine And.intro (by kernel_rfl) ?_ | refine And.intro (by decide) ?_ | refine And.intro (fun _ => ?_) (fun h => absurd h (by decide)) | refine And.intro (fun h => absurd h (by decide)) (fun _ => ?_) | refine ⟨_, _, c2.pu rfl rfl, ?_⟩ | fail); conv => whnf) | (refine And.intro (fun _ => ?_) (fun _ => ?_) <;> conv => whnf) | fail)
          all_goals try (refine Or.inl ?_; conv => whnf)
        all_goals try exact (bnl e8 ‹_›).elim
        all_goals try (exfalso; simp only [decide_eq_true_eq, decide_eq_false_iff_not, Bool.not_eq_true', Bool.not_eq_false', Bool.not_eq_true, Bool.not_eq_false, beq_iff_eq, bne_iff_ne, beq_eq_false_iff_ne, bne_eq_false_iff_eq, ne_eq, Decidable.not_not] at *; first | omega | contradiction | (simp_all; done) | (simp_all; omega))
        all_goals refine ⟨[], ?_⟩
        repeat (any_goals (first | exact True.intro | exact rfl | with_reducible_and_instances rfl | exact (by kernel_rfl) | refine And.intro ?_ ?_))
        all_goals conv => whnf
      · have e8 : ((((acc.map labR).length : Nat) : Int) == 8) = false := by rw [hal, beq_eq_false_iff_ne]; omega
        rw [if_neg (by simp [h8])] at hI1
        iterate 4
          repeat' (first | exact True.intro | ((first | refine And.intro (fun _ => ?_) tf | refine And.intro ft (fun _ => ?_) | refine And.intro (by kernel_rfl) ?_ | refine And.intro (by decide) ?_ | refine And.intro (fun _ => ?_) (fun h => absurd h (by decide)) | refine And.intro (fun h => absurd h (by decide)) (fun _ => ?_) | refine ⟨_, _, c2.pu rfl rfl, ?_⟩ | refine ⟨_, _, ap 2 32 (by kernel_rfl) rfl rfl (by simp; omega), ?_⟩ | fail); conv => whnf) | (refine And.intro (fun _ => ?_) (fun _ => ?_) <;> conv => whnf) | fail)
          all_goals try (refine Or.inl ?_; conv => whnf)
        all_goals try exact (bnl ‹_› e8).elim
        all_goals try (exfalso; simp only [decide_eq_true_eq, decide_eq_false_iff_not, Bool.not_eq_true', Bool.not_eq_false', Bool.not_eq_true, Bool.not_eq_false, beq_iff_eq, bne_iff_ne, beq_eq_false_iff_ne, bne_eq_false_iff_eq, ne_eq, Decidable.not_not] at *; first | omega | contradiction | (simp_all; done) | (simp_all; omega))
        refine ⟨acc ++ [(a, v)], ⟨hI1, by rw [List.length_append]; simp; omega, fun q hq => by have := nextT_len hq; omega⟩, ?_⟩
        all_goals refine ⟨[(6, 8)], ?_⟩
        repeat (any_goals (first | exact True.intro | exact rfl | with_reducible_and_instances rfl | exact (by kernel_rfl) | refine And.intro ?_ ?_))
        all_goals conv => whnf
        rw [List.map_append]; rfl
  · rintro y acc rfl ⟨hI1, hI2, hI3⟩
    have hR2 : R = some acc := hI1.symm
    rw [hR2] at hp
    have hp : finS (nm, acc) = none := hp
    have hr : rightB (nm, acc) = false := by
      unfold finS at hp
      split at hp
      · cases hp
      · simpa using ‹¬ rightB (nm, acc) = true›
    have r1 := sRight_sat (nm, acc)
    rw [hr] at r1
    conv => whnf
    iterate 4
      repeat' (first | exact True.intro | ((first | refine And.intro (fun _ => ?_) tf | refine And.intro ft (fun _ => ?_) | refine And.intro (by kernel_rfl) ?_ | refine And.intro (by decide) ?_ | refine And.intro (fun _ => ?_) (fun h => absurd h (by decide)) | refine And.intro (fun h => absurd h (by decide)) (fun _ => ?_) | refine ⟨_, _, r1.lendAgg rfl rfl, ?_⟩ | fail); conv => whnf) | (refine And.intro (fun _ => ?_) (fun _ => ?_) <;> conv => whnf) | fail)
      all_goals try (refine Or.inl ?_; conv => whnf)
    all_goals try (exfalso; simp only [decide_eq_true_eq, decide_eq_false_iff_not, Bool.not_eq_true', Bool.not_eq_false', Bool.not_eq_true, Bool.not_eq_false, beq_iff_eq, bne_iff_ne, beq_eq_false_iff_ne, bne_eq_false_iff_eq, ne_eq, Decidable.not_not] at *; first | omega | contradiction | (simp_all; done) | (simp_all; omega))
    all_goals refine ⟨[], ?_⟩
    repeat (any_goals (first | exact True.intro | exact rfl | with_reducible_and_instances rfl | exact (by kernel_rfl) | refine And.intro ?_ ?_))
    all_goals conv => whnf
set_option maxHeartbeats 8000000 in
theorem parse_some (t : Bt) (s : Ser) (ht : t.length ≤ 1000000) (hp : parseS t = some s) : Sat Tryd.prog 20 [.d (tD t)] [] (.tup [.d (serD s), bA true]) [] := by
  have c1 := cut_sat t 123 ht
  have cl := cutC_len t 123
  unfold parseS at hp
  generalize hc : cutC t 123 = c at *
  obtain ⟨nm, rest, lab⟩ := c
  simp only at hp cl
  cases lab with
  | false =>
    rw [if_pos rfl] at hp
    obtain ⟨hr, rfl⟩ := finS_some hp
    have r1 := rightNil nm
    rw [hr] at r1
    refine Sat.post (r := .tup [.d (.agg [tD nm, nilV]), bA true]) ?_ fun w F ρ v h => nilTup h
    refine sat_of_vc (T := tiOf Tryd.prog) (E := E0) Tryd.func20 rfl rfl hE0 hm0 rfl ?_
    conv => whnf
    iterate 6
      repeat' (first | exact True.intro | ((first | refine And.intro (fun _ => ?_) tf | refine And.intro ft (fun _ => ?_) | refine And.intro (by kernel_rfl) ?_ | refine And.intro (by decide) ?_ | refine And.intro (fun _ => ?_) (fun h => absurd h (by decide)) | refine And.intro (fun h => absurd h (by decide)) (fun _ => ?_) | refine ⟨_, _, c1.pu rfl rfl, ?_⟩ | refine ⟨_, _, r1.pu rfl rfl, ?_⟩ | fail); conv => whnf) | (refine And.intro (fun _ => ?_) (fun _ => ?_) <;> conv => whnf) | fail)
      all_goals try (refine Or.inl ?_; conv => whnf)
    all_goals try (exfalso; simp only [decide_eq_true_eq, decide_eq_false_iff_not, Bool.not_eq_true', Bool.not_eq_false', Bool.not_eq_true, Bool.not_eq_false, beq_iff_eq, bne_iff_ne, beq_eq_false_iff_ne, bne_eq_false_iff_eq, ne_eq, Decidable.not_not] at *; first | omega | contradiction | (simp_all; done) | (simp_all; omega))
    all_goals refine ⟨[], ?_⟩
    repeat (any_goals (first | exact True.intro | exact rfl | with_reducible_and_instances rfl | exact (by kernel_rfl) | refine And.intro ?_ ?_))
    all_goals conv => whnf
  | true =>
  rw [if_neg (by simp)] at hp
  have s1 := cutSuffix_sat rest [125] (by omega)
  cases hsx : Lib.hasSuffix rest [125] with
  | false =>
    rw [if_pos hsx] at hp
    cases hp
  | true =>
  rw [hsx] at s1
  rw [if_neg (by rw [hsx]; simp)] at hp
  have tl := trim_len rest [125]
  generalize hlist : Lib.trimSuffix rest [125] = list at *
  have sp := split_sat list
  obtain ⟨R, hR⟩ : ∃ R, takeP (restC (some list)) [] = R := ⟨_, rfl⟩
  rw [show takeP (splitC list) [] = R from hR] at hp
  refine sat_of_vc (T := tiOf Tryd.prog) (E := E0) Tryd.func20 rfl rfl hE0 hm0 rfl ?_
  conv => whnf
  iterate 3
    repeat' (first | exact True.intro | ((first | refine And.intro (fun _ => ?_) tf | refine And.intro ft (fun _ => ?_) | refine And.intro (by kernel_rfl) ?_ | refine And.intro (by decide) ?_ | refine And.intro (fun _ => ?_) (fun h => absurd h (by decide)) | refine And.intro (fun h => absurd h (by decide)) (fun _ => ?_) | refine ⟨_, _, c1.pu rfl rfl, ?_⟩ | refine ⟨_, _, s1.pu rfl rfl, ?_⟩ | fail); conv => whnf) | (refine And.intro (fun _ => ?_) (fun _ => ?_) <;> conv => whnf) | fail)
    all_goals try (refine Or.inl ?_; conv => whnf)
  all_goals try (exfalso; simp only [decide_eq_true_eq, decide_eq_false_iff_not, Bool.not_eq_true', Bool.not_eq_false', Bool.not_eq_true, Bool.not_eq_false, beq_iff_eq, bne_iff_ne, beq_eq_false_iff_ne, bne_eq_false_iff_eq, ne_eq, Decidable.not_not] at *; first | omega | contradiction | (simp_all; done) | (simp_all; omega))
  repeat' (first | exact True.intro | ((first | refine And.intro (fun _ => ?_) tf | refine And.intro ft (fun _ => ?_) | refine And.intro (by kernel_rfl) ?_ | refine And.intro (by decide) ?_ | refine And.intro (fun _ => ?_) (fun h => absurd h (by decide)) | refine And.intro (fun h => absurd h (by decide)) (fun _ => ?_) | refine ⟨_, _, sp.nw rfl, ?_⟩ | fail); conv => whnf) | (refine And.intro (fun _ => ?_) (fun _ => ?_) <;> conv => whnf) | fail)
  refine Or.inr ⟨List Lab, Option Bt, fun y acc => takeP (restC y) acc = R ∧ acc.length ≤ 8 ∧ ∀ r, y = some r → r.length ≤ 1000000, fun acc => [.cells [.d (tD []), .d nilV], .cells [bA false], .cells [.d (tD nm), .own 6], .dead, .dead, .dead, .sl 2 (acc.map labR)], [(32, .fn (.func 79) [] [.ptr 4 0, .ptr 3 0, .ptr 5 0]), (7, .ptr 2 0), (3, .ptr 1 0), (2, .ptr 0 0)], 6, 79, [], [.ptr 4 0, .ptr 3 0, .ptr 5 0], [.dead, .dead, .dead, .cells [.d (tD list)], .cells [.d (tD [44])], .cells [iA 0]], some list, splitNx, fun y => y = none, [.cells [.d (tD []), .d nilV], .cells [bA false], .cells [.d (tD nm), .own 6], .cells [.d (tD list)], .cells [.d (tD [44])], .cells [iA 0], .sl 2 []], ?_, ⟨[], ⟨hR, Nat.zero_le _, fun r h => by injection h with h; subst h; omega⟩, rfl⟩, rfl, by kernel_rfl, ?_, splitIt (by omega) (by decide) (by decide) rfl rfl rfl, ?_, fun k z _ => by show 6 ≤ 7; decide, ?_, ?_⟩
  · all_goals refine ⟨[], ?_⟩
    repeat (any_goals (first | exact True.intro | exact rfl | with_reducible_and_instances rfl | exact (by kernel_rfl) | refine And.intro ?_ ?_))
    all_goals conv => whnf
  · exact ⟨rfl, rfl, rfl, trivial⟩
  · rintro k x k' ⟨r, rfl, rfl, rfl⟩
    rfl
  · rintro y acc x y' ⟨hI1, hI2, hI3⟩ ⟨r, rfl, rfl, rfl⟩
    have hrl := hI3 r rfl
    have hhl := headT_len r
    have c2 := cut_sat (headT r) 61 (by omega)
    have hal : (acc.map labR).length = acc.length := List.length_map _
    rw [restC_next, takeP] at hI1
    generalize cutC (headT r) 61 = x at *
    obtain ⟨a, v, ok⟩ := x
    simp only at hI1
    conv => whnf
    cases ok with
    | false =>
      rw [if_pos (.inl rfl)] at hI1
      rw [← hI1] at hp
      cases hp
    | true =>
      by_cases h8 : acc.length = 8
      · rw [if_pos (.inr h8)] at hI1
        rw [← hI1] at hp
        cases hp
      · have e8 : ((((acc.map labR).length : Nat) : Int) == 8) = false := by rw [hal, beq_eq_false_iff_ne]; omega
        rw [if_neg (by simp [h8])] at hI1
        iterate 4
          repeat' (first | exact True.intro | ((first | refine And.intro (fun _ => ?_) tf | refine And.intro ft (fun _ => ?_) | refine And.intro (by kernel_rfl) ?_ | refine And.intro (by decide) ?_ | refine And.intro (fun _ => ?_) (fun h => absurd h (by decide)) | refine And.intro (fun h => absurd h (by decide)) (fun _ => ?_) | refine ⟨_, _, c2.pu rfl rfl, ?_⟩ | refine ⟨_, _, ap 2 32 (by kernel_rfl) rfl rfl (by simp; omega), ?_⟩ | fail); conv => whnf) | (refine And.intro (fun _ => ?_) (fun _ => ?_) <;> conv => whnf) | fail)
          all_goals try (refine Or.inl ?_; conv => whnf)
        all_goals try exact (bnl ‹_› e8).elim
        all_goals try (exfalso; simp only [decide_eq_true_eq, decide_eq_false_iff_not, Bool.not_eq_true', Bool.not_eq_false', Bool.not_eq_true, Bool.not_eq_false, beq_iff_eq, bne_iff_ne, beq_eq_false_iff_ne, bne_eq_false_iff_eq, ne_eq, Decidable.not_not] at *; first | omega | contradiction | (simp_all; done) | (simp_all; omega))
        refine ⟨acc ++ [(a, v)], ⟨hI1, by rw [List.length_append]; simp; omega, fun q hq => by have := nextT_len hq; omega⟩, ?_⟩
        all_goals refine ⟨[(6, 8)], ?_⟩
        repeat (any_goals (first | exact True.intro | exact rfl | with_reducible_and_instances rfl | exact (by kernel_rfl) | refine And.intro ?_ ?_))
        all_goals conv => whnf
        rw [List.map_append]; rfl
  · rintro y acc rfl ⟨hI1, hI2, hI3⟩
    have hR2 : R = some acc := hI1.symm
    rw [hR2] at hp
    obtain ⟨hr, rfl⟩ := finS_some (show finS (nm, acc) = some s from hp)
    have r1 := sRight_sat (nm, acc)
    rw [hr] at r1
    conv => whnf
    iterate 4
      repeat' (first | exact True.intro | ((first | refine And.intro (fun _ => ?_) tf | refine And.intro ft (fun _ => ?_) | refine And.intro (by kernel_rfl) ?_ | refine And.intro (by decide) ?_ | refine And.intro (fun _ => ?_) (fun h => absurd h (by decide)) | refine And.intro (fun h => absurd h (by decide)) (fun _ => ?_) | refine ⟨_, _, r1.lendAgg rfl rfl, ?_⟩ | fail); conv => whnf) | (refine And.intro (fun _ => ?_) (fun _ => ?_) <;> conv => whnf) | fail)
      all_goals try (refine Or.inl ?_; conv => whnf)
    all_goals try (exfalso; simp only [decide_eq_true_eq, decide_eq_false_iff_not, Bool.not_eq_true', Bool.not_eq_false', Bool.not_eq_true, Bool.not_eq_false, beq_iff_eq, bne_iff_ne, beq_eq_false_iff_ne, bne_eq_false_iff_eq, ne_eq, Decidable.not_not] at *; first | omega | contradiction | (simp_all; done) | (simp_all; omega))
    all_goals refine ⟨[], ?_⟩
    repeat (any_goals (first | exact True.intro | exact rfl | with_reducible_and_instances rfl | exact (by kernel_rfl) | refine And.intro ?_ ?_))
    all_goals conv => whnf
end Go.Proofs.YtpnbpcdmiiakcaaDoor
/- alive of the law 08. -/
namespace Go.Proofs.YtpnbpcdmiiakcaaDoor
set_option linter.unusedSimpArgs false
open Go.RowKit
set_option maxRecDepth 100000
set_option linter.unusedVariables false
def hitsT : Bt := [104, 105, 116, 115]
def labsM : List Lab := [([97], [49]), ([98], [50])]
def serM : Ser := (hitsT, labsM)
def bM8 : Bt := [4, 104, 105, 116, 115, 2, 1, 97, 1, 49, 1, 98, 1, 50]
def lf8 (k : Nat) : Bt := bM8.drop k
theorem text_at8 (l l' : Bt) (x : Bt) (n s : Nat) (hn : l.length ≤ 65536) (hc : cnt l 64 = (n, s, 0)) (hs : s + n ≤ l.length) (hl : l.drop (s + n) = l') (hx : (l.take (s + n)).drop s = x) : Sat Tryd.prog 47 [.ptr 0 0, iA 64] [rdO l 0] (.d (tD x)) [rdO l' 0] := by
  have := text_sat l 64 n s (by decide) hn hc hs
  rwa [hl, hx] at this
theorem count_at8 (l l' : Bt) (n s : Nat) (hn : l.length ≤ 65536) (hd : cnt l 8 = (n, s, 0)) (hl : l.drop s = l') : Sat Tryd.prog 48 [.ptr 0 0, iA 8] [rdO l 0] (iA n) [rdO l' 0] := by
  have := countM_sat l 8 (by decide) hn (by rw [hd])
  rw [hd] at this
  rw [← hl]
  exact this
theorem err8_sat (l : Bt) : Sat Tryd.prog 49 [.ptr 0 0] [rdO l 0] (iA 0) [rdO l 0] := by
  refine sat_of_vc (T := tiOf Tryd.prog) (E := E0) Tryd.func49 rfl rfl hE0 hm0 rfl ?_
  conv => whnf
  iterate 2
    repeat' (first | exact True.intro | ((first | refine And.intro (fun _ => ?_) tf | refine And.intro ft (fun _ => ?_) | refine And.intro (by kernel_rfl) ?_ | refine And.intro (by decide) ?_ | refine And.intro (fun _ => ?_) (fun h => absurd h (by decide)) | refine And.intro (fun h => absurd h (by decide)) (fun _ => ?_) | fail); conv => whnf) | (refine And.intro (fun _ => ?_) (fun _ => ?_) <;> conv => whnf) | fail)
    all_goals try (refine Or.inl ?_; conv => whnf)
  all_goals refine ⟨[], ?_⟩
  repeat (any_goals (first | exact True.intro | exact rfl | with_reducible_and_instances rfl | exact (by kernel_rfl) | refine And.intro ?_ ?_))
  all_goals conv => whnf
set_option maxHeartbeats 4000000 in
theorem readM_sat : Sat Tryd.prog 25 [.ptr 0 0] [rdO (lf8 0) 0] (.tup [.d (serD serM), iA 0]) [rdO (lf8 14) 0] := by
  have t0 := text_at8 (lf8 0) (lf8 5) hitsT 4 1 (by decide) (by decide) (by decide) (by decide) (by decide)
  have c0 := count_at8 (lf8 5) (lf8 6) 2 1 (by decide) (by decide) (by decide)
  have t1 := text_at8 (lf8 6) (lf8 8) [97] 1 1 (by decide) (by decide) (by decide) (by decide) (by decide)
  have t2 := text_at8 (lf8 8) (lf8 10) [49] 1 1 (by decide) (by decide) (by decide) (by decide) (by decide)
  have t3 := text_at8 (lf8 10) (lf8 12) [98] 1 1 (by decide) (by decide) (by decide) (by decide) (by decide)
  have t4 := text_at8 (lf8 12) (lf8 14) [50] 1 1 (by decide) (by decide) (by decide) (by decide) (by decide)
  have e1 := err8_sat (lf8 14)
  have r1 := sRight_sat serM
  rw [show rightB serM = true by decide] at r1
  refine sat_of_vc (T := tiOf Tryd.prog) (E := E0) Tryd.func25 rfl rfl hE0 hm0 rfl ?_
  conv => whnf
  iterate 3
    repeat' (first | exact True.intro | ((first | refine And.intro (fun _ => ?_) tf | refine And.intro ft (fun _ => ?_) | refine And.intro (by kernel_rfl) ?_ | refine And.intro (by decide) ?_ | refine And.intro (fun _ => ?_) (fun h => absurd h (by decide)) | refine And.intro (fun h => absurd h (by decide)) (fun _ => ?_) | refine ⟨_, _, t0.at1 0 rfl rfl rfl, ?_⟩ | refine ⟨_, _, c0.at1 0 rfl rfl rfl, ?_⟩ | fail); conv => whnf) | (refine And.intro (fun _ => ?_) (fun _ => ?_) <;> conv => whnf) | fail)
    all_goals try (refine Or.inl ?_; conv => whnf)
  refine ⟨Nat, fun k => k ≤ 2, fun k => ([(12, iA k), (11, iA 2), (4, .ptr 2 0), (2, .ptr 1 0), (0, .ptr 0 0)], [rdO (lf8 (6 + 4 * k)) 0, .cells [.d (tD []), .d nilV], .cells [.d (tD hitsT), .own 3], .sl 2 ((labsM.take k).map labR)]), fun k => 2 - k, ⟨0, by decide, ?_⟩, ?_⟩
  · all_goals refine ⟨[], ?_⟩
    repeat (any_goals (first | exact True.intro | exact rfl | with_reducible_and_instances rfl | exact (by kernel_rfl) | refine And.intro ?_ ?_))
    all_goals conv => whnf
  intro k hk
  have hk3 : k = 0 ∨ k = 1 ∨ k = 2 := by have : k ≤ 2 := hk; omega
  rcases hk3 with rfl | rfl | rfl
  · conv => whnf
    iterate 3
      repeat' (first | exact True.intro | ((first | refine And.intro (fun _ => ?_) tf | refine And.intro ft (fun _ => ?_) | refine And.intro (by kernel_rfl) ?_ | refine And.intro (by decide) ?_ | refine And.intro (fun _ => ?_) (fun h => absurd h (by decide)) | refine And.intro (fun h => absurd h (by decide)) (fun _ => ?_) | refine ⟨_, _, t1.at1 0 rfl rfl rfl, ?_⟩ | refine ⟨_, _, t2.at1 0 rfl rfl rfl, ?_⟩ | refine ⟨_, _, ap 2 32 (by kernel_rfl) rfl rfl (by simp), ?_⟩ | fail); conv => whnf) | (refine And.intro (fun _ => ?_) (fun _ => ?_) <;> conv => whnf) | fail)
      all_goals try (refine Or.inl ?_; conv => whnf)
    refine ⟨1, by decide, by decide, ?_⟩
    all_goals refine ⟨[(3, 5)], ?_⟩
    repeat (any_goals (first | exact True.intro | exact rfl | with_reducible_and_instances rfl | exact (by kernel_rfl) | refine And.intro ?_ ?_))
    all_goals conv => whnf
  · conv => whnf
    iterate 3
      repeat' (first | exact True.intro | ((first | refine And.intro (fun _ => ?_) tf | refine And.intro ft (fun _ => ?_) | refine And.intro (by kernel_rfl) ?_ | refine And.intro (by decide) ?_ | refine And.intro (fun _ => ?_) (fun h => absurd h (by decide)) | refine And.intro (fun h => absurd h (by decide)) (fun _ => ?_) | refine ⟨_, _, t3.at1 0 rfl rfl rfl, ?_⟩ | refine ⟨_, _, t4.at1 0 rfl rfl rfl, ?_⟩ | refine ⟨_, _, ap 2 32 (by kernel_rfl) rfl rfl (by simp [labsM]), ?_⟩ | fail); conv => whnf) | (refine And.intro (fun _ => ?_) (fun _ => ?_) <;> conv => whnf) | fail)
      all_goals try (refine Or.inl ?_; conv => whnf)
    refine ⟨2, by decide, by decide, ?_⟩
    all_goals refine ⟨[(3, 5)], ?_⟩
    repeat (any_goals (first | exact True.intro | exact rfl | with_reducible_and_instances rfl | exact (by kernel_rfl) | refine And.intro ?_ ?_))
    all_goals conv => whnf
  · conv => whnf
    iterate 5
      repeat' (first | exact True.intro | ((first | refine And.intro (fun _ => ?_) tf | refine And.intro ft (fun _ => ?_) | refine And.intro (by kernel_rfl) ?_ | refine And.intro (by decide) ?_ | refine And.intro (fun _ => ?_) (fun h => absurd h (by decide)) | refine And.intro (fun h => absurd h (by decide)) (fun _ => ?_) | refine ⟨_, _, e1.at1 0 rfl rfl rfl, ?_⟩ | refine ⟨_, _, r1.lendAgg rfl rfl, ?_⟩ | fail); conv => whnf) | (refine And.intro (fun _ => ?_) (fun _ => ?_) <;> conv => whnf) | fail)
      all_goals try (refine Or.inl ?_; conv => whnf)
    all_goals refine ⟨[], ?_⟩
    repeat (any_goals (first | exact True.intro | exact rfl | with_reducible_and_instances rfl | exact (by kernel_rfl) | refine And.intro ?_ ?_))
    all_goals conv => whnf
end Go.Proofs.YtpnbpcdmiiakcaaDoor
/- alive of the law 08, the whole. -/
namespace Go.Proofs.YtpnbpcdmiiakcaaDoor
set_option linter.unusedSimpArgs false
open Go.RowKit
set_option maxRecDepth 100000
set_option linter.unusedVariables false
def txM : Bt := [104, 105, 116, 115, 123, 97, 61, 49, 44, 98, 61, 50, 125]
def txN : Bt := [104, 105, 116, 115, 123, 98, 61, 50, 44, 97, 61, 49, 125]
theorem cmpNil (a : Ser) (nm : Bt) (hn : a.2.length ≤ 1000000) : Sat Tryd.prog 22 [.d (serD a), .d (.agg [tD nm, nilV])] [] (iA (serCmp a (nm, []))) [] :=
  (serCmp_sat a (nm, []) hn).pre fun w F ρ vs h => by
    cases h with | cons h1 h2 =>
    cases h2 with | cons h2 h3 =>
    cases h2 with | d h2 => exact .cons h1 (.cons (.d h2.nilAgg) h3)
set_option maxHeartbeats 8000000 in
theorem alive8 : Sat Tryd.prog 6 [] [] (bA true) [] := by
  have m1 := make_sat hitsT [([98], [50]), ([97], [49])]
  rw [show makeS hitsT [([98], [50]), ([97], [49])] = (serM, 0) by decide +kernel] at m1
  have m2 := make_sat hitsT [([97], []), ([97], [])]
  rw [show makeS hitsT [([97], []), ([97], [])] = (([], []), 18) by decide +kernel] at m2
  have p1 := parse_some txM serM (by decide) (by decide +kernel)
  have p2 := parse_none txN (by decide) (by decide +kernel)
  have g1 := get_sat serM [98] (by decide)
  rw [show getL serM.2 [98] = ([50], true) by decide +kernel] at g1
  have b1 := bytes_satS serM
  rw [show bytesS serM = bM8 by decide +kernel] at b1
  have n1 : Sat Tryd.prog 24 [.d (bsD bM8)] [] (.ptr 1 0) [.dead, rdO (lf8 0) 0] := newR_sat bM8 (by decide) (by decide)
  have rd := readM_sat
  have r1 := sRight_sat serM
  rw [show rightB serM = true by decide +kernel] at r1
  have t1 := text_satS serM
  rw [show textS serM = txM by decide +kernel] at t1
  have s1 := sameS_sat serM serM (by decide) (by decide)
  rw [decide_eq_true rfl] at s1
  have c1 := cmpNil serM hitsT (by decide)
  rw [show serCmp serM (hitsT, []) = 1 by decide +kernel] at c1
  refine sat_of_vc (T := tiOf Tryd.prog) (E := E0) Tryd.func6 rfl rfl hE0 hm0 rfl ?_
  conv => whnf
  iterate 4
    repeat' (first | exact True.intro | ((first | refine And.intro (fun _ => ?_) tf | refine And.intro ft (fun _ => ?_) | refine And.intro (by kernel_rfl) ?_ | refine And.intro (by decide) ?_ | refine And.intro (fun _ => ?_) (fun h => absurd h (by decide)) | refine And.intro (fun h => absurd h (by decide)) (fun _ => ?_) | refine ⟨_, _, frz_b m1 rfl rfl, ?_⟩ | refine ⟨_, _, frz_b m2 rfl rfl, ?_⟩ | refine ⟨_, _, p1.pu rfl rfl, ?_⟩ | refine ⟨_, _, p2.pu rfl rfl, ?_⟩ | refine ⟨_, _, g1.pu rfl rfl, ?_⟩ | refine ⟨_, _, b1.pu rfl rfl, ?_⟩ | refine ⟨_, _, n1.nw rfl, ?_⟩ | refine ⟨_, _, rd.at1 7 rfl rfl rfl, ?_⟩ | refine ⟨_, _, eqP (by kernel_rfl), ?_⟩ | refine ⟨_, _, eqN (by kernel_rfl), ?_⟩ | refine ⟨_, _, r1.pu rfl rfl, ?_⟩ | refine ⟨_, _, t1.pu rfl rfl, ?_⟩ | refine ⟨_, _, s1.pu rfl rfl, ?_⟩ | refine ⟨_, _, c1.pu rfl rfl, ?_⟩ | refine ⟨_, _, eqL', ?_⟩ | fail); conv => whnf) | (refine And.intro (fun _ => ?_) (fun _ => ?_) <;> conv => whnf) | fail)
    all_goals try (refine Or.inl ?_; conv => whnf)
  all_goals try (exfalso; simp only [decide_eq_true_eq, decide_eq_false_iff_not, Bool.not_eq_true', Bool.not_eq_false', Bool.not_eq_true, Bool.not_eq_false, beq_iff_eq, bne_iff_ne, beq_eq_false_iff_ne, bne_eq_false_iff_eq, ne_eq, Decidable.not_not] at *; first | omega | contradiction | (simp_all; done) | (simp_all; omega))
  all_goals refine ⟨[], ?_⟩
  repeat (any_goals (first | exact True.intro | exact rfl | with_reducible_and_instances rfl | exact (by kernel_rfl) | refine And.intro ?_ ?_))
  all_goals conv => whnf
end Go.Proofs.YtpnbpcdmiiakcaaDoor
/- label, in plain Lean: the order of series is one; the sort. -/
namespace Go.Proofs.YtpnbpcdmiiakcaaDoor
set_option linter.unusedSimpArgs false
set_option linter.unusedVariables false
open Go.RowKit
structure Cmp3 {α : Type} (f : α → α → Int) : Prop where
  rng : ∀ a b, f a b = -1 ∨ f a b = 0 ∨ f a b = 1
  neg : ∀ a b, f b a = - f a b
  eq : ∀ a b, f a b = 0 ↔ a = b
  tr : ∀ a b c, f a b ≤ 0 → f b c ≤ 0 → f a c ≤ 0
/-! ### the sort -/
/-! ### strictly ascending names -/
def ascL (l : List Lab) : Prop := l.Pairwise fun a b => a.1 < b.1
theorem chkL_iff : ∀ (l : List Lab) (p : Option Bt), chkL p l = true ↔ (∀ x ∈ l, labB x = true) ∧ ascL l ∧ ∀ a, p = some a → ∀ x ∈ l, a < x.1
  | [], p => by simp [chkL, ascL]
  | y :: r, p => by
    have ih := chkL_iff r (some y.1)
    have e : chkL p (y :: r) = (labB y && ((match p with | none => true | some a => decide (a < y.1)) && chkL (some y.1) r)) := by cases p <;> rfl
    rw [e, Bool.and_eq_true, Bool.and_eq_true, ih]
    unfold ascL
    rw [List.pairwise_cons]
    constructor
    · rintro ⟨h1, h2, h3, h4, h5⟩
      refine ⟨fun x hx => ?_, ⟨h5 _ rfl, h4⟩, fun a ha x hx => ?_⟩
      · rcases List.mem_cons.1 hx with q | q
        · rw [q]; exact h1
        · exact h3 x q
      · subst ha
        have ha : a < y.1 := of_decide_eq_true h2
        rcases List.mem_cons.1 hx with q | q
        · rw [q]; exact ha
        · exact List.lt_trans ha (h5 _ rfl x q)
    · rintro ⟨h1, ⟨h2, h3⟩, h4⟩
      refine ⟨h1 y (List.mem_cons_self ..), ?_, fun x hx => h1 x (List.mem_cons_of_mem _ hx), h3, fun a ha x hx => ?_⟩
      · cases p with
        | none => rfl
        | some a => exact decide_eq_true (h4 a rfl y (List.mem_cons_self ..))
      · injection ha with ha
        rw [← ha]
        exact h2 x hx
theorem right_iff (s : Ser) : rightB s = true ↔ nameL s.1 = true ∧ s.2.length ≤ 8 ∧ (∀ x ∈ s.2, labB x = true) ∧ ascL s.2 := by
  unfold rightB
  rw [Bool.and_eq_true, Bool.and_eq_true, decide_eq_true_eq, chkL_iff]
  constructor
  · rintro ⟨h1, h2, h3, h4, _⟩
    exact ⟨h1, h2, h3, h4⟩
  · rintro ⟨h1, h2, h3, h4⟩
    exact ⟨h1, h2, h3, h4, fun a h => by cases h⟩
end Go.Proofs.YtpnbpcdmiiakcaaDoor
/- label, in plain Lean: a right series' text is parsed as it was; bytes tell the series. -/
namespace Go.Proofs.YtpnbpcdmiiakcaaDoor
set_option linter.unusedSimpArgs false
set_option linter.unusedVariables false
open Go.RowKit
theorem ix_app {c : UInt8} : ∀ {a : Bt} {b : Bt}, (∀ x ∈ a, x ≠ c) → ixB (a ++ c :: b) c = a.length
  | [], b, _ => by unfold ixB; rw [List.nil_append, Lib.indexByte]; simp
  | x :: a, b, h => by
    have ih := ix_app (c := c) (a := a) (b := b) fun y hy => h y (List.mem_cons_of_mem _ hy)
    unfold ixB at ih ⊢
    have hx : (x == c) = false := by rw [beq_eq_false_iff_ne]; exact h x (List.mem_cons_self ..)
    rw [List.cons_append, Lib.indexByte, hx, ih]
    have : ((a.length : Int) == -1) = false := by rw [beq_eq_false_iff_ne]; omega
    simp only [this]
    simp
theorem ix_none {c : UInt8} : ∀ {a : Bt}, (∀ x ∈ a, x ≠ c) → ixB a c = -1
  | [], _ => rfl
  | x :: a, h => by
    have ih := ix_none (c := c) (a := a) fun y hy => h y (List.mem_cons_of_mem _ hy)
    unfold ixB at ih ⊢
    have hx : (x == c) = false := by rw [beq_eq_false_iff_ne]; exact h x (List.mem_cons_self ..)
    rw [Lib.indexByte, hx, ih]
    rfl
theorem cut_app {c : UInt8} {a b : Bt} (h : ∀ x ∈ a, x ≠ c) : cutC (a ++ c :: b) c = (a, b, true) := by
  unfold cutC
  rw [ix_app h, if_neg (by omega), Int.toNat_natCast]
  simp
theorem cut_no {c : UInt8} {a : Bt} (h : ∀ x ∈ a, x ≠ c) : cutC a c = (a, [], false) := by
  unfold cutC
  rw [ix_none h, if_pos (by decide)]
theorem splitC_one : ∀ {a : Bt}, (∀ x ∈ a, x ≠ 44) → splitC a = [a]
  | [], _ => rfl
  | x :: a, h => by
    have ih := splitC_one (a := a) fun y hy => h y (List.mem_cons_of_mem _ hy)
    show (if x = 44 then [] :: splitC a else match splitC a with | [] => [[x]] | h :: t => (x :: h) :: t) = _
    rw [if_neg (h x (List.mem_cons_self ..)), ih]
theorem splitC_app : ∀ {a b : Bt}, (∀ x ∈ a, x ≠ 44) → splitC (a ++ 44 :: b) = a :: splitC b
  | [], b, _ => by
    show (if (44 : UInt8) = 44 then [] :: splitC b else _) = _
    rw [if_pos rfl]
  | x :: a, b, h => by
    have ih := splitC_app (a := a) (b := b) fun y hy => h y (List.mem_cons_of_mem _ hy)
    show (if x = 44 then [] :: splitC (a ++ 44 :: b) else match splitC (a ++ 44 :: b) with | [] => [[x]] | h :: t => (x :: h) :: t) = _
    rw [if_neg (h x (List.mem_cons_self ..)), ih]
/-- The characters of names and values. -/
def sepC (x : UInt8) : Prop := x ≠ 44 ∧ x ≠ 61 ∧ x ≠ 123 ∧ x ≠ 125
theorem nameC_sep {x : UInt8} (h : nameC x = true) : sepC x := by
  have h := nameC_true h
  refine ⟨?_, ?_, ?_, ?_⟩ <;> (rintro rfl; revert h; decide)
theorem valC_sep {x : UInt8} (h : valC x = true) : sepC x := by
  have h := valC_true h
  refine ⟨?_, ?_, ?_, ?_⟩ <;> (rintro rfl; revert h; decide)
theorem nameL_sep {l : Bt} (h : nameL l = true) : ∀ x ∈ l, sepC x := by
  cases l with
  | nil => intro x hx; cases hx
  | cons y r =>
    rw [nameL_cons, Bool.and_eq_true, Bool.and_eq_true, List.all_eq_true] at h
    exact fun x hx => nameC_sep (h.2.2 x hx)
theorem valueL_sep {l : Bt} (h : valueL l = true) : ∀ x ∈ l, sepC x := by
  unfold valueL at h
  rw [Bool.and_eq_true, List.all_eq_true] at h
  exact fun x hx => valC_sep (h.2 x hx)
theorem labB_out {x : Lab} (h : labB x = true) : nameL x.1 = true ∧ valueL x.2 = true := by
  unfold labB at h
  rw [Bool.and_eq_true] at h
  exact ⟨h.2, h.1⟩
theorem piece_no {x : Lab} (h : labB x = true) : ∀ c ∈ pieceT x, c ≠ 44 := by
  obtain ⟨h1, h2⟩ := labB_out h
  intro c hc
  unfold pieceT at hc
  rw [List.mem_append, List.mem_append] at hc
  rcases hc with (hc | hc) | hc
  · exact (nameL_sep h1 c hc).1
  · rw [List.mem_singleton.1 hc]; decide
  · exact (valueL_sep h2 c hc).1
theorem split_body : ∀ (x : Lab) (r : List Lab), (∀ y ∈ x :: r, labB y = true) → splitC (pieceT x ++ (r.map fun y => [44] ++ pieceT y).flatten) = (x :: r).map pieceT
  | x, [], h => by
    rw [List.map_nil, List.flatten_nil, List.append_nil, splitC_one (piece_no (h x (List.mem_cons_self ..)))]; rfl
  | x, y :: r, h => by
    have ih := split_body y r fun z hz => h z (List.mem_cons_of_mem _ hz)
    have e : pieceT x ++ ((y :: r).map fun y => [44] ++ pieceT y).flatten = pieceT x ++ 44 :: (pieceT y ++ (r.map fun y => [44] ++ pieceT y).flatten) := by
      rw [List.map_cons, List.flatten_cons]; simp
    rw [e, splitC_app (piece_no (h x (List.mem_cons_self ..))), ih]; rfl
theorem cut_piece {x : Lab} (h : labB x = true) : cutC (pieceT x) 61 = (x.1, x.2, true) := by
  have e : pieceT x = x.1 ++ 61 :: x.2 := by unfold pieceT; simp
  rw [e, cut_app fun c hc => (nameL_sep (labB_out h).1 c hc).2.1]
theorem take_pieces : ∀ (r acc : List Lab), (∀ y ∈ r, labB y = true) → acc.length + r.length ≤ 8 → takeP (r.map pieceT) acc = some (acc ++ r)
  | [], acc, _, _ => by simp [takeP]
  | x :: r, acc, h, hl => by
    rw [List.map_cons, takeP, cut_piece (h x (List.mem_cons_self ..)), if_neg (by simp at hl ⊢; omega)]
    rw [take_pieces r _ (fun y hy => h y (List.mem_cons_of_mem _ hy)) (by simp at hl ⊢; omega)]
    simp
theorem parse_text {s : Ser} (h : rightB s = true) : parseS (textS s) = some s := by
  obtain ⟨nm, l⟩ := s
  obtain ⟨h1, h2, h3, h4⟩ := (right_iff _).1 h
  have hfin : finS (nm, l) = some (nm, l) := if_pos h
  have hnm : ∀ x ∈ nm, x ≠ 123 := fun x hx => (nameL_sep h1 x hx).2.2.1
  unfold parseS textS
  rw [if_pos h]
  cases l with
  | nil =>
    rw [if_pos rfl, cut_no hnm, if_pos rfl]
    exact hfin
  | cons x r =>
    have e : (nm, x :: r).1 ++ bodyT (nm, x :: r).2 ++ [125] = nm ++ 123 :: ((pieceT x ++ (r.map fun y => [44] ++ pieceT y).flatten) ++ [125]) := by
      show nm ++ ([123] ++ pieceT x ++ (r.map fun y => [44] ++ pieceT y).flatten) ++ [125] = _
      simp
    have hne : ¬ (nm, x :: r).2 = [] := fun q => by cases q
    rw [if_neg hne, e, cut_app hnm]
    show (if true = false then _ else _) = _
    rw [if_neg (by decide)]
    generalize hb : pieceT x ++ (r.map fun y => [44] ++ pieceT y).flatten = b
    have hs : Lib.hasSuffix (b ++ [125]) [125] = true := by
      unfold Lib.hasSuffix
      rw [List.isSuffixOf_iff_suffix]
      exact ⟨b, rfl⟩
    have ht : Lib.trimSuffix (b ++ [125]) [125] = b := by
      unfold Lib.trimSuffix
      rw [if_pos hs]
      simp
    show (if Lib.hasSuffix (b ++ [125]) [125] = false then none else (takeP (splitC (Lib.trimSuffix (b ++ [125]) [125])) []).bind fun l => finS (nm, l)) = _
    rw [hs, if_neg (by simp), ht, ← hb, split_body x r h3, take_pieces _ [] h3 (by simpa using h2)]
    exact hfin
/-! ### bytes -/
end Go.Proofs.YtpnbpcdmiiakcaaDoor
/- label, in plain Lean: what the document's Parse reads is what the program's does; a text that is parsed is the series' own. -/
namespace Go.Proofs.YtpnbpcdmiiakcaaDoor
set_option linter.unusedSimpArgs false
open Go.RowKit
set_option maxRecDepth 100000
set_option linter.unusedVariables false
/-- The document's reader of labels: a word, the name before, the labels. -/
def rgo : Bt → Bt → Bt → List Lab → List Lab
  | [], _, _, ls => ls
  | c :: r, w, ln, ls => if 8 < ls.length then ls else if c = 61 then rgo r [] w ls else if c = 44 ∨ c = 125 then rgo r [] [] (ls ++ [(ln, w)]) else rgo r (w ++ [c]) ln ls
def refS (t : Bt) : Ser := if (cutC t 123).2.2 = false then ((cutC t 123).1, []) else ((cutC t 123).1, rgo (cutC t 123).2.1 [] [] [])
def brk (t : Bt) : Nat := (t.takeWhile (fun c => c != 123)).length
theorem tw_all {t : Bt} : ∀ x ∈ t.takeWhile (fun c => c != 123), x ≠ 123 := fun x hx => by
  have := List.all_eq_true.1 (List.all_takeWhile (l := t) (p := fun c : UInt8 => c != 123)) x hx
  simpa using this
theorem brk_cut (t : Bt) : (brk t = t.length ∧ cutC t 123 = (t, [], false)) ∨ (brk t < t.length ∧ t[brk t]? = some 123 ∧ cutC t 123 = (t.take (brk t), t.drop (brk t + 1), true)) := by
  have h := List.takeWhile_append_dropWhile (p := fun c : UInt8 => c != 123) (l := t)
  have ha := tw_all (t := t)
  have hb : brk t = (t.takeWhile (fun c => c != 123)).length := rfl
  cases hd : t.dropWhile (fun c : UInt8 => c != 123) with
  | nil =>
    rw [hd, List.append_nil] at h
    left
    rw [h] at ha
    exact ⟨by rw [hb, h], cut_no ha⟩
  | cons c r =>
    right
    have hc : c = 123 := by
      have := List.head?_dropWhile_not (fun c : UInt8 => c != 123) t
      rw [hd] at this
      simpa using this
    subst hc
    rw [hd] at h
    generalize t.takeWhile (fun c => c != 123) = a at *
    rw [hb]
    subst h
    refine ⟨by simp, by simp, ?_⟩
    rw [cut_app ha]
    simp
theorem brk_ne {t : Bt} {i : Nat} {x : UInt8} (hi : i < brk t) (hx : t[i]? = some x) : x ≠ 123 := by
  have h := List.takeWhile_append_dropWhile (p := fun c : UInt8 => c != 123) (l := t)
  have ha := tw_all (t := t)
  unfold brk at hi
  rw [← h, List.getElem?_append_left hi] at hx
  exact ha x (List.mem_of_getElem? hx)
theorem brk_le (t : Bt) : brk t ≤ t.length := by
  rcases brk_cut t with h | h <;> omega
/-! ### the document reads a series' text -/
theorem rgo_name : ∀ {a : Bt} {r w ln : Bt} {ls : List Lab}, (∀ x ∈ a, sepC x) → ls.length ≤ 8 → rgo (a ++ r) w ln ls = rgo r (w ++ a) ln ls
  | [], r, w, ln, ls, _, _ => by simp
  | c :: a, r, w, ln, ls, h, hl => by
    obtain ⟨q1, q2, q3, q4⟩ := h c (List.mem_cons_self ..)
    rw [List.cons_append, rgo, if_neg (by omega), if_neg q2, if_neg (fun h => h.elim q1 q4), rgo_name (fun x hx => h x (List.mem_cons_of_mem _ hx)) hl, List.append_assoc]; rfl
theorem rgo_piece {x : Lab} {c : UInt8} {r : Bt} {ls : List Lab} (hx : labB x = true) (hc : c = 44 ∨ c = 125) (hl : ls.length ≤ 8) : rgo (pieceT x ++ c :: r) [] [] ls = rgo r [] [] (ls ++ [x]) := by
  obtain ⟨h1, h2⟩ := labB_out hx
  unfold pieceT
  rw [List.append_assoc, List.append_assoc, rgo_name (nameL_sep h1) hl, List.singleton_append, rgo, if_neg (by omega), if_pos rfl, rgo_name (valueL_sep h2) hl]
  have h61 : c ≠ 61 := by rcases hc with rfl | rfl <;> decide
  rw [rgo, if_neg (by omega), if_neg h61, if_pos hc]
  simp
theorem rgo_tail : ∀ {l ls : List Lab}, (∀ x ∈ l, labB x = true) → ls.length + l.length ≤ 8 → ∀ x : Lab, labB x = true → ls.length + l.length + 1 ≤ 8 → rgo (pieceT x ++ (l.map fun y => [44] ++ pieceT y).flatten ++ [125]) [] [] ls = ls ++ x :: l
  | [], ls, _, _, x, hx, hn => by
    simp only [List.map_nil, List.flatten_nil, List.append_nil]
    rw [rgo_piece hx (.inr rfl) (by omega)]; rfl
  | y :: l, ls, h, hl, x, hx, hn => by
    simp only [List.length_cons] at hl hn
    rw [List.map_cons, List.flatten_cons, List.append_assoc, List.append_assoc, List.append_assoc, List.singleton_append, rgo_piece hx (.inl rfl) (by omega)]
    have := rgo_tail (l := l) (ls := ls ++ [x]) (fun z hz => h z (List.mem_cons_of_mem _ hz)) (by rw [List.length_append]; simp; omega) y (h y (List.mem_cons_self ..)) (by rw [List.length_append]; simp; omega)
    rw [List.append_assoc] at this
    rw [this]; simp
theorem ref_text {s : Ser} (h : rightB s = true) : refS (textS s) = s := by
  obtain ⟨nm, l⟩ := s
  obtain ⟨h1, h2, h3⟩ := right_out h
  have h2 : l.length ≤ 8 := h2
  have h3 : ∀ x ∈ l, labB x = true := h3
  have hn : ∀ x ∈ nm, x ≠ 123 := fun x hx => (nameL_sep h1 x hx).2.2.1
  unfold textS
  rw [if_pos h]
  cases l with
  | nil =>
    rw [if_pos rfl]
    unfold refS
    rw [cut_no hn]; rfl
  | cons x l =>
    rw [if_neg (by simp)]
    have e : nm ++ bodyT (x :: l) ++ [125] = nm ++ 123 :: (pieceT x ++ (l.map fun y => [44] ++ pieceT y).flatten ++ [125]) := by
      show nm ++ ([123] ++ pieceT x ++ (l.map fun y => [44] ++ pieceT y).flatten) ++ [125] = _
      simp
    show refS (nm ++ bodyT (x :: l) ++ [125]) = _
    rw [e]
    unfold refS
    rw [cut_app hn]
    simp only [Bool.true_eq_false, if_false]
    rw [rgo_tail (ls := []) (fun y hy => h3 y (List.mem_cons_of_mem _ hy)) (by simp at h2 ⊢; omega) x (h3 x (List.mem_cons_self ..)) (by simp at h2 ⊢; omega)]
    rfl
/-! ### a text that the program parses is the series' own -/
theorem cut_true {t : Bt} {c : UInt8} (h : (cutC t c).2.2 = true) : t = (cutC t c).1 ++ c :: (cutC t c).2.1 := by
  unfold cutC at h ⊢
  split at h
  · cases h
  · rename_i hi
    rw [if_neg hi]
    have hlt := ix_lt t c (by omega)
    have hg := (Lib.indexByte_some (l := t) (c := c) (o := (ixB t c).toNat) (show ixB t c = _ by omega)).1
    obtain ⟨_, hg⟩ := List.getElem?_eq_some_iff.1 hg
    show t = t.take _ ++ c :: t.drop _
    conv => lhs; rw [← List.take_append_drop (ixB t c).toNat t, List.drop_eq_getElem_cons hlt, hg]
theorem cut_false {t : Bt} {c : UInt8} (h : (cutC t c).2.2 = false) : (cutC t c).1 = t := by
  unfold cutC at h ⊢
  split
  · rfl
  · rename_i hi; rw [if_neg hi] at h; cases h
theorem splitC_ne (r : Bt) : splitC r ≠ [] := by rw [splitC_eq]; simp
theorem join_split : ∀ r : Bt, Lib.join (splitC r) [44] = r
  | [] => Lib.join_one _ _
  | c :: r => by
    have ih := join_split r
    unfold splitC
    by_cases hc : c = 44
    · rw [if_pos hc, Lib.join_cons]
      have hne := splitC_ne r
      cases hs : splitC r with
      | nil => exact absurd hs hne
      | cons h t =>
        rw [hs, Lib.join_cons] at ih
        show [] ++ Lib.joinTail [44] (h :: t) = _
        rw [hc, List.nil_append]
        unfold Lib.joinTail at ih ⊢
        rw [List.map_cons, List.flatten_cons, List.append_assoc, ih]; rfl
    · rw [if_neg hc]
      have hne := splitC_ne r
      cases hs : splitC r with
      | nil => exact absurd hs hne
      | cons h t =>
        rw [hs, Lib.join_cons] at ih
        show Lib.join ((c :: h) :: t) [44] = _
        rw [Lib.join_cons, List.cons_append, ih]
theorem takeP_out : ∀ {ps : List Bt} {acc out : List Lab}, takeP ps acc = some out → ∃ l, out = acc ++ l ∧ l.map pieceT = ps
  | [], acc, out, h => by
    have h : some acc = some out := h
    injection h with h
    exact ⟨[], by rw [h, List.append_nil], rfl⟩
  | p :: ps, acc, out, h => by
    unfold takeP at h
    split at h
    · cases h
    · rename_i hn
      have hc : (cutC p 61).2.2 = true := by
        cases hq : (cutC p 61).2.2 with
        | true => rfl
        | false => exact absurd (.inl hq) hn
      obtain ⟨l, e, hl⟩ := takeP_out h
      refine ⟨((cutC p 61).1, (cutC p 61).2.1) :: l, by rw [e, List.append_assoc]; rfl, ?_⟩
      rw [List.map_cons, hl]
      congr 1
      have := cut_true hc
      unfold pieceT
      rw [List.append_assoc]
      exact this.symm
theorem parse_sound {t : Bt} {s : Ser} (h : parseS t = some s) : textS s = t := by
  unfold parseS at h
  split at h
  · rename_i hc
    obtain ⟨hr, e⟩ := finS_some h
    rw [cut_false hc] at hr e
    rw [e]
    unfold textS
    rw [if_pos hr, if_pos rfl]
  · rename_i hc
    have hc : (cutC t 123).2.2 = true := by simpa using hc
    split at h
    · cases h
    · rename_i hs
      have hs : Lib.hasSuffix (cutC t 123).2.1 [125] = true := by simpa using hs
      have ht := cut_true hc
      generalize (cutC t 123).1 = nm at *
      generalize (cutC t 123).2.1 = rest at *
      obtain ⟨li, hrest⟩ : ∃ li, rest = li ++ [125] := by
        unfold Lib.hasSuffix at hs
        obtain ⟨li, e⟩ := List.isSuffixOf_iff_suffix.1 hs
        exact ⟨li, e.symm⟩
      have htrim : Lib.trimSuffix rest [125] = li := by
        unfold Lib.trimSuffix
        rw [if_pos hs, hrest]; simp
      rw [htrim] at h
      cases hp : takeP (splitC li) [] with
      | none => rw [hp] at h; cases h
      | some l =>
        rw [hp] at h
        have h : finS (nm, l) = some s := h
        obtain ⟨hr, e⟩ := finS_some h
        obtain ⟨l', e2, hl⟩ := takeP_out hp
        rw [List.nil_append] at e2
        rw [← e2] at hl
        have hne : l ≠ [] := fun q => splitC_ne li (by rw [← hl, q]; rfl)
        rw [e]
        unfold textS
        rw [if_pos hr, if_neg hne]
        show nm ++ bodyT l ++ [125] = t
        rw [bodyT_join hne, hl, join_split, ht, hrest]; simp
theorem parse_right {t : Bt} {s : Ser} (h : parseS t = some s) : rightB s = true := by
  unfold parseS at h
  split at h
  · exact (finS_some h).2 ▸ (finS_some h).1
  · split at h
    · cases h
    · rw [Option.bind_eq_some_iff] at h
      obtain ⟨l, _, h⟩ := h
      exact (finS_some h).2 ▸ (finS_some h).1
/-- The document's answer is the program's. -/
theorem ref_parse (t : Bt) : parseS t = if textS (refS t) = t ∧ t ≠ [] then some (refS t) else none := by
  split
  · rename_i h
    have hr : rightB (refS t) = true := by
      cases hq : rightB (refS t) with
      | true => rfl
      | false =>
        have h1 := h.1
        unfold textS at h1
        rw [hq, if_neg (by simp)] at h1
        exact absurd h1.symm h.2
    have := parse_text hr
    rwa [h.1] at this
  · rename_i h
    cases hp : parseS t with
    | none => rfl
    | some s =>
      refine absurd ?_ h
      have h1 := parse_sound hp
      have h2 := parse_right hp
      have h3 := ref_text h2
      rw [h1] at h3
      refine ⟨by rw [h3]; exact h1, fun e => ?_⟩
      rw [e] at hp
      have hz : parseS [] = none := by decide
      rw [hz] at hp
      cases hp
end Go.Proofs.YtpnbpcdmiiakcaaDoor
/- The document's Uint, Int, Text, Turn, Unturn. -/
namespace Go.Proofs.YtpnbpcdmiiakcaaDoor
open Go.RowKit
set_option linter.unusedVariables false
set_option linter.unusedSimpArgs false

end Go.Proofs.YtpnbpcdmiiakcaaDoor
/- label: the document's Bytes. -/
namespace Go.Proofs.YtpnbpcdmiiakcaaDoor
set_option linter.unusedSimpArgs false
open Go.RowKit
set_option maxRecDepth 100000
set_option linter.unusedVariables false
end Go.Proofs.YtpnbpcdmiiakcaaDoor
/- label: the document's Make. -/
namespace Go.Proofs.YtpnbpcdmiiakcaaDoor
set_option linter.unusedSimpArgs false
open Go.RowKit
set_option maxRecDepth 100000
set_option linter.unusedVariables false
end Go.Proofs.YtpnbpcdmiiakcaaDoor
