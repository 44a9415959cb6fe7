/- Parts ShC, VcZ, Meet, Rz, Ro, Rzp, ShD, ShE, Vn, ShF, ShG, ShH, Fr, ShI of the proof, put together. -/
import Derived.Test.YtbjmdnemeidpjaaM8
import Derived.Shelf.SlSortCmp.NoneTotal
import Derived.Outline
import Derived.Test.YtbjmdnemeidpjaaSrt
import Derived.Sort.Walk0
import Derived.RangeFuncNested
import Derived.RangeFuncBound
import Derived.RangeFuncCalls
import Derived.RangeFuncLeaves
import Derived.OwnWalkIn
import Derived.TacticsInMore
import Derived.LoopNIn
import Derived.LoopIn
import Derived.Shelf.SlMaps.Clone
import Derived.Laws.Externs
import Derived.MapKept
import Derived.Stop.RegionWithIn
import Derived.RegionIn
/- The shelf: Note. -/
namespace Go.Proofs.Ytbjmdnemeidpjaa
set_option linter.unusedSimpArgs false
set_option linter.unusedVariables false
open Go.RowKit
set_option maxRecDepth 100000
/-- The keys of the windows from first on. -/
def keysN (first : Int) (s : ByteArray) (n : Nat) : List KeyW := (List.range n).map fun (i : Nat) => (first + (i : Int), s)
def cellAt (m : Sh) (k : KeyW) : Cel := (findX m k).getD zC
def outR (x : KeyW × Cel) : List D := kyR x.1 ++ cR x.2
/-- All is laid. -/
def putAllX (l : List (KeyW × Cel)) (m : Sh) (c : Nat) : Sh × Nat := l.foldl (fun a x => (putX x.1 x.2 a.2 a.1, clkX x.1 a.1 a.2)) (m, c)
def notedL (m : Sh) (first : Int) (s : ByteArray) (b : Bool) (n : Nat) : List (KeyW × Cel) := (keysN first s n).map fun k => (k, (noteC (cellAt m k) b).1)
def noteOK (m : Sh) (first : Int) (s : ByteArray) (b : Bool) (n : Nat) : Bool := (keysN first s n).all fun k => decide ((noteC (cellAt m k) b).2 = 0)
def shNote (most : Int) (m : Sh) (c : Nat) (first last : Int) (s : ByteArray) : (Sh × Nat) × Int := if last < first then ((m, c), 10) else if shRoom most m first last s = false then ((m, c), 20) else
  if noteOK m first s (decide (first = last)) ((last - first).toNat + 1) then (putAllX (notedL m first s (decide (first = last)) ((last - first).toNat + 1)) m c, 0) else ((m, c), 12)
theorem keysN_succ (first : Int) (s : ByteArray) (n : Nat) : keysN first s (n + 1) = keysN first s n ++ [(first + (n : Int), s)] := by
  unfold keysN; rw [List.range_succ, List.map_append]; rfl
theorem notedL_succ (m : Sh) (first : Int) (s : ByteArray) (b : Bool) (n : Nat) : notedL m first s b (n + 1) = notedL m first s b n ++ [((first + (n : Int), s), (noteC (cellAt m (first + (n : Int), s)) b).1)] := by
  unfold notedL; rw [keysN_succ, List.map_append]; rfl
theorem noteOK_succ (m : Sh) (first : Int) (s : ByteArray) (b : Bool) (n : Nat) : noteOK m first s b (n + 1) = (noteOK m first s b n && decide ((noteC (cellAt m (first + (n : Int), s)) b).2 = 0)) := by
  unfold noteOK; rw [keysN_succ, List.all_append, List.all_cons, List.all_nil, Bool.and_true]
theorem noteOK_le {m : Sh} {first : Int} {s : ByteArray} {b : Bool} {i n : Nat} (h : noteOK m first s b n = true) (hi : i ≤ n) : noteOK m first s b i = true := by
  induction n with
  | zero => have : i = 0 := by omega
            subst this; exact h
  | succ n ih =>
    by_cases e : i = n + 1
    · subst e; exact h
    · rw [noteOK_succ, Bool.and_eq_true] at h
      exact ih h.1 (by omega)
theorem noteC_err {c : Cel} {b : Bool} (hr : RightC c) (h : (noteC c b).2 ≠ 0) : noteC c b = (zC, 12) := by
  by_cases q : (if b then c.ce else c.po) = big
  · unfold noteC; rw [if_neg (by rw [right_iff.2 hr]; simp), if_pos q]
  · rw [noteC_fine hr q] at h; exact absurd rfl h
theorem notedL_len (m : Sh) (first : Int) (s : ByteArray) (b : Bool) (n : Nat) : (notedL m first s b n).length = n := by simp [notedL, keysN]
theorem putAllX_succ {l : List (KeyW × Cel)} {m : Sh} {c k : Nat} {x : KeyW × Cel} (h : l[k]? = some x) : putAllX (l.take (k + 1)) m c = (putX x.1 x.2 (putAllX (l.take k) m c).2 (putAllX (l.take k) m c).1, clkX x.1 (putAllX (l.take k) m c).1 (putAllX (l.take k) m c).2) := by
  unfold putAllX
  exact fold_snoc' _ l k x _ h
theorem notedL_mem {m : Sh} {c : Nat} {first : Int} {s : ByteArray} {b : Bool} {n : Nat} (hm : ShOK m c) {x : KeyW × Cel} (h : x ∈ notedL m first s b n) : CelOK x.2 := by
  unfold notedL at h
  obtain ⟨k, _, rfl⟩ := List.mem_map.1 h
  exact noteC_okA (hm.at_ k).1
theorem bneB (a b : Int) : (a == b) = decide (a = b) := by rw [Bool.eq_iff_iff, beq_iff_eq, decide_eq_true_eq]
theorem outR_len {x : KeyW × Cel} (h : x.2.h.length = 65) : (outR x).length = 74 := by
  unfold outR; rw [List.length_append, cR_len h]; rfl
theorem out_key {x : KeyW × Cel} {k : Nat} (hk : k = 2) : ((outR x).drop (0 + 0)).take k = kyR x.1 := by subst hk; rfl
theorem out_cell {x : KeyW × Cel} {k : Nat} (hk : k = 72) (h : x.2.h.length = 65) : ((outR x).drop (0 + 2)).take k = cR x.2 := by
  show (cR x.2).take k = _
  exact List.take_of_length_le (by rw [cR_len h]; omega)
theorem zeO : List.map D.v (tiOf Try.prog 113).zero = outR ((0, ⟨#[]⟩), zC) := by kernel_rfl
theorem build_out {k : KeyW} {x : Cel} (h : x.h.length = 65) : sets (sets (List.map D.v (tiOf Try.prog 113).zero) 0 [iD k.1, .v (.string k.2)]) 2 (cR x) = outR (k, x) := by
  rw [zeO]
  show sets (kyR k ++ cR zC) 2 (cR x) = kyR k ++ cR x
  have hz : (cR zC).length = 72 := cR_len rfl
  rw [sets_eq _ _ _ (by rw [List.length_append, hz, cR_len h]; simp), List.drop_of_length_le (by rw [List.length_append, hz, cR_len h]; simp)]
  simp
theorem s62 : (tiOf Try.prog 62).size = 2 := by kernel_rfl
theorem out_take {x : KeyW × Cel} {k : Nat} (hk : k = 74) (h : x.2.h.length = 65) : (outR x).take k = outR x := List.take_of_length_le (by rw [outR_len h]; omega)
theorem out_lens {x : KeyW × Cel} {k : Nat} (hk : k = 74) (h : x.2.h.length = 65) : (outR x).length = k := by rw [outR_len h]; omega
theorem out_fit {x : KeyW × Cel} (h : x.2.h.length = 65) : 0 + (outR x).length ≤ (List.map D.v (tiOf Try.prog 113).zero).length := by rw [zeO, outR_len h, outR_len rfl]; omega
theorem out_set {x : KeyW × Cel} (h : x.2.h.length = 65) : sets (List.map D.v (tiOf Try.prog 113).zero) 0 (outR x) = outR x := by
  rw [zeO, sets_eq _ _ _ (by rw [outR_len h, outR_len rfl]; omega), List.drop_of_length_le (by rw [outR_len h, outR_len rfl]; omega)]
  simp
theorem s113 : (tiOf Try.prog 113).size = 74 := by kernel_rfl
set_option maxHeartbeats 16000000 in
theorem shNote_sat (most : Int) (m : Sh) (c : Nat) (first last : Int) (s : ByteArray) (hm : ShOK m c) (h1 : in64 first) (h2 : in64 last) (hmo : 1 ≤ most ∧ most ≤ 1024) (hlen : m.length ≤ 100000) :
    Sat Try.prog 22 [.ptr 0 0, iA first, iA last, .d (.v (.string s))] (shH most m c) (iA (shNote most m c first last s).2) (shH most (shNote most m c first last s).1.1 (shNote most m c first last s).1.2) := by
  have r1 := shRoom_sat most m c first last s hm h1 h2 hmo hlen
  by_cases g1 : last < first
  · have e : shNote most m c first last s = ((m, c), 10) := by unfold shNote; rw [if_pos g1]
    rw [e]
    refine sat_of_vc (T := tiOf Try.prog) (E := E0) Try.func22 rfl rfl hE0 hm0 rfl ?_
    conv => whnf
    iterate 3
      repeat (any_goals (first
        | exact True.intro
        | (refine And.intro (fun _ => ?_) tf; conv => whnf)
        | (refine And.intro ft (fun _ => ?_); conv => whnf)
        | (refine And.intro (by kernel_rfl) ?_; conv => whnf)
        | (refine And.intro (by decide) ?_; conv => whnf)
        | (refine And.intro (fun _ => ?_) (fun h => absurd h (by decide)); conv => whnf)
        | (refine And.intro (fun h => absurd h (by decide)) (fun _ => ?_); conv => whnf)
        | (refine And.intro (fun _ => ?_) (fun _ => ?_) <;> conv => whnf)))
      all_goals try (exfalso; simp only [decide_eq_true_eq, decide_eq_false_iff_not, Bool.not_eq_true', Bool.not_eq_false', Bool.not_eq_true, Bool.not_eq_false, beq_iff_eq, bne_iff_ne, beq_eq_false_iff_ne, bne_eq_false_iff_eq, ne_eq, Decidable.not_not] at *; first | omega | contradiction | (simp_all; done) | (simp_all; omega))
      all_goals try (refine Or.inl ?_; conv => whnf)
    all_goals refine ⟨[], ?_⟩
    repeat (any_goals (first | exact True.intro | exact rfl | with_reducible_and_instances rfl | exact (by kernel_rfl) | refine And.intro ?_ ?_))
    all_goals conv => whnf
  by_cases g2 : shRoom most m first last s = true
  case neg =>
    have g2 : shRoom most m first last s = false := by simpa using g2
    have e : shNote most m c first last s = ((m, c), 20) := by unfold shNote; rw [if_neg g1, if_pos g2]
    rw [e]
    rw [g2] at r1
    refine sat_of_vc (T := tiOf Try.prog) (E := E0) Try.func22 rfl rfl hE0 hm0 rfl ?_
    conv => whnf
    iterate 3
      repeat (any_goals (first
        | exact True.intro
        | (refine And.intro (fun _ => ?_) tf; conv => whnf)
        | (refine And.intro ft (fun _ => ?_); conv => whnf)
        | (refine And.intro (by kernel_rfl) ?_; conv => whnf)
        | (refine And.intro (by decide) ?_; conv => whnf)
        | (refine And.intro (fun _ => ?_) (fun h => absurd h (by decide)); conv => whnf)
        | (refine And.intro (fun h => absurd h (by decide)) (fun _ => ?_); conv => whnf)
        | (refine And.intro (fun _ => ?_) (fun _ => ?_) <;> conv => whnf)
        | (refine ⟨_, _, r1.at2 0 1 rfl rfl rfl rfl rfl, ?_⟩; conv => whnf)))
      all_goals try (refine Or.inl ?_; conv => whnf)
    all_goals try exact (bno ‹decide (first > last) = true› (decide_eq_false (show ¬ first > last by omega))).elim
    all_goals refine ⟨[], ?_⟩
    repeat (any_goals (first | exact True.intro | exact rfl | with_reducible_and_instances rfl | exact (by kernel_rfl) | refine And.intro ?_ ?_))
    all_goals conv => whnf
  have g3 : last - first < most := by
    unfold shRoom at g2
    rw [if_neg g1] at g2
    by_cases q : most ≤ last - first
    · rw [if_pos q] at g2; exact Bool.noConfusion g2
    · omega
  obtain ⟨n, hn⟩ : ∃ n : Nat, last - first = n := ⟨(last - first).toNat, by omega⟩
  have e : shNote most m c first last s = if noteOK m first s (decide (first = last)) (n + 1) then (putAllX (notedL m first s (decide (first = last)) (n + 1)) m c, 0) else ((m, c), 12) := by
    unfold shNote
    rw [if_neg g1, if_neg (by rw [g2]; simp), hn]; rfl
  rw [e]
  rw [g2] at r1
  rw [← bneB first last]
  clear e
  refine sat_of_vc (T := tiOf Try.prog) (E := E0) Try.func22 rfl rfl hE0 hm0 rfl ?_
  conv => whnf
  iterate 3
    repeat (any_goals (first
      | exact True.intro
      | (refine And.intro (fun _ => ?_) tf; conv => whnf)
      | (refine And.intro ft (fun _ => ?_); conv => whnf)
      | (refine And.intro (by kernel_rfl) ?_; conv => whnf)
      | (refine And.intro (by decide) ?_; conv => whnf)
      | (refine And.intro (fun _ => ?_) (fun h => absurd h (by decide)); conv => whnf)
      | (refine And.intro (fun h => absurd h (by decide)) (fun _ => ?_); conv => whnf)
      | (refine And.intro (fun _ => ?_) (fun _ => ?_) <;> conv => whnf)
      | (refine ⟨_, _, r1.at2 0 1 rfl rfl rfl rfl rfl, ?_⟩; conv => whnf)))
    all_goals try (refine Or.inl ?_; conv => whnf)
  all_goals try exact (bno ‹decide (first > last) = true› (decide_eq_false (show ¬ first > last by omega))).elim
  all_goals try (exfalso; simp only [decide_eq_true_eq, decide_eq_false_iff_not, Bool.not_eq_true', Bool.not_eq_false', Bool.not_eq_true, Bool.not_eq_false, beq_iff_eq, bne_iff_ne, beq_eq_false_iff_ne, bne_eq_false_iff_eq, ne_eq, Decidable.not_not] at *; first | omega | contradiction | (simp_all; done) | (simp_all; omega))
  have wn : IntKind.i64.wrap (IntKind.i64.wrap (last - first) + 1) = ((n + 1 : Nat) : Int) := by
    rw [hn, wi (n := (n : Int)) (by omega) (by omega), wi (by omega) (by omega)]; rfl
  refine ⟨Nat, fun i => i ≤ n + 1 ∧ noteOK m first s (first == last) i = true, fun i => ([(29, iA i), (28, iA (n + 1 : Nat)), (9, .own 2), (0, .ptr 0 0), (1, iA first), (2, iA last), (3, .d (.v (.string s)))], [.cells [iA most, .mp 1], shO m c, .sl 74 ((notedL m first s (first == last) i).map outR)]), fun i => n + 1 - i, ⟨0, ⟨Nat.zero_le _, rfl⟩, ?_⟩, ?_⟩
  · all_goals refine ⟨[], ?_⟩
    repeat (any_goals (first | exact True.intro | exact rfl | with_reducible_and_instances rfl | exact (by kernel_rfl) | refine And.intro ?_ ?_))
    all_goals conv => whnf
    show iA (IntKind.i64.wrap (IntKind.i64.wrap (last - first) + 1)) = iA (n + 1 : Nat)
    rw [wn]
  rintro i ⟨hi, hok⟩
  have hi : i ≤ n + 1 := hi
  have hsn := notedL_succ m first s (first == last) i
  have hos := noteOK_succ m first s (first == last) i
  have hll : ((notedL m first s (first == last) i).map outR).length = i := by rw [List.length_map, notedL_len]
  conv => whnf
  by_cases hlt : i < n + 1
  · have wf : IntKind.i64.wrap (first + (i : Int)) = first + i := wi (by unfold in64 at h1; omega) (by unfold in64 at h2; omega)
    rw [← wf] at hsn hos
    obtain ⟨k1, k2⟩ := hm.at_ (IntKind.i64.wrap (first + (i : Int)), s)
    have n1 := note_sat (cellAt m (IntKind.i64.wrap (first + (i : Int)), s)) (first == last) k1 (right_sat_c _ k1)
    have la := k1.hl
    have ln := (noteC_okA (c := cellAt m (IntKind.i64.wrap (first + (i : Int)), s)) (b := (first == last)) k1).hl
    have hbo := build_out (k := (IntKind.i64.wrap (first + (i : Int)), s)) ln
    have hne := fun h => noteC_err (c := cellAt m (IntKind.i64.wrap (first + (i : Int)), s)) (b := (first == last)) k2 h
    rw [hok, Bool.true_and] at hos
    have hol := outR_len (x := ((IntKind.i64.wrap (first + (i : Int)), s), (noteC (cellAt m (IntKind.i64.wrap (first + (i : Int)), s)) (first == last)).1)) ln
    generalize (noteC (cellAt m (IntKind.i64.wrap (first + (i : Int)), s)) (first == last)) = NE at *
    iterate 6
      repeat (any_goals (first
        | exact True.intro
        | (refine ⟨_, hbo, ?_⟩; conv => whnf)
        | (refine And.intro hol ?_; conv => whnf)
        | (refine ⟨_, drop_id, ?_⟩; conv => whnf)
        | (refine ⟨_, _, at_n, ?_⟩; conv => whnf)
        | (refine ⟨_, _, at_hi, ?_⟩; conv => whnf)
        | (refine ⟨_, _, at_lo, ?_⟩; conv => whnf)
        | (refine ⟨_, _, at_mn, ?_⟩; conv => whnf)
        | (refine ⟨_, _, at_mx, ?_⟩; conv => whnf)
        | (refine ⟨_, _, at_ce, ?_⟩; conv => whnf)
        | (refine ⟨_, _, at_po, ?_⟩; conv => whnf)
        | (refine ⟨_, whole_z sC, clenz sC, ?_⟩; conv => whnf)
        | (refine ⟨_, setzC, ?_⟩; conv => whnf)
        | (refine And.intro (clenz sC) ?_; conv => whnf)
        | (refine And.intro fitzC ?_; conv => whnf)
        | (refine ⟨_, whole_cell sC la, clen sC la, ?_⟩; conv => whnf)
        | (refine And.intro (clen sC la) ?_; conv => whnf)
        | (refine And.intro (fitC la) ?_; conv => whnf)
        | (refine ⟨_, setC la, ?_⟩; conv => whnf)
        | (refine ⟨_, whole_cell sC ln, clen sC ln, ?_⟩; conv => whnf)
        | (refine And.intro (clen sC ln) ?_; conv => whnf)
        | (refine And.intro (fitC ln) ?_; conv => whnf)
        | (refine ⟨_, setC ln, ?_⟩; conv => whnf)
        | (refine ⟨_, whole_z sF, clenz sF, ?_⟩; conv => whnf)
        | (refine ⟨_, setzF, ?_⟩; conv => whnf)
        | (refine And.intro (clenz sF) ?_; conv => whnf)
        | (refine And.intro fitzF ?_; conv => whnf)
        | (refine ⟨_, whole_cell sF la, clen sF la, ?_⟩; conv => whnf)
        | (refine And.intro (clen sF la) ?_; conv => whnf)
        | (refine And.intro (fitF la) ?_; conv => whnf)
        | (refine ⟨_, setF la, ?_⟩; conv => whnf)
        | (refine ⟨_, whole_cell sF ln, clen sF ln, ?_⟩; conv => whnf)
        | (refine And.intro (clen sF ln) ?_; conv => whnf)
        | (refine And.intro (fitF ln) ?_; conv => whnf)
        | (refine ⟨_, setF ln, ?_⟩; conv => whnf)
        | (refine And.intro (fit1 la (by decide)) ?_; conv => whnf)
        | (refine And.intro (fit1 ln (by decide)) ?_; conv => whnf)
        | (refine And.intro (fit1 rfl (by decide)) ?_; conv => whnf)
        | (refine ⟨_, sum_cell s25, rfl, ?_⟩; conv => whnf)
        | (refine ⟨_, set_n _, ?_⟩; conv => whnf)
        | (refine ⟨_, set_mn _, ?_⟩; conv => whnf)
        | (refine ⟨_, set_mx _, ?_⟩; conv => whnf)
        | (refine ⟨_, set_ce _, ?_⟩; conv => whnf)
        | (refine ⟨_, set_po _, ?_⟩; conv => whnf)
        | (refine ⟨_, set_s _, ?_⟩; conv => whnf)
        | (refine ⟨_, set_hi _, ?_⟩; conv => whnf)
        | (refine ⟨_, set_lo _, ?_⟩; conv => whnf)
        | (refine And.intro (fun _ => ?_) tf; conv => whnf)
        | (refine And.intro ft (fun _ => ?_); conv => whnf)
        | (refine And.intro (by kernel_rfl) ?_; conv => whnf)
        | (refine And.intro (by decide) ?_; conv => whnf)
        | (refine And.intro (fun _ => ?_) (fun h => absurd h (by decide)); conv => whnf)
        | (refine And.intro (fun h => absurd h (by decide)) (fun _ => ?_); conv => whnf)
        | (refine And.intro (fun _ => ?_) (fun _ => ?_) <;> conv => whnf)
        | (refine ⟨_, _, sh_look (k := (IntKind.i64.wrap (first + (i : Int)), s)) rfl, ?_⟩; conv => whnf)
        | (refine ⟨_, _, n1.pu rfl rfl, ?_⟩; conv => whnf)
        | (refine ⟨_, _, ap 74 600 (by kernel_rfl) rfl rfl (by simp [hll]; omega), ?_⟩; conv => whnf)))
      all_goals try (refine Or.inl ?_; conv => whnf)
    all_goals try exact (bno (decide_eq_true (show (i : Int) < ((n + 1 : Nat) : Int) by omega)) ‹_›).elim
    · have he : NE.2 ≠ 0 := by have := ‹(NE.2 != 0) = true›; simpa using this
      have hf : noteOK m first s (first == last) (n + 1) = false := by
        rw [← Bool.not_eq_true]
        intro q
        have := noteOK_le q (show i + 1 ≤ n + 1 by omega)
        rw [hos] at this
        exact he (of_decide_eq_true this)
      rw [hne he, hf]
      all_goals refine ⟨[], ?_⟩
      repeat (any_goals (first | exact True.intro | exact rfl | with_reducible_and_instances rfl | exact (by kernel_rfl) | refine And.intro ?_ ?_))
      all_goals conv => whnf
    · have he : NE.2 = 0 := by have := ‹(NE.2 != 0) = false›; simpa using this
      refine ⟨i + 1, ⟨hlt, by rw [hos, decide_eq_true he]⟩, show n + 1 - (i + 1) < n + 1 - i by omega, ?_⟩
      all_goals refine ⟨[(2, 6)], ?_⟩
      repeat (any_goals (first | exact True.intro | exact rfl | with_reducible_and_instances rfl | exact (by kernel_rfl) | refine And.intro ?_ ?_))
      all_goals conv => whnf
      · exact wk1 (by omega)
      · show AObj.sl 74 ((notedL m first s (first == last) i).map outR ++ [outR ((IntKind.i64.wrap (first + (i : Int)), s), NE.1)]) = .sl 74 ((notedL m first s (first == last) (i + 1)).map outR)
        rw [hsn, List.map_append]; rfl
  have hie : i = n + 1 := by omega
  subst hie
  rw [hok]
  have hmem : ∀ x ∈ notedL m first s (first == last) (n + 1), CelOK x.2 := fun x hx => notedL_mem hm hx
  have hNl := notedL_len m first s (first == last) (n + 1)
  generalize notedL m first s (first == last) (n + 1) = N at *
  clear hsn hos
  have hgo : (if true = true then (putAllX N m c, (0 : Int)) else ((m, c), 12)) = (putAllX N m c, 0) := rfl
  rw [hgo]
  iterate 3
    repeat (any_goals (first
      | exact True.intro
      | (refine And.intro (fun _ => ?_) tf; conv => whnf)
      | (refine And.intro ft (fun _ => ?_); conv => whnf)
      | (refine And.intro (by kernel_rfl) ?_; conv => whnf)
      | (refine And.intro (by decide) ?_; conv => whnf)
      | (refine And.intro (fun _ => ?_) (fun h => absurd h (by decide)); conv => whnf)
      | (refine And.intro (fun h => absurd h (by decide)) (fun _ => ?_); conv => whnf)
      | (refine And.intro (fun _ => ?_) (fun _ => ?_) <;> conv => whnf)))
    all_goals try (refine Or.inl ?_; conv => whnf)
  all_goals try exact (bno ‹_› (decide_eq_false (show ¬ ((n + 1 : Nat) : Int) < ((n + 1 : Nat) : Int) by omega))).elim
  refine ⟨Nat × Sh × Nat, fun y => y.1 ≤ n + 1 ∧ y.2 = putAllX (N.take y.1) m c, fun y => ([(62, iA y.1), (61, iA (n + 1 : Nat)), (60, .own 2), (0, .ptr 0 0)], [.cells [iA most, .mp 1], shO y.2.1 y.2.2, .sl 74 (N.map outR)]), fun y => n + 1 - y.1, ⟨(0, m, c), ⟨Nat.zero_le _, rfl⟩, ?_⟩, ?_⟩
  · all_goals refine ⟨[], ?_⟩
    repeat (any_goals (first | exact True.intro | exact rfl | with_reducible_and_instances rfl | exact (by kernel_rfl) | refine And.intro ?_ ?_))
    all_goals conv => whnf
    show iA ((N.map outR).length : Nat) = iA (n + 1 : Nat)
    rw [List.length_map, hNl]
  rintro ⟨k, m', c'⟩ ⟨hk, hy⟩
  have hk : k ≤ n + 1 := hk
  have hy : (m', c') = putAllX (N.take k) m c := hy
  conv => whnf
  by_cases hlt : k < n + 1
  · have hkN : k < N.length := by rw [hNl]; exact hlt
    have hx : N[k]? = some N[k] := List.getElem?_eq_getElem hkN
    have hc := hmem _ (List.getElem_mem hkN)
    generalize N[k] = x at hx hc
    have hxl := hc.hl
    have hol := outR_len hxl
    have hps := putAllX_succ (m := m) (c := c) hx
    rw [← hy] at hps
    have hg := map_get (f := outR) hx
    iterate 6
      repeat (any_goals (first
        | exact True.intro
        | (refine ⟨k, rfl, show k < (N.map outR).length by rw [List.length_map]; omega, ?_⟩; conv => whnf)
        | (refine ⟨outR x, hg, ?_⟩; conv => whnf)
        | (refine ⟨_, out_take s113 hxl, out_lens s113 hxl, ?_⟩; conv => whnf)
        | (refine And.intro (out_lens s113 hxl) ?_; conv => whnf)
        | (refine And.intro (out_fit hxl) ?_; conv => whnf)
        | (refine ⟨_, out_set hxl, ?_⟩; conv => whnf)
        | (refine ⟨_, out_key s62, rfl, ?_⟩; conv => whnf)
        | (refine ⟨_, out_cell sC hxl, clen sC hxl, ?_⟩; conv => whnf)
        | (refine ⟨_, drop_id, ?_⟩; conv => whnf)
        | (refine ⟨_, _, at_n, ?_⟩; conv => whnf)
        | (refine ⟨_, _, at_hi, ?_⟩; conv => whnf)
        | (refine ⟨_, _, at_lo, ?_⟩; conv => whnf)
        | (refine ⟨_, _, at_mn, ?_⟩; conv => whnf)
        | (refine ⟨_, _, at_mx, ?_⟩; conv => whnf)
        | (refine ⟨_, _, at_ce, ?_⟩; conv => whnf)
        | (refine ⟨_, _, at_po, ?_⟩; conv => whnf)
        | (refine ⟨_, whole_z sC, clenz sC, ?_⟩; conv => whnf)
        | (refine ⟨_, setzC, ?_⟩; conv => whnf)
        | (refine And.intro (clenz sC) ?_; conv => whnf)
        | (refine And.intro fitzC ?_; conv => whnf)
        | (refine ⟨_, whole_cell sC hxl, clen sC hxl, ?_⟩; conv => whnf)
        | (refine And.intro (clen sC hxl) ?_; conv => whnf)
        | (refine And.intro (fitC hxl) ?_; conv => whnf)
        | (refine ⟨_, setC hxl, ?_⟩; conv => whnf)
        | (refine ⟨_, whole_z sF, clenz sF, ?_⟩; conv => whnf)
        | (refine ⟨_, setzF, ?_⟩; conv => whnf)
        | (refine And.intro (clenz sF) ?_; conv => whnf)
        | (refine And.intro fitzF ?_; conv => whnf)
        | (refine ⟨_, whole_cell sF hxl, clen sF hxl, ?_⟩; conv => whnf)
        | (refine And.intro (clen sF hxl) ?_; conv => whnf)
        | (refine And.intro (fitF hxl) ?_; conv => whnf)
        | (refine ⟨_, setF hxl, ?_⟩; conv => whnf)
        | (refine And.intro (fit1 hxl (by decide)) ?_; conv => whnf)
        | (refine And.intro (fit1 rfl (by decide)) ?_; conv => whnf)
        | (refine ⟨_, sum_cell s25, rfl, ?_⟩; conv => whnf)
        | (refine ⟨_, set_n _, ?_⟩; conv => whnf)
        | (refine ⟨_, set_mn _, ?_⟩; conv => whnf)
        | (refine ⟨_, set_mx _, ?_⟩; conv => whnf)
        | (refine ⟨_, set_ce _, ?_⟩; conv => whnf)
        | (refine ⟨_, set_po _, ?_⟩; conv => whnf)
        | (refine ⟨_, set_s _, ?_⟩; conv => whnf)
        | (refine ⟨_, set_hi _, ?_⟩; conv => whnf)
        | (refine ⟨_, set_lo _, ?_⟩; conv => whnf)
        | (refine And.intro (fun _ => ?_) tf; conv => whnf)
        | (refine And.intro ft (fun _ => ?_); conv => whnf)
        | (refine And.intro (by kernel_rfl) ?_; conv => whnf)
        | (refine And.intro (by decide) ?_; conv => whnf)
        | (refine And.intro (fun _ => ?_) (fun h => absurd h (by decide)); conv => whnf)
        | (refine And.intro (fun h => absurd h (by decide)) (fun _ => ?_); conv => whnf)
        | (refine And.intro (fun _ => ?_) (fun _ => ?_) <;> conv => whnf)
        | (refine ⟨_, _, sh_put x.2 rfl, ?_⟩; conv => whnf)))
      all_goals try (refine Or.inl ?_; conv => whnf)
    all_goals try exact (bno (decide_eq_true (show (k : Int) < ((n + 1 : Nat) : Int) by omega)) ‹_›).elim
    refine ⟨(k + 1, putX x.1 x.2 c' m', clkX x.1 m' c'), ⟨hlt, hps.symm⟩, show n + 1 - (k + 1) < n + 1 - k by omega, ?_⟩
    all_goals refine ⟨[], ?_⟩
    repeat (any_goals (first | exact True.intro | exact rfl | with_reducible_and_instances rfl | exact (by kernel_rfl) | refine And.intro ?_ ?_))
    all_goals conv => whnf
    exact wk1 (by omega)
  · have hke : k = n + 1 := by omega
    subst hke
    rw [List.take_of_length_le (by omega)] at hy
    rw [← hy]
    iterate 4
      repeat (any_goals (first
        | exact True.intro
        | (refine And.intro (fun _ => ?_) tf; conv => whnf)
        | (refine And.intro ft (fun _ => ?_); conv => whnf)
        | (refine And.intro (by kernel_rfl) ?_; conv => whnf)
        | (refine And.intro (by decide) ?_; conv => whnf)
        | (refine And.intro (fun _ => ?_) (fun h => absurd h (by decide)); conv => whnf)
        | (refine And.intro (fun h => absurd h (by decide)) (fun _ => ?_); conv => whnf)
        | (refine And.intro (fun _ => ?_) (fun _ => ?_) <;> conv => whnf)))
      all_goals try (refine Or.inl ?_; conv => whnf)
    all_goals try exact (bno ‹_› (decide_eq_false (show ¬ ((n + 1 : Nat) : Int) < ((n + 1 : Nat) : Int) by omega))).elim
    all_goals refine ⟨[], ?_⟩
    repeat (any_goals (first | exact True.intro | exact rfl | with_reducible_and_instances rfl | exact (by kernel_rfl) | refine And.intro ?_ ?_))
    all_goals conv => whnf
end Go.Proofs.Ytbjmdnemeidpjaa
/- slices.SortFunc over a slice of the call's own, by a comparison that tells all apart. No program is named here. -/
namespace Go.Proofs.Ytbjmdnemeidpjaa
set_option linter.unusedSimpArgs false
set_option linter.unusedVariables false
open Go.RowKit Go.Sort Go.Shelf Go.Lib
/-- A comparison: two blocks at most are laid, nothing else. -/
def CmpAt {α : Type} (P : Program) (g : Nat) (enc : α → List Value) (cf : α → α → Int) : Prop := ∀ (x y : α) (W : World), Calls P g #[.agg (enc x).toArray, .agg (enc y).toArray] W fun e w' => e = .returned (.int .i64 (cf x y)) ∧ ∃ q os', w' = grow (W.drewN q) os'
def sorted {α : Type} (cf : α → α → Int) (l : List α) : List α := l.mergeSort fun x y => !(ltOf cf) y x
theorem flat_get2 {α : Type} {s : Nat} {f : α → List Value} (hs : ∀ x, (f x).length = s) : ∀ (l : List α) (j : Nat) (hj : j < l.length * s), (l.map f).flatten[j]? = (l[j / s]?).bind fun x => (f x)[j % s]?
  | [], j, hj => by simp at hj
  | x :: l, j, hj => by
    have h0 : 0 < s := by
      rcases Nat.eq_zero_or_pos s with e | e
      · subst e; simp at hj
      · exact e
    rw [List.map_cons, List.flatten_cons]
    by_cases h : j < s
    · rw [List.getElem?_append_left (by rw [hs]; exact h), Nat.div_eq_of_lt h, Nat.mod_eq_of_lt h]; rfl
    · rw [List.getElem?_append_right (by rw [hs]; omega), hs, flat_get2 hs l (j - s) (by rw [List.length_cons, Nat.add_mul] at hj; omega)]
      have e1 : j / s = (j - s) / s + 1 := by rw [Nat.div_eq_sub_div h0 (by omega)]
      have e2 : j % s = (j - s) % s := Nat.mod_eq_sub_mod (by omega)
      rw [e1, e2, List.getElem?_cons_succ]
theorem flatK_get {α : Type} [Inhabited α] {enc : α → List Value} {k : Nat} (hk : ∀ x, (enc x).length = k) (l : List α) {j : Nat} (hj : j < l.length * k) : some ((flatK enc k l.toArray)[j]!) = (l.map enc).flatten[j]? := by
  have h0 : 0 < k := by
    rcases Nat.eq_zero_or_pos k with e | e
    · subst e; simp at hj
    · exact e
  have hd : j / k < l.length := (Nat.div_lt_iff_lt_mul h0).2 hj
  rw [get_flatK enc k l.toArray j (by simpa using hj), flat_get2 hk l j hj, List.getElem?_eq_getElem hd]
  have hm := Nat.mod_lt j h0
  simp only [Option.bind_some]
  have e : l.toArray[j / k]! = l[j / k] := by simp [hd]
  rw [e, List.getElem?_eq_getElem (by rw [hk]; exact hm)]
  simp [hk, hm]
theorem rds_v {w : World} {F : Nat → Prop} : ∀ {xs vs : List Value}, RDs w F (xs.map D.v) vs → vs = xs
  | [], _, .nil => rfl
  | x :: xs, _, .cons (.v _) _ hr => by rw [rds_v hr]
theorem v_rds (w : World) (F : Nat → Prop) : ∀ {xs : List Value}, (∀ x ∈ xs, x.oneCell' = true) → RDs w F (xs.map D.v) xs
  | [], _ => .nil
  | x :: xs, h => .cons (.v x) (h x (List.mem_cons_self ..)) (v_rds w F fun y hy => h y (List.mem_cons_of_mem _ hy))
def encD {α : Type} (enc : α → List Value) (x : α) : List D := (enc x).map D.v
theorem encD_flat {α : Type} (enc : α → List Value) (l : List α) : (l.map (encD enc)).flatten = (l.map enc).flatten.map D.v := by
  induction l with
  | nil => rfl
  | cons x l ih => simp [encD, ih]
theorem grownBy_sortK {w : World} {g off n : Nat} {os : Array Obj} (F : Array Value) : w.grownBy (grow (putRow id (Sort.ahead w n) g off F) os) (some g) := by
  refine ⟨rfl, rfl, rfl, ?_, fun b hb hr => ?_⟩
  · simp [grow, putRow, mapBlock, Sort.ahead]
  · have hne : g ≠ b := fun h => hr (by rw [h])
    have hlt : b < (putRow id (Sort.ahead w n) g off F).heap.size := by simpa [putRow, mapBlock, Sort.ahead] using hb
    rw [heap_grow_old _ _ hlt]
    simp [putRow, mapBlock, Sort.ahead, Array.getElem?_modify, hne]
theorem sorted_len {α : Type} (cf : α → α → Int) (l : List α) : (sorted cf l).length = l.length := List.length_mergeSort _
theorem sorted_perm {α : Type} (cf : α → α → Int) (l : List α) : (sorted cf l).Perm l := List.mergeSort_perm _ _
/-- slices.SortFunc over a slice of the call's own. -/
theorem sort_call {P : Program} {ρr : Ren} {α : Type} [Inhabited α] (L6 : SlLaysF0.n6 P ρr) {k : Nat} (aE : ∀ w, (isAgg (ρr.t 24)).run P w = .ok true w) (zE : ∀ w, (Go.sizeOf (ρr.t 24)).run P w = .ok k w) (enc : α → List Value) (hk : ∀ x, (enc x).length = k) (h1 : ∀ x, ∀ v ∈ enc x, v.oneCell' = true) (cf : α → α → Int) (hO : SWO (ltOf cf)) (hT : ∀ x y, (ltOf cf) x y = false → (ltOf cf) y x = false → x = y) {g : Nat}
    (eg : ∀ args w, (callFunc g args).run P w = .ok (.enter g args) w) (hc : CmpAt P g enc cf) (l : List α) (hsz : l.length < 4611686018427387904) {i n : Nat} {Lh : List AObj} (hi : Lh[i]? = some (.sl k (l.map (encD enc)))) :
    CallOK P (ρr.f 6) [.own i, .fn (.func g) [] []] Lh n ⟨[i], [(i, .sl k ((sorted cf l).map (encD enc)))], []⟩ (.tup []) := by
  intro H F ρ w vals E hrs _ hA
  cases hA with | cons hA1 hA =>
  cases hA with | cons hA2 hA =>
  cases hA
  cases hA2 with | fn q1 q2 =>
  cases q1; cases q2
  cases hA1 with | @own _ A m c hρ =>
  have hHi : H i = some (.sl k (l.map (encD enc))) := (hrs i (List.mem_singleton.2 rfl)).trans hi
  obtain ⟨h, e1, ⟨vs, hOw, hRD, hlen⟩, hb⟩ := E.rep i _ hHi rfl
  rw [hρ] at e1; injection e1 with e1; subst e1
  rw [encD_flat] at hRD
  have hvs := rds_v hRD
  subst hvs
  rw [List.length_map] at hOw
  have hrows : ∀ (l : List α), ∀ r ∈ l.map (encD enc), r.length = k := fun l r hr => by
    obtain ⟨x, _, rfl⟩ := List.mem_map.1 hr
    simp [encD, hk]
  by_cases hl : l = []
  · subst hl
    have hm : m = 0 := by
      rcases hOw.2 with ⟨e, _⟩ | ⟨a, e, _⟩ | ⟨g, off, cap, e, _⟩ <;> injection e with _ e _ <;> simpa using e
    subst hm
    refine (AnyF.slices_SortFunc_none L6 A c _ w).mono ?_
    rintro e w' ⟨rfl, rfl⟩
    refine ⟨_, rfl, F, ρ, ?_⟩
    have hu := E.upd (o' := .sl k ((sorted cf ([] : List α)).map (encD enc))) hHi rfl hρ (World.grownBy.refl _ _) ⟨_, by simpa [sorted] using hOw, by simpa [sorted] using RDs.nil, hrows _⟩
    exact ⟨hu.1, Keep.refl ρ, hu.2, .tup .nil⟩
  have hpos : 0 < l.length := List.length_pos_iff.2 hl
  rcases hOw.2 with ⟨_, e⟩ | ⟨a, _, _, e⟩ | ⟨b, off, cap, e, hlo, hbs, hcap, hmax, hcell, hread⟩
  · omega
  · omega
  injection e with eA em ec
  subst eA em ec
  have hsize : ∀ (l : List α), (l.map enc).flatten.length = l.length * k := fun l => by
    induction l with
    | nil => simp
    | cons x l ih => rw [List.map_cons, List.flatten_cons, List.length_append, hk, ih, List.length_cons, Nat.add_mul]; omega
  have hH : HoldsK enc k w b off l.toArray := fun j hj => by
    rw [size_flatK, List.size_toArray] at hj
    have hjc : j < c * k := Nat.lt_of_lt_of_le hj (Nat.mul_le_mul_right _ hcap)
    refine ⟨?_, (hcell j hjc).2⟩
    rw [hread j (by rw [hsize]; exact hj)]
    have := flatK_get hk l hj
    rw [List.getElem?_eq_getElem (by rw [hsize]; exact hj)] at this
    exact this.symm
  refine (AnyQ.slices_SortFunc_total L6 k aE zE enc hk h1 cf hO g #[] b off c l.toArray w eg (fun _ _ _ _ x y => by simpa using hc x y _) hH hbs (by simpa using hsz) hT).mono ?_
  rintro e w' ⟨rfl, q, os, rfl⟩
  refine ⟨_, rfl, F, ρ, ?_⟩
  have hd : (sorted cf l).toArray.size = l.toArray.size := by simp [sorted_len]
  have hg : w.grownBy (sortWorldK enc k w b off q (sorted cf l).toArray os) (some b) := grownBy_sortK _
  have hcells : ∀ (j : Nat), j < l.length * k → (sortWorldK enc k w b off q (sorted cf l).toArray os).cell? ⟨b, off + j, none⟩ = ((sorted cf l).map enc).flatten[j]? := fun j hj => by
    have hj2 : j < (sorted cf l).length * k := by rw [sorted_len]; exact hj
    rw [← flatK_get hk _ hj2]
    unfold sortWorldK
    rw [World.cell?_of_block (w := putRowK enc k (Sort.ahead w q) b off (sorted cf l).toArray) (heap_grow_old _ _ (by simpa [putRowK, putRow, mapBlock, Sort.ahead] using hbs))]
    exact cell?_putRow id (Sort.ahead w q) b off (flatK enc k l.toArray) _ hH (by rw [size_flatK, size_flatK, hd]) j (by rw [size_flatK]; simpa using hj2)
  have hfr : ∀ (j : Nat), j < c * k → ((sortWorldK enc k w b off q (sorted cf l).toArray os).cell? ⟨b, off + j, none⟩).isSome = true ∧ (sortWorldK enc k w b off q (sorted cf l).toArray os).frozen? ⟨b, off + j, none⟩ = false := fun j hj => by
    unfold sortWorldK
    have hlt : b < (putRowK enc k (Sort.ahead w q) b off (sorted cf l).toArray).heap.size := by simpa [putRowK, putRow, mapBlock, Sort.ahead] using hbs
    rw [World.cell?_of_block (w := putRowK enc k (Sort.ahead w q) b off (sorted cf l).toArray) (heap_grow_old _ _ hlt), World.frozen?_of_block (w := putRowK enc k (Sort.ahead w q) b off (sorted cf l).toArray) (heap_grow_old _ _ hlt)]
    refine ⟨?_, by unfold putRowK; rw [frozen?_putRow]; exact (hcell j hj).2⟩
    by_cases hjl : j < l.length * k
    · unfold putRowK
      rw [cell?_putRow id (Sort.ahead w q) b off (flatK enc k l.toArray) _ hH (by rw [size_flatK, size_flatK, hd]) j (by rw [size_flatK, hd]; simpa using hjl)]
      rfl
    · unfold putRowK
      rw [cell?_putRow_other id _ _ _ _ _ (.inr (.inr (by rw [size_flatK, hd]; simp; omega)))]
      exact (hcell j hj).1
  have hOw' : Ow (sortWorldK enc k w b off q (sorted cf l).toArray os) 0 0 k (.slice (some ⟨b, off, none⟩) l.length c) ((sorted cf l).map (encD enc)).length ((sorted cf l).map enc).flatten := by
    refine ⟨by rw [hsize, List.length_map], .inr (.inr ⟨b, off, c, ?_, Nat.zero_le _, Nat.lt_of_lt_of_le hbs hg.size, ?_, hmax, hfr, fun j hj => ?_⟩)⟩
    · rw [List.length_map, sorted_len]
    · rw [List.length_map, sorted_len]; exact hcap
    · rw [hsize, sorted_len] at hj
      rw [hcells j hj, List.getElem?_eq_getElem]
  have hu := E.upd (o' := .sl k ((sorted cf l).map (encD enc))) hHi rfl hρ hg ⟨_, hOw', by
    rw [encD_flat]
    refine v_rds _ _ fun v hv => ?_
    obtain ⟨xs, hx, hv⟩ := List.mem_flatten.1 hv
    obtain ⟨x, _, rfl⟩ := List.mem_map.1 hx
    exact h1 x v hv, hrows _⟩
  exact ⟨hu.1, Keep.refl ρ, hu.2, .tup .nil⟩
end Go.Proofs.Ytbjmdnemeidpjaa
/- gap.Meet; sweep.Agree. -/
namespace Go.Proofs.Ytbjmdnemeidpjaa
open Go.RowKit
set_option linter.unusedVariables false
set_option linter.unusedSimpArgs false
end Go.Proofs.Ytbjmdnemeidpjaa
/- The document's gaps: Right. -/
namespace Go.Proofs.Ytbjmdnemeidpjaa
set_option linter.unusedSimpArgs false
set_option linter.unusedVariables false
open Go.RowKit
set_option maxRecDepth 100000
end Go.Proofs.Ytbjmdnemeidpjaa
/- The document's sweep: Votes, Best, Agree. -/
namespace Go.Proofs.Ytbjmdnemeidpjaa
set_option linter.unusedSimpArgs false
set_option linter.unusedVariables false
open Go.RowKit
set_option maxRecDepth 100000
end Go.Proofs.Ytbjmdnemeidpjaa
/- The document's votes: plain laws. -/
namespace Go.Proofs.Ytbjmdnemeidpjaa
set_option linter.unusedSimpArgs false
set_option linter.unusedVariables false
open Go.RowKit
end Go.Proofs.Ytbjmdnemeidpjaa
/- The shelf: how keys are compared. -/
namespace Go.Proofs.Ytbjmdnemeidpjaa
open Go.RowKit Go.Sort
set_option linter.unusedVariables false
set_option linter.unusedSimpArgs false
abbrev KeyZ := Int × ByteArray
def encK (k : KeyZ) : List Value := [.int .i64 k.1, .string k.2]
def cmpS (a b : ByteArray) : Int := if a.toList < b.toList then -1 else if b.toList < a.toList then 1 else 0
def cmpK (x y : KeyZ) : Int := if Lib.compareInt x.1 y.1 ≠ 0 then Lib.compareInt x.1 y.1 else cmpS x.2 y.2
theorem cmpInt_any (x y : Int) (w : World) : Calls Try.prog 94 #[.int .i64 x, .int .i64 y] w fun e w' => e = .returned (.int .i64 (Lib.compareInt x y)) ∧ w' = w := AnyG.cmp_Compare_int Try.cmpFn x y w
theorem isNaN_any (a : ByteArray) (w : World) : Calls Try.prog 111 #[.string a] w fun e w' => e = .returned (.bool false) ∧ w' = w := by
  go_enter Try.func111, Try.ntmps111
  go_wp2
  go_ret
  exact ⟨by simp, rfl⟩
theorem str_irrefl (a : ByteArray) : ¬ a.toList < a.toList := List.lt_irrefl _
set_option maxRecDepth 100000 in
theorem cmpStr_any (a b : ByteArray) (w : World) : Calls Try.prog 95 #[.string a, .string b] w fun e w' => e = .returned (.int .i64 (cmpS a b)) ∧ w' = w := by
  have N1 := hide (fun W => isNaN_any a W)
  have N2 := hide (fun W => isNaN_any b W)
  have e1 := bytesLess_eq a.toList b.toList
  by_cases h1 : a.toList < b.toList
  · have e : cmpS a b = -1 := by unfold cmpS; rw [if_pos h1]
    rw [decide_eq_true h1] at e1
    rw [e]
    clear e h1
    go_enter Try.func95, Try.ntmps95
    go_wp2_with (go_at_call 111; first | (refine (N1.out _).mono ?_; rintro e w' ⟨rfl, rfl⟩) | (refine (N2.out _).mono ?_; rintro e w' ⟨rfl, rfl⟩))
    go_ret
    exact ⟨rfl, rfl⟩
  rw [decide_eq_false h1] at e1
  by_cases h2 : b.toList < a.toList
  · have e : cmpS a b = 1 := by unfold cmpS; rw [if_neg h1, if_pos h2]
    have e2 : (a.toList == b.toList) = false := by rw [beq_eq_false_iff_ne]; intro q; rw [q] at h2; exact str_irrefl _ h2
    rw [e]
    clear e h1 h2
    go_enter Try.func95, Try.ntmps95
    go_wp2_with (go_at_call 111; first | (refine (N1.out _).mono ?_; rintro e w' ⟨rfl, rfl⟩) | (refine (N2.out _).mono ?_; rintro e w' ⟨rfl, rfl⟩))
    go_ret
    exact ⟨rfl, rfl⟩
  · have e : cmpS a b = 0 := by unfold cmpS; rw [if_neg h1, if_neg h2]
    have e2 : (a.toList == b.toList) = true := by rw [beq_iff_eq]; exact List.le_antisymm (List.not_lt.1 h2) (List.not_lt.1 h1)
    rw [e]
    clear e h1 h2
    go_enter Try.func95, Try.ntmps95
    go_wp2_with (go_at_call 111; first | (refine (N1.out _).mono ?_; rintro e w' ⟨rfl, rfl⟩) | (refine (N2.out _).mono ?_; rintro e w' ⟨rfl, rfl⟩))
    go_ret
    exact ⟨rfl, rfl⟩
set_option maxRecDepth 100000 in
theorem compareKey_at : CmpAt Try.prog 62 encK cmpK := by
  rintro ⟨a, p⟩ ⟨b, q⟩ W
  obtain ⟨z, hz⟩ : ∃ z, cmpK (a, p) (b, q) = z := ⟨_, rfl⟩
  rw [hz]
  have HZ := hide hz
  have hcon := fun W' => cmpInt_any a b W'
  have hstr := fun W' => cmpStr_any p q W'
  obtain ⟨r, hr⟩ : ∃ r, Lib.compareInt a b = r := ⟨_, rfl⟩
  obtain ⟨t, ht⟩ : ∃ t, cmpS p q = t := ⟨_, rfl⟩
  rw [hr] at hcon
  rw [ht] at hstr
  have HR := hide hr
  have HT := hide ht
  have HC := hide hcon
  have HS := hide hstr
  clear hz hr hcon ht hstr
  simp only [encK]
  by_cases h0 : r = 0
  · have hne : (r != 0) = false := by simp [h0]
    have H0 := hide h0
    clear h0
    go_enter Try.func62, Try.ntmps62
    go_wp2_with (first | (go_at_call 94; refine (HC.out _).mono ?_; rintro e w' ⟨rfl, rfl⟩) | (go_at_call 95; refine (HS.out _).mono ?_; rintro e w' ⟨rfl, rfl⟩))
    go_ret
    refine ⟨?_, 0, _, by rw [alloc_eq_grow, alloc_eq_grow, grow_grow]; rfl⟩
    have e := HZ.out
    unfold cmpK at e
    rw [← e]
    simp [HR.out, HT.out, H0.out]
  · have hne : (r != 0) = true := by simp [h0]
    have H0 := hide h0
    clear h0
    go_enter Try.func62, Try.ntmps62
    go_wp2_with (go_at_call 94; refine (HC.out _).mono ?_; rintro e w' ⟨rfl, rfl⟩)
    go_ret
    refine ⟨?_, 0, _, by rw [alloc_eq_grow, alloc_eq_grow, grow_grow]; rfl⟩
    have e := HZ.out
    unfold cmpK at e
    rw [← e]
    simp [HR.out, H0.out]
/-- One key is ahead of another. -/
def ltK (x y : KeyZ) : Prop := x.1 < y.1 ∨ (x.1 = y.1 ∧ x.2.toList < y.2.toList)
theorem cmpS_neg (a b : ByteArray) : cmpS a b < 0 ↔ a.toList < b.toList := by
  unfold cmpS
  by_cases h1 : a.toList < b.toList
  · simp [h1]
  · by_cases h2 : b.toList < a.toList <;> simp [h1, h2]
theorem ltOf_K (x y : KeyZ) : ltOf cmpK x y = true ↔ ltK x y := by
  unfold ltOf cmpK ltK Lib.compareInt
  rw [decide_eq_true_eq]
  by_cases h1 : x.1 < y.1
  · simp [h1]
  · by_cases h2 : x.1 > y.1
    · simp [h1, h2]; omega
    · have h3 : x.1 = y.1 := by omega
      simp only [if_neg h1, if_neg h2]
      simp [h1, h3, cmpS_neg]
theorem ltOf_KF (x y : KeyZ) : ltOf cmpK x y = false ↔ ¬ ltK x y := by rw [← ltOf_K, Bool.not_eq_true]
theorem ltK_trans {x y z : KeyZ} (h : ltK x y) (h' : ltK y z) : ltK x z := by
  unfold ltK at *
  rcases h with h | ⟨h1, h2⟩ <;> rcases h' with g | ⟨g1, g2⟩
  · left; omega
  · left; omega
  · left; omega
  · right; exact ⟨by omega, List.lt_trans h2 g2⟩
theorem ltK_irrefl (x : KeyZ) : ¬ ltK x x := by
  unfold ltK
  rintro (h | ⟨_, h⟩)
  · omega
  · exact str_irrefl _ h
theorem bytes_toList_inj {a b : ByteArray} (h : a.toList = b.toList) : a = b := by
  obtain ⟨x⟩ := a
  obtain ⟨y⟩ := b
  rw [ByteArray.toList_eq, ByteArray.toList_eq] at h
  exact congrArg ByteArray.mk (Array.toList_inj.1 h)
theorem ltK_total (x y : KeyZ) : ltK x y ∨ x = y ∨ ltK y x := by
  unfold ltK
  obtain ⟨a, p⟩ := x
  obtain ⟨b, q⟩ := y
  by_cases h1 : a < b
  · exact .inl (.inl h1)
  · by_cases h2 : b < a
    · exact .inr (.inr (.inl h2))
    · have e : a = b := by omega
      subst e
      by_cases h3 : p.toList < q.toList
      · exact .inl (.inr ⟨rfl, h3⟩)
      · by_cases h4 : q.toList < p.toList
        · exact .inr (.inr (.inr ⟨rfl, h4⟩))
        · have : p.toList = q.toList := List.le_antisymm (List.not_lt.1 h4) (List.not_lt.1 h3)
          exact .inr (.inl (by rw [bytes_toList_inj this]))
theorem swoK : SWO (ltOf cmpK) := by
  refine ⟨fun x => ?_, fun x y z => ?_, fun x y z => ?_⟩
  · rw [ltOf_KF]; exact ltK_irrefl x
  · rw [ltOf_K, ltOf_K, ltOf_K]; exact ltK_trans
  · rw [ltOf_KF, ltOf_KF, ltOf_KF]
    intro h g q
    rcases ltK_total x y with k | k | k
    · exact h k
    · subst k; exact g q
    · exact g (ltK_trans k q)
theorem totK (x y : KeyZ) (h : ltOf cmpK x y = false) (g : ltOf cmpK y x = false) : x = y := by
  rw [ltOf_KF] at h g
  rcases ltK_total x y with k | k | k
  · exact absurd k h
  · exact k
  · exact absurd k g
abbrev kyQ (k : KeyZ) : List D := [iD k.1, .v (.string k.2)]
theorem sortK_call (l : List KeyZ) (hsz : l.length < 4611686018427387904) {i n : Nat} {Lh : List AObj} (hi : Lh[i]? = some (.sl 2 (l.map kyQ))) :
    CallOK Try.prog 92 [.own i, .fn (.func 62) [] []] Lh n ⟨[i], [(i, .sl 2 ((sorted cmpK l).map kyQ))], []⟩ (.tup []) :=
  sort_call Try.sortFn Try.isAgg62 Try.sizeOf62 encK (fun _ => rfl) (fun x v hv => by simp [encK] at hv; rcases hv with rfl | rfl <;> rfl) cmpK swoK totK (enters_of Try.func62 (by kernel_rfl) rfl) compareKey_at l hsz hi
end Go.Proofs.Ytbjmdnemeidpjaa
/- shelf: the keys of a map, one after the other. -/
namespace Go.Proofs.Ytbjmdnemeidpjaa
open Go.RowKit Go.Sort
set_option linter.unusedVariables false
set_option linter.unusedSimpArgs false
/-! ### operations of a range over a map, inside of a fence -/
section
variable {P : Program} {F : Fence} {n : Nat} {w : World} {ops : Array Oper} {rest : List Oper} {op : Oper} {a : Act} {Q : Exit → Act → World → Prop} {κ ν : Type} [DecidableEq κ] {ek : κ → D} {ev : ν → D} {m : Es κ ν} {c : Nat} {t kt et : TypeId}
theorem wpListIn_range_mp {b : Nat} {x : Operand} (hgd : op.guard = none) (ho : op.op = .range t x) (hx : a.eval x = .map (some b)) (ht : P.underlying t = some (.map kt et)) {es : Array MapEntry} (hb : w.heap[b]? = some (.map es c))
    (h : wpListIn F n P ops Q rest (a.put op.dst (.pointer (some ⟨w.heap.size, 0, none⟩))) (w.alloc (.mapIter (some b) c #[] c))) : wpListIn F n P ops Q (op :: rest) a w :=
  wpListIn_plain hgd fun _ hK => by
    refine ⟨fun f hf => by simp [Oper.about, ho] at hf, ?_⟩
    rw [Oper.semAt_eq _ _ _ (fun c h => by rw [ho] at h; cases h)]
    have hg := MapKept.run_getObj_map (P := P) hb
    have hr : (execOp a.eval op).run P w = .ok (.value (.pointer (some ⟨w.heap.size, 0, none⟩))) (w.alloc (.mapIter (some b) c #[] c)) := by
      simp only [execOp, ho, hx, Instr.range, Sem.run_bind, run_underlying ht, hg, Result.andThen_ok]
      rfl
    rw [hr]
    exact hK _ _ h
theorem wpListIn_next_ok {it : Operand} {x v : Value} {w1 : World} (hgd : op.guard = none) (ho : op.op = .next it false) (hx : a.eval it = x) (hr : (Instr.next x false op.type).run P w = .ok v w1)
    (h : wpListIn F n P ops Q rest (a.put op.dst v) w1) : wpListIn F n P ops Q (op :: rest) a w :=
  wpListIn_plain hgd fun _ hK => by
    refine ⟨fun f hf => by simp [Oper.about, ho] at hf, ?_⟩
    rw [Oper.semAt_eq _ _ _ (fun c h => by rw [ho] at h; cases h)]
    have hrun : (execOp a.eval op).run P w = .ok (.value v) w1 := by
      simp only [execOp, ho, hx, Sem.run_bind, hr, Result.andThen_ok]
      rfl
    rw [hrun]
    exact hK _ _ h
omit [DecidableEq κ] in
theorem wpListIn_entry_mp {g b since : Nat} {seen : List Nat} {it : Operand} (hgd : op.guard = none) (ho : op.op = .entry it) (hx : a.eval it = .pointer (some ⟨g, 0, none⟩)) {p : κ × ν × Nat} (hp : (m.find? fun q => q.2.2 == p.2.2) = some p) (q2 : w.heap[g]? = some (.mapIter (some b) since (seen ++ [p.2.2]).toArray c)) (q4 : w.heap[b]? = some (.map (m.map (entryOf ek ev)).toArray c)) {vk vv : Value} (hvk : vOf (ek p.1) = vk) (hvv : vOf (ev p.2.1) = vv)
    (h : wpListIn F n P ops Q rest (a.put op.dst (.tuple #[vk, vv])) w) : wpListIn F n P ops Q (op :: rest) a w :=
  wpListIn_plain hgd fun _ hK => by
    subst hvk hvv
    refine ⟨fun f hf => by simp [Oper.about, ho] at hf, ?_⟩
    rw [Oper.semAt_eq _ _ _ (fun c h => by rw [ho] at h; cases h)]
    have hg1 : (getObj g).run P w = .ok (.mapIter (some b) since (seen ++ [p.2.2]).toArray c) w := by simp [getObj, Sem.run, q2]
    have hg2 := MapKept.run_getObj_map (P := P) q4
    have hb : (seen ++ [p.2.2]).toArray.back? = some p.2.2 := by simp
    have hf : (m.map (entryOf ek ev)).toArray.find? (fun e => e.born == p.2.2) = some (entryOf ek ev p) := by
      rw [List.find?_toArray, List.find?_map]
      rw [show ((fun e : MapEntry => e.born == p.2.2) ∘ entryOf ek ev) = fun q => q.2.2 == p.2.2 from rfl, hp]
      rfl
    have hrun : (execOp a.eval op).run P w = .ok (.value (.tuple #[vOf (ek p.1), vOf (ev p.2.1)])) w := by
      simp only [execOp, ho, hx, Instr.entry, Sem.run_bind, hg1, hg2, Result.andThen_ok, hb, hf]
      simp [entryOf]
    rw [hrun]
    exact hK _ _ h
end
def clW (c : Cel) : Array Value := ((cR c).map unD).toArray
theorem ky_cl (x : KeyZ) : closedD (kyD x) = true := rfl
/-- A map's entries bear numbers of their own, below its clock. -/
def fresh (m : Sh) (c : Nat) : Prop := (m.map (·.2.2)).Nodup ∧ ∀ p ∈ m, p.2.2 < c
theorem find_born {m : Sh} {c : Nat} (h : fresh m c) {p : KeyZ × Cel × Nat} (hp : p ∈ m) : (m.find? fun q => q.2.2 == p.2.2) = some p := by
  have hn := h.1
  clear h
  induction m with
  | nil => simp at hp
  | cons q m ih =>
    rw [List.map_cons, List.nodup_cons] at hn
    rw [List.find?_cons]
    rcases List.mem_cons.1 hp with e | e
    · subst e; simp
    · have : (q.2.2 == p.2.2) = false := by
        rw [beq_eq_false_iff_ne]
        intro e2
        exact hn.1 (by rw [e2]; exact List.mem_map.2 ⟨p, e, rfl⟩)
      rw [this]
      exact ih e hn.2
/-- What an iterator over a map sees. -/
def SeesM (m : Sh) (c b bm : Nat) (w : World) : Prop := w.cell? ⟨b, 0, none⟩ = some (.map (some bm)) ∧ w.heap[bm]? = some (.map (m.map (entryOf kyD cD)).toArray c)
theorem sees_map {m : Sh} {c : Nat} {Lc : List AObj} {i j : Nat} (hi : Lc[i]? = some (.cells [.mp j])) (hj : Lc[j]? = some (mapO kyD cD m c)) {us vs : List Value} {ρ0 : Nat → Option Value} {w : World}
    (h : ∃ F ρ H, Env F ρ H w ∧ (∀ (i : Nat) o, Lc[i]? = some o → o.live = true → H i = some o ∧ ∃ h, ρ0 i = some h ∧ ρ i = some h) ∧ RAs w F ρ [] us ∧ RAs w F ρ [.ptr i 0] vs) :
    us = [] ∧ ∃ b bm, vs = [.pointer (some ⟨b, 0, none⟩)] ∧ ρ0 j = some (.map (some bm)) ∧ SeesM m c b bm w := by
  obtain ⟨F, ρ, H, E, ho, h1, h2⟩ := h
  cases h1
  refine ⟨rfl, ?_⟩
  obtain ⟨v, rfl, hv⟩ := h2.one_out
  cases hv with | @ptr _ _ b hρ =>
  obtain ⟨hHi, hh, e1, e2⟩ := ho i _ hi rfl
  obtain ⟨h', e3, ⟨b', t, vs, rfl, hB, hR, _⟩, _⟩ := E.rep i _ hHi rfl
  rw [hρ] at e3; injection e3 with e3; injection e3 with e3; injection e3 with e3; injection e3 with e3
  subst e3
  obtain ⟨u, e4, hu⟩ := hR.one_out
  obtain ⟨hHj, hh2, e5, e6⟩ := ho j _ hj rfl
  obtain ⟨bm, rfl, q1, q2⟩ := E.mapAt hHj hu
  rw [q1] at e6; injection e6 with e6; subst e6
  refine ⟨b, bm, rfl, e5, ?_, q2⟩
  have := hB.cell 0
  rw [this, ← Array.getElem?_toList, e4]; rfl
def NxK (m : Sh) (done : Sh) (p : KeyZ × Cel × Nat) (done' : Sh) : Prop := p ∈ m ∧ p.2.2 ∉ done.map (·.2.2) ∧ done' = done ++ [p]
def FinK (m : Sh) (done : Sh) : Prop := ∀ p ∈ m, p.2.2 ∈ done.map (·.2.2)
def seenN (w : World) (g : Nat) : Nat := match w.heap[g]? with | some (.mapIter _ _ s _) => s.size | _ => 0
theorem within_len : ∀ (l k : List Nat), l.Nodup → (∀ x ∈ l, x ∈ k) → l.length ≤ k.length
  | [], _, _, _ => Nat.zero_le _
  | x :: l, k, hn, h => by
    have h1 := List.nodup_cons.1 hn
    have hx := h x (List.mem_cons_self ..)
    have := within_len l (k.erase x) h1.2 fun y hy => by
      have hne : y ≠ x := fun e => h1.1 (by rw [← e]; exact hy)
      exact (List.mem_erase_of_ne hne).2 (h y (List.mem_cons_of_mem _ hy))
    rw [List.length_erase_of_mem hx] at this
    have : 0 < k.length := List.length_pos_of_mem hx
    simp only [List.length_cons]; omega
theorem near_set {O : Nat → Prop} {w w1 : World} {g : Nat} {o : Obj} (h1 : w1 = w ∨ w1 = w.drew) (hg : ¬ O g) : Near O w { w1 with heap := w1.heap.setIfInBounds g o } := by
  have q : Near O w { w with heap := w.heap.setIfInBounds g o } := ⟨rfl, rfl, rfl, by simp, fun b hb => by
    have : g ≠ b := fun e => hg (by rw [e]; exact hb)
    simp [Array.getElem?_setIfInBounds, this]⟩
  rcases h1 with rfl | rfl
  · exact q
  · exact q
attribute [local go_sem] Oper.semAt_some
set_option maxHeartbeats 1000000 in
set_option maxRecDepth 100000 in
theorem keysIt {m : Sh} {c : Nat} (hf : fresh m c) {Lc : List AObj} {i j : Nat} (hi : Lc[i]? = some (.cells [.mp j])) (hj : Lc[j]? = some (mapO kyD cD m c)) :
    IterN Try.prog 93 [] [.ptr i 0] Lc ([] : Sh) (fun y x y' => ∃ p, NxK m y p y' ∧ x = [.d (kyD p.1)]) (FinK m) := by
  intro us vs lp ρ0
  refine ⟨fun y vals y' => ∃ p, NxK m y p y' ∧ vals = [vOf (kyD p.1)], fun y vals y' h => ?_, ?_⟩
  · obtain ⟨p, h, rfl⟩ := h
    exact ⟨_, ⟨p, h, rfl⟩, fun w F ρ => .cons (FlatW.ra (.d (closed_flat (ky_cl _)))) .nil⟩
  intro J Jx hJ hN hNx hY O w h0
  obtain ⟨rfl, b, bm, rfl, hρ, hs0⟩ := sees_map hi hj (hJ [] O w h0).1
  have sees : ∀ k O w, J k O w → SeesM m c b bm w := fun k O w h => by
    obtain ⟨_, b', bm', e1, e2, h'⟩ := sees_map hi hj (hJ k O w h).1
    injection e1 with e1; injection e1 with e1; injection e1 with e1; injection e1 with e1
    rw [hρ] at e2
    injection e2 with e2; injection e2 with e2; injection e2 with e2
    subst e1 e2
    exact h'
  have HJ := hide hJ
  have HN := hide hN
  have HS := hide sees
  have HF := hide hf
  have c0 := hs0.1
  have m0 := hs0.2
  clear hJ hN sees hs0 hρ hNx hi hj hf
  refine (callsIn_wide (n := 1)).1 (callsIn_of_wp Try.func93 rfl trivial ?_ rfl)
  simp only [Try.ntmps93, List.size_toArray, List.length_cons, List.length_nil, Nat.reduceAdd, Nat.reduceSub, Array.replicate_succ, Array.replicate_zero, List.push_toArray, List.append_toArray, List.nil_append, List.cons_append]
  gi_wp2_with (refine wpListIn_range_mp rfl rfl rfl Try.underlying115 m0 ?_)
  have gO : ¬ O w.heap.size := fun h => Nat.lt_irrefl _ ((HJ.out [] O w h0).2 _ h)
  have hJ0 := HN.out [] O w (w.alloc (.mapIter (some bm) c #[] c)) h0 ⟨rfl, rfl, rfl, by simp, fun b hb => Below.heap_alloc _ _ _ ((HJ.out [] O w h0).2 b hb)⟩
  gi_loopw [3] (fun _ wr => ∃ (done : Sh) (O : Nat → Prop), J done O wr ∧ wr.heap[w.heap.size]? = some (.mapIter (some bm) c (done.map (·.2.2)).toArray c) ∧ ¬ O w.heap.size ∧ (∀ q ∈ done, q ∈ m) ∧ (done.map (·.2.2)).Nodup) (fun _ wr => m.length - seenN wr w.heap.size)
  case atStart => exact ⟨[], O, hJ0, Array.getElem?_push_size, gO, fun q h => (by cases h), List.nodup_nil⟩
  case round =>
    obtain ⟨done, O1, hJk, q2, gO1, hsub, hnd⟩ := hrel
    have q4 := (HS.out done O1 wr hJk).2
    clear hJ0 gO h0 m0 c0
    obtain ⟨y, w1, hy, hw1, hr⟩ := run_next_mp (P := Try.prog) (ty := 0) q2 q4 HF.out.2 (.inr HF.out.2)
    cases y with
    | none =>
      have hJ1 : J done O1 w1 := HN.out done O1 wr w1 hJk (by rcases hw1 with rfl | rfl <;> exact ⟨rfl, rfl, rfl, Nat.le_refl _, fun b hb => rfl⟩)
      have HE := hide (show FinK m done from hy)
      have HR := hide hr
      simp only at hr
      clear hJk q2 q4 hw1 hsub hnd hy hr
      gi_wp2_with (refine wpListIn_next_ok rfl rfl rfl HR.out ?_)
      go_end0
      exact ⟨⟨_, rfl⟩, O1, .inl ⟨done, HE.out, hJ1⟩⟩
    | some p =>
      obtain ⟨hp, hn⟩ := hy
      have hsz : w.heap.size < wr.heap.size := (Array.getElem?_eq_some_iff.1 q2).1
      have hJ1 := HN.out done O1 wr { w1 with heap := w1.heap.setIfInBounds w.heap.size (.mapIter (some bm) c (done.map (·.2.2) ++ [p.2.2]).toArray c) } hJk (near_set hw1 gO1)
      have e2 : ({ w1 with heap := w1.heap.setIfInBounds w.heap.size (.mapIter (some bm) c (done.map (·.2.2) ++ [p.2.2]).toArray c) } : World).heap[w.heap.size]? = some (.mapIter (some bm) c (done.map (·.2.2) ++ [p.2.2]).toArray c) := by
        have : w1.heap = wr.heap := by rcases hw1 with rfl | rfl <;> rfl
        show (w1.heap.setIfInBounds _ _)[_]? = _
        rw [this, Array.getElem?_setIfInBounds_self_of_lt hsz]
      have hmu : m.length - (done.length + 1) < m.length - seenN wr w.heap.size := by
        have : seenN wr w.heap.size = done.length := by unfold seenN; rw [q2]; simp
        have l1 := within_len ((done ++ [p]).map (·.2.2)) (m.map (·.2.2)) (by
          rw [List.map_append, List.nodup_append]
          exact ⟨hnd, by simp, fun a ha b hb e => by simp at hb; subst hb e; exact hn ha⟩) (fun x hx => by
          obtain ⟨q, hq, rfl⟩ := List.mem_map.1 hx
          rcases List.mem_append.1 hq with h | h
          · exact List.mem_map.2 ⟨q, hsub q h, rfl⟩
          · rw [List.mem_singleton.1 h]; exact List.mem_map.2 ⟨p, hp, rfl⟩)
        simp at l1; omega
      simp only at hr
      clear hw1
      generalize ({ w1 with heap := w1.heap.setIfInBounds w.heap.size (.mapIter (some bm) c (done.map (·.2.2) ++ [p.2.2]).toArray c) } : World) = W2 at hr hJ1 e2
      have q5 := (HS.out done O1 W2 hJ1).2
      have hO := (HJ.out done O1 W2 hJ1).2
      have hk : vOf (kyD p.1) = .agg #[.int .i64 p.1.1, .string p.1.2] := rfl
      rw [hk] at hr
      have hvv : vOf (cD p.2.1) = .agg (clW p.2.1) := rfl
      rw [hvv] at hr
      have HK := hide hk
      have HV := hide hvv
      have hJ2 := HN.out done O1 W2 (W2.alloc (.cells #[.int .i64 p.1.1, .string p.1.2] 62)) hJ1 ⟨rfl, rfl, rfl, by simp, fun b hb => Below.heap_alloc _ _ _ (hO b hb)⟩
      have e3 : (W2.alloc (.cells #[.int .i64 p.1.1, .string p.1.2] 62)).heap[w.heap.size]? = some (.mapIter (some bm) c (done.map (·.2.2) ++ [p.2.2]).toArray c) := by
        rw [Below.heap_alloc _ _ _ (Array.getElem?_eq_some_iff.1 e2).1]; exact e2
      have hg3 : w.heap.size < (W2.alloc (.cells #[.int .i64 p.1.1, .string p.1.2] 62)).heap.size := (Array.getElem?_eq_some_iff.1 e3).1
      obtain ⟨fn, tmps, assign, body, hy, hR⟩ := hY done O1 _ [.agg #[.int .i64 p.1.1, .string p.1.2]] (done ++ [p]) ⟨p, ⟨hp, hn, rfl⟩, by rw [hk]⟩ hJ2
      have E3 := hide e3
      have G3 := hide hg3
      have HR := hide hr
      have HP := hide (find_born HF.out hp)
      have HX := hide (show NxK m done p (done ++ [p]) from ⟨hp, hn, rfl⟩)
      have HM := hide hmu
      have HD := hide hsub
      have HU := hide hnd
      clear hJk q2 q4 hsub hnd hr hp hn hmu hsz hk hvv hJ2 e3 hg3
      gi_wp2_with (first | refine wpListIn_next_ok rfl rfl rfl HR.out ?_ | refine wpListIn_entry_mp rfl rfl rfl HP.out e2 q5 HK.out HV.out ?_)
      refine hR.mono ?_
      rintro e W4 ⟨O', hfar, hO', ⟨rfl, hJ3⟩ | ⟨rfl, hJx3⟩⟩
      · have e4 := (hfar.2.2.2.2 _ G3.out gO1).trans E3.out
        have gO2 : ¬ O' w.heap.size := fun h => by
          rcases hO' _ h with h | h
          · exact gO1 h
          · have := G3.out; omega
        have E4 := hide e4
        have HO := hide gO2
        clear hR hy hfar hO' e4 gO2
        gi_wp2
        go_roundw
        case rel => exact ⟨done ++ [p], O', hJ3, by rw [E4.out]; simp, HO.out, fun q hq => by
                      rcases List.mem_append.1 hq with h | h
                      · exact HD.out q h
                      · rw [List.mem_singleton.1 h]; exact HX.out.1, by
                      rw [List.map_append, List.nodup_append]
                      exact ⟨HU.out, by simp, fun a ha b hb e => by simp at hb; subst hb e; exact HX.out.2.1 ha⟩⟩
        case measure =>
          have : seenN W4 w.heap.size = done.length + 1 := by unfold seenN; rw [E4.out]; simp
          rw [this]; exact HM.out
      · clear hR hy hfar
        gi_wp2
        refine bodyPost_ret (results_none rfl _ _ _) rfl ?_
        exact ⟨⟨_, rfl⟩, _, .inr hJx3⟩
end Go.Proofs.Ytbjmdnemeidpjaa
/- A contract whose answer is one of several. No program is named here. -/
namespace Go.Proofs.Ytbjmdnemeidpjaa
set_option linter.unusedSimpArgs false
set_option linter.unusedVariables false
open Go.RowKit
/-- Of such arguments, over such objects, comes one of these answers. -/
def SatN (P : Program) (g : FuncId) (args : List AV) (H : List AObj) {X : Type} (R : X → Prop) (r : X → AV) (H' : X → List AObj) : Prop :=
  ∀ (F : Nat → Prop) (ρ : Nat → Option Value) (w : World) (vals : List Value), Env F ρ (hp H) w → RAs w F ρ args vals →
    Calls P g vals.toArray w fun e w' => ∃ x, R x ∧ ∃ v, e = .returned v ∧ Post F ρ (hp H) w (hp (H' x)) (r x) v w'
section
variable {P : Program} {w w' : World} {F F' : Nat → Prop} {ρ ρ' : Nat → Option Value} {L L' : List AObj} {T : TypeId → TI} {E : Nat → Bool} {N : Nat} {tm tm' : Tm} {a : Act}
/-- .. to a contract whose answer is one of several. -/
theorem satN_of_vc {g : FuncId} {fn : Func} {c : Code} {args : List AV} {H : List AObj} {X : Type} {R : X → Prop} {r : X → AV} {H' : X → List AObj} (hf : P.funcs[g]? = some fn) (hb : fn.body = some c) (hT : T = tiOf P) (hE : ∀ g, E g = true → entersB P g = true) (hm : P.follows .mixedOrders = true)
    (hn : Nat.ble args.length fn.ntmps = true) (h : vcCode P T E fn.ntmps c H.length false (params 0 args) H (fun e tm L => ∃ x, R x ∧ retK T fn.results.toList H.length (r x) (H' x) e tm L)) : SatN P g args H R r H' := by
  intro F ρ w vals En hv
  have hl := hv.length
  have hn := Nat.le_of_ble_eq_true hn
  have hk0 : ∀ i v, ρ i = some v → i < H.length := fun i v hi => by
    rcases Nat.lt_or_ge i H.length with q | q
    · exact q
    · rw [En.abs i (List.getElem?_eq_none q)] at hi; cases hi
  refine (callsIn_wide (n := 0)).1 (callsIn_of_wp_marks hf hb trivial (wpIn_mono (vcCode_out hT hE hm c F ρ (hp H) w w.heap.size ρ H.length false none 0 hk0 (fun _ => ⟨rfl, Nat.le_refl _⟩) _ H _ _ w h ⟨F, ρ, Step.refl _ _ _ _, Keep.refl ρ, En, ⟨fun d => ?_, ?_⟩, Nat.le_refl _, Marks.nil⟩) fun e a' w' ⟨tm', L', ⟨x, hx, hq⟩, F', ρ', S1, K1, E1, Sl1, hle, hM⟩ => ?_))
  · rw [params_lk, if_pos (Nat.zero_le _), Nat.sub_zero]
    cases hd : args[d]? with
    | none => exact .any _
    | some x =>
      obtain ⟨v, h1, h2⟩ := hv.get hd
      have hlt := (List.getElem?_eq_some_iff.1 h1).1
      have : (vals.toArray ++ Array.replicate (fn.ntmps - vals.toArray.size) undef).getD d undef = v := by
        rw [Array.getD_eq_getD_getElem?, Array.getElem?_append_left (by simpa using hlt)]
        simp [h1]
      rw [this]; exact h2
  · simp; omega
  · have fin : (resK T L' fn.results.toList tm' fun l => fAV (oneOr l) fun y => ∃ sw, EndS H.length (r x) (H' x) y L' sw) →
        LeavesInM Fence.wide 0 P fn a'.tmps (fun e w' => ∃ x, R x ∧ ∃ v, e = .returned v ∧ Post F ρ (hp H) w (hp (H' x)) (r x) v w') a'.defers .returning w' := by
      intro h
      subst hT
      obtain ⟨rs, hd, hnd, hrs⟩ := hM
      rw [hd]
      refine leaves_marks (w := w') (fun w2 S2 E2 hF2 => ?_) rs w' hnd hrs S1 E1 fun _ _ => rfl
      obtain ⟨l, vs, h1, h2, h3⟩ := resK_out E2 (Sl1.others hF2) h
      obtain ⟨sw, h4⟩ := fAV_iff.1 h1
      obtain ⟨v, hrun, hv'⟩ := run_results h3
      obtain ⟨F2, ρ2, S3, K2, E3, R2⟩ := h4.out hle E2 (hv' _ _ _ h2)
      exact ⟨v, hrun, x, hx, v, rfl, _, _, S2.trans S3, fun i u hi => K2 i u (hk0 i u hi) (K1 i u hi), E3, R2⟩
    cases e with
    | normal => exact fin hq
    | ret => exact fin hq
    | _ => exact hq.elim
end
end Go.Proofs.Ytbjmdnemeidpjaa
/- shelf: the ids of a ledger, sorted. -/
namespace Go.Proofs.Ytbjmdnemeidpjaa
set_option linter.unusedSimpArgs false
set_option linter.unusedVariables false
open Go.RowKit Go.Sort
set_option maxRecDepth 100000
/-- All entries, in some order. -/
def AllOf (m done : Sh) : Prop := (done.map (·.2.2)).Nodup ∧ (∀ q ∈ done, q ∈ m) ∧ FinK m done
abbrev idsR (l : Sh) : List (List D) := l.map fun p => kyQ p.1
theorem appendSeq_any {m : Sh} {c : Nat} (hf : fresh m c) (hm : m.length ≤ 1000000000) :
    SatN Try.prog 107 [.d (.v (.slice none 0 0)), .fn (.func 93) [] [.ptr 0 0]] [.cells [.mp 1], mapO kyD cD m c] (AllOf m) (fun _ => .own 2) (fun done => [.cells [.mp 1], mapO kyD cD m c, .sl 2 (idsR done)]) := by
  refine satN_of_vc (T := tiOf Try.prog) (E := E0) Try.func107 rfl rfl hE0 hm0 rfl ?_
  conv => whnf
  repeat (any_goals (first
    | exact True.intro
    | (refine Or.inl ?_; conv => whnf)
    | (refine And.intro (fun _ => ?_) tf; conv => whnf)
    | (refine And.intro ft (fun _ => ?_); conv => whnf)
    | (refine And.intro (by kernel_rfl) ?_; conv => whnf)
    | (refine And.intro (by decide) ?_; conv => whnf)
    | (refine And.intro (fun _ => ?_) (fun h => absurd h (by decide)); conv => whnf)
    | (refine And.intro (fun h => absurd h (by decide)) (fun _ => ?_); conv => whnf)
    | (refine And.intro (fun _ => ?_) (fun _ => ?_) <;> conv => whnf)))
  refine ⟨Sh, Sh, fun y z => z = y ∧ (y.map (·.2.2)).Nodup ∧ ∀ q ∈ y, q ∈ m, fun z => [.cells [.mp 1], mapO kyD cD m c, .cells [.own 3], .sl 2 (idsR z)], [(6, .fn (.func 93) [] [.ptr 0 0]), (2, .ptr 2 0)], 3, _, _, _, ([.cells [.mp 1], mapO kyD cD m c], none), [], _, _, ⟨[], ⟨rfl, List.nodup_nil, fun q h => by cases h⟩, ?_⟩, rfl, by kernel_rfl, keysIt (i := 0) (j := 1) hf rfl rfl, ?_, ?_, ?_, ?_⟩
  · all_goals refine ⟨[], ?_⟩
    repeat (any_goals (first | exact True.intro | exact rfl | with_reducible_and_instances rfl | exact (by kernel_rfl) | refine And.intro ?_ ?_))
    all_goals conv => whnf
  · rintro y x y' ⟨p, _, rfl⟩; rfl
  · rintro y z _; exact ⟨⟨rfl, rfl, trivial⟩, Nat.le_add_left 3 1⟩
  · rintro y z x y' ⟨rfl, hn, hs⟩ ⟨p, ⟨hp, hpn, rfl⟩, rfl⟩
    conv => whnf
    have hl : z.length ≤ m.length := by
      have := within_len (z.map (·.2.2)) (m.map (·.2.2)) hn fun x hx => by
        obtain ⟨q, hq, rfl⟩ := List.mem_map.1 hx
        exact List.mem_map.2 ⟨q, hs q hq, rfl⟩
      simpa using this
    have hb : ((idsR z).length + 1) * 24 ≤ 140737488355328 := by rw [List.length_map]; omega
    repeat (any_goals (first
      | exact True.intro
      | (refine And.intro (fun _ => ?_) tf; conv => whnf)
      | (refine And.intro ft (fun _ => ?_); conv => whnf)
      | (refine And.intro (by kernel_rfl) ?_; conv => whnf)
      | (refine And.intro (by decide) ?_; conv => whnf)
      | (refine And.intro (fun _ => ?_) (fun h => absurd h (by decide)); conv => whnf)
      | (refine And.intro (fun h => absurd h (by decide)) (fun _ => ?_); conv => whnf)
      | (refine And.intro (fun _ => ?_) (fun _ => ?_) <;> conv => whnf)
      | (refine ⟨_, _, ap 2 24 (by kernel_rfl) rfl rfl hb, ?_⟩; conv => whnf)))
    refine ⟨z ++ [p], ⟨rfl, by
      rw [List.map_append, List.nodup_append]
      exact ⟨hn, by simp, fun a ha b hb e => by simp at hb; subst hb e; exact hpn ha⟩, fun q hq => by
      rcases List.mem_append.1 hq with h | h
      · exact hs q h
      · rw [List.mem_singleton.1 h]; exact hp⟩, ?_⟩
    have ea : idsR (z ++ [p]) = idsR z ++ [kyQ p.1] := by simp
    refine (show Weak 3 _ _ [] [.cells [.mp 1], mapO kyD cD m c, .cells [.own 3], .sl 2 (idsR (z ++ [p]))] from ?_)
    rw [ea]
    all_goals refine ⟨[(3, 6)], ?_⟩
    repeat (any_goals (first | exact True.intro | exact rfl | with_reducible_and_instances rfl | exact (by kernel_rfl) | refine And.intro ?_ ?_))
    all_goals conv => whnf
  · rintro y z hF ⟨rfl, hn, hs⟩
    conv => whnf
    repeat (any_goals (first
      | exact True.intro
      | (refine Or.inl ?_; conv => whnf)
      | (refine And.intro (fun _ => ?_) tf; conv => whnf)
      | (refine And.intro ft (fun _ => ?_); conv => whnf)
      | (refine And.intro (by kernel_rfl) ?_; conv => whnf)
      | (refine And.intro (by decide) ?_; conv => whnf)
      | (refine And.intro (fun _ => ?_) (fun h => absurd h (by decide)); conv => whnf)
      | (refine And.intro (fun h => absurd h (by decide)) (fun _ => ?_); conv => whnf)
      | (refine And.intro (fun _ => ?_) (fun _ => ?_) <;> conv => whnf)))
    refine ⟨z, ⟨hn, hs, hF⟩, ?_⟩
    all_goals refine ⟨[(2, 3)], ?_⟩
    repeat (any_goals (first | exact True.intro | exact rfl | with_reducible_and_instances rfl | exact (by kernel_rfl) | refine And.intro ?_ ?_))
    all_goals conv => whnf
theorem fn_out {w : World} {F : Nat → Prop} {ρ : Nat → Option Value} {g : FuncId} {caps : List AV} {vals : List Value} (h : RAs w F ρ [.fn (.func g) [] caps] vals) : ∃ vs, vals = [.func (.func g) #[] vs.toArray] ∧ RAs w F ρ caps vs := by
  cases h with | cons h1 h2 =>
  cases h2
  cases h1 with | fn q1 q2 =>
  cases q1
  exact ⟨_, rfl, q2⟩
set_option maxHeartbeats 1000000 in
set_option maxRecDepth 100000 in
theorem collect_any {m : Sh} {c : Nat} (hf : fresh m c) (hm : m.length ≤ 1000000000) :
    SatN Try.prog 91 [.fn (.func 93) [] [.ptr 0 0]] [.cells [.mp 1], mapO kyD cD m c] (AllOf m) (fun _ => .own 2) (fun done => [.cells [.mp 1], mapO kyD cD m c, .sl 2 (idsR done)]) := by
  intro F ρ w vals En hv
  have hA := appendSeq_any hf hm F ρ w (.slice none 0 0 :: vals) En (.cons (.d (.v _)) hv)
  obtain ⟨vs, rfl, hvs⟩ := fn_out hv
  clear hv hvs En
  generalize vs.toArray = us at hA
  have HA := hide hA
  clear hA
  go_enter Try.func91, Try.ntmps91
  go_wp2_with (go_at_call 107; refine HA.out.mono ?_; rintro e w' ⟨x, hx, v, rfl, hP⟩)
  go_ret
  exact ⟨x, hx, v, rfl, hP⟩
theorem sorted_pw {α : Type} {cf : α → α → Int} (h : SWO (ltOf cf)) (l : List α) : (sorted cf l).Pairwise fun x y => (!(ltOf cf) y x) = true :=
  List.pairwise_mergeSort (le := fun x y => !(ltOf cf) y x) (fun a b c h1 h2 => by
    simp only [Bool.not_eq_true'] at h1 h2 ⊢
    exact h.ntrans c b a h2 h1) (fun a b => by
    by_cases q : ltOf cf b a = true
    · have : ltOf cf a b = false := by
        by_cases r : ltOf cf a b = true
        · have := h.trans a b a r q
          rw [h.irrefl] at this; cases this
        · simpa using r
      simp [this]
    · simp at q; simp [q]) l
theorem sorted_of_perm {α : Type} {cf : α → α → Int} (h : SWO (ltOf cf)) (ht : ∀ x y, ltOf cf x y = false → ltOf cf y x = false → x = y) {l l' : List α} (hp : l.Perm l') : sorted cf l = sorted cf l' :=
  List.Perm.eq_of_pairwise (le := fun x y => (!(ltOf cf) y x) = true) (fun a b _ _ h1 h2 => ht a b (by simpa using h2) (by simpa using h1)) (sorted_pw h l) (sorted_pw h l') (((sorted_perm cf l).trans hp).trans (sorted_perm cf l').symm)
theorem all_perm {m x : Sh} {c : Nat} (hf : fresh m c) (hx : AllOf m x) : x.Perm m := by
  have hinj : ∀ p ∈ m, ∀ q ∈ m, p.2.2 = q.2.2 → p = q := fun p hp q hq e => by
    have h1 := find_born hf hp
    have h2 := find_born hf hq
    rw [e, h2] at h1
    exact (Option.some.inj h1).symm
  have nd : ∀ l : Sh, (l.map (·.2.2)).Nodup → l.Nodup := fun l h => by
    induction l with
    | nil => exact List.nodup_nil
    | cons a l ih =>
      rw [List.map_cons, List.nodup_cons] at h
      exact List.nodup_cons.2 ⟨fun ha => h.1 (List.mem_map.2 ⟨a, ha, rfl⟩), ih h.2⟩
  exact (List.perm_ext_iff_of_nodup (nd x hx.1) (nd m hf.1)).2 fun a => ⟨hx.2.1 a, fun ha => by
    obtain ⟨b, hb, e⟩ := List.mem_map.1 (hx.2.2 a ha)
    rw [← hinj b (hx.2.1 b hb) a ha e]; exact hb⟩
/-- Entries in any order have the same sorted ids. -/
theorem all_sorted {m x : Sh} {c : Nat} (hf : fresh m c) (hx : AllOf m x) : sorted cmpK (x.map (·.1)) = sorted cmpK (m.map (·.1)) :=
  sorted_of_perm swoK totK ((all_perm hf hx).map _)
theorem fn2_out {w : World} {F : Nat → Prop} {ρ : Nat → Option Value} {g k : FuncId} {caps : List AV} {vals : List Value} (h : RAs w F ρ [.fn (.func g) [] caps, .fn (.func k) [] []] vals) : ∃ v, vals = [v, .func (.func k) #[] #[]] ∧ RAs w F ρ [.fn (.func g) [] caps] [v] := by
  cases h with | cons h1 h2 =>
  cases h2 with | cons h2 h3 =>
  cases h3
  cases h2 with | fn q1 q2 =>
  cases q1; cases q2
  exact ⟨_, rfl, .cons h1 .nil⟩
theorem appL2 (a b o o' : AObj) : appN 3 [] (appW [(2, o')] (hp [a, b, o])) = hp [a, b, o'] := by
  funext i
  match i with
  | 0 => rfl
  | 1 => rfl
  | 2 => rfl
  | i + 3 => rfl
set_option maxHeartbeats 1000000 in
set_option maxRecDepth 100000 in
theorem sortedFunc_sat {m : Sh} {c : Nat} (hf : fresh m c) (hm : m.length ≤ 1000000000) :
    Sat Try.prog 60 [.fn (.func 93) [] [.ptr 0 0], .fn (.func 62) [] []] [.cells [.mp 1], mapO kyD cD m c] (.own 2) [.cells [.mp 1], mapO kyD cD m c, .sl 2 ((sorted cmpK (m.map (·.1))).map kyQ)] := by
  intro F ρ w vals En hv
  obtain ⟨v, rfl, hv1⟩ := fn2_out hv
  have HA := hide (collect_any hf hm F ρ w [v] En hv1)
  have HS := hide (fun (x : Sh) (hx : AllOf m x) F' ρ' w' u E1 (R1 : RA w' F' ρ' (.own 2) u) => sortK_call (x.map (·.1)) (by
    have := within_len (x.map (·.2.2)) (m.map (·.2.2)) hx.1 fun y hy => by
        obtain ⟨q, hq, rfl⟩ := List.mem_map.1 hy
        exact List.mem_map.2 ⟨q, hx.2.1 q hq, rfl⟩
    simp at this ⊢; omega) (i := 2) (n := 3) (Lh := [.cells [.mp 1], mapO kyD cD m c, .sl 2 (idsR x)]) (by simp) (hp [.cells [.mp 1], mapO kyD cD m c, .sl 2 (idsR x)]) F' ρ' w' [u, .func (.func 62) #[] #[]] E1 (fun i hi => rfl) (fun k hk => by simp at hk) (.cons R1 (.cons (.fn .nil .nil) .nil)))
  have HF := hide hf
  clear hv hv1 En hf hm
  go_enter Try.func60, Try.ntmps60
  go_wp2_with (first | (go_at_call 91; refine HA.out.mono ?_; rintro e w' ⟨x, hx, v, rfl, F', ρ', S1, K1, E1, R1⟩) | (go_at_call 92; refine (HS.out x hx F' ρ' w' v E1 R1).mono ?_; rintro e w2 ⟨v2, rfl, F2, ρ2, S2, K2, E2, R2⟩))
  go_ret
  simp only [all_sorted HF.out hx, appL2] at S2 E2
  exact ⟨v, rfl, F2, ρ2, S1.trans S2, K1.trans K2, E2, S2.ra E1 K2 R1⟩
end Go.Proofs.Ytbjmdnemeidpjaa
/- shelf: a copy of a ledger's map, and its ids sorted. -/
namespace Go.Proofs.Ytbjmdnemeidpjaa
set_option linter.unusedSimpArgs false
set_option linter.unusedVariables false
open Go.RowKit Go.Sort
set_option maxRecDepth 100000
theorem rds2_at {w : World} {F : Nat → Prop} : ∀ {S : List KeyZ} {vs : List Value}, RDs w F (S.map kyQ).flatten vs → ∀ (k : Nat) e, S[k]? = some e → vs[k * 2]? = some (.int .i64 e.1) ∧ vs[k * 2 + 1]? = some (.string e.2) := by
  intro S
  induction S with
  | nil => intro vs _ k e h; cases h
  | cons x S ih =>
    intro vs h k e hk
    replace h : RDs w F (iD x.1 :: .v (.string x.2) :: (S.map kyQ).flatten) vs := h
    cases h with | cons a1 _ h2 =>
    cases h2 with | cons a2 _ h4 =>
    cases a1 with | v =>
    cases a2 with | v =>
    cases k with
    | zero =>
      have : x = e := Option.some.inj hk
      subst this
      exact ⟨rfl, rfl⟩
    | succ k =>
      have := ih h4 k e hk
      rw [show (k + 1) * 2 = k * 2 + 2 by omega]
      exact this
/-- A slice of these ids, in a block of its own. -/
def SeesI (S : List KeyZ) (A : Option Addr) (lo : Nat) (w : World) : Prop :=
  ∀ (k : Nat) e, S[k]? = some e → ∃ q off, A = some ⟨q, off, none⟩ ∧ lo ≤ q ∧ q < w.heap.size ∧ w.cell? ⟨q, off + k * 2, none⟩ = some (.int .i64 e.1) ∧ w.cell? ⟨q, off + k * 2 + 1, none⟩ = some (.string e.2)
def mapObj (m : Sh) (c : Nat) : Obj := .map (m.map (entryOf kyD cD)).toArray c
theorem env_two {m : Sh} {c : Nat} {w : World} {g bm : Nat} {t : TypeId} (hg : Blk w g t #[.map (some bm)]) (hb : w.heap[bm]? = some (mapObj m c)) (hne : g ≠ bm) :
    Env (fun _ => False) (fun i => if i = 0 then some (.pointer (some ⟨g, 0, none⟩)) else if i = 1 then some (.map (some bm)) else none) (hp [.cells [.mp 1], mapO kyD cD m c]) w := by
  refine ⟨fun b h => h.elim, fun i hi => ?_, fun i o hi hl => ?_, fun i j o o' h h' b e1 e2 l1 l2 r1 r2 b1 b2 => ?_⟩
  · match i, hi with
    | i + 2, _ => simp
  · match i, hi with
    | 0, hi =>
      have : o = .cells [.mp 1] := (Option.some.inj hi).symm
      subst this
      refine ⟨_, rfl, ⟨g, t, _, rfl, hg, .cons (.mp rfl) .nil, fun v hv => by simp at hv; subst hv; rfl⟩, fun b hb => ?_⟩
      injection hb with hb; subst hb
      exact ⟨hg.lt, fun h => h⟩
    | 1, hi =>
      have : o = mapO kyD cD m c := (Option.some.inj hi).symm
      subst this
      refine ⟨_, rfl, ⟨bm, _, .inr rfl, hb, rfl⟩, fun b hb' => ?_⟩
      injection hb' with hb'; subst hb'
      exact ⟨(Array.getElem?_eq_some_iff.1 hb).1, fun h => h⟩
    | i + 2, hi => simp [hp] at hi
  · match i, j, e1, e2 with
    | 0, 0, _, _ => rfl
    | 1, 1, _, _ => rfl
    | 0, 1, _, _ =>
      simp at r1 r2; subst r1 r2
      injection b1 with b1; injection b2 with b2
      exact absurd (b1.trans b2.symm) hne
    | 1, 0, _, _ =>
      simp at r1 r2; subst r1 r2
      injection b1 with b1; injection b2 with b2
      exact absurd (b2.trans b1.symm) hne
    | i + 2, _, e1, _ => simp [hp] at e1
    | 0, j + 2, _, e2 => simp [hp] at e2
    | 1, j + 2, _, e2 => simp [hp] at e2
/-- A map's keys, sorted. -/
theorem sortedKeys_any {m : Sh} {c : Nat} (hf : fresh m c) (hm : m.length ≤ 1000000000) (w : World) (g bm : Nat) (t : TypeId) (hg : Blk w g t #[.map (some bm)]) (hb : w.heap[bm]? = some (mapObj m c)) (hne : g ≠ bm) :
    Calls Try.prog 60 #[.func (.func 93) #[] #[.pointer (some ⟨g, 0, none⟩)], .func (.func 62) #[] #[]] w fun e w' =>
      ∃ A cc, e = .returned (.slice A m.length cc) ∧ (w'.os = w.os ∧ w'.tape = w.tape ∧ w'.output = w.output ∧ w.heap.size ≤ w'.heap.size) ∧ (∀ b, b < w.heap.size → b ≠ g → w'.heap[b]? = w.heap[b]?) ∧ SeesI (sorted cmpK (m.map (·.1))) A w.heap.size w' := by
  refine (sortedFunc_sat hf hm _ _ w [_, _] (env_two hg hb hne) (.cons (.fn .nil (.cons (.ptr rfl) .nil)) (.cons (.fn .nil .nil) .nil))).mono ?_
  rintro e w' ⟨v, rfl, F', ρ', S, K, E, R⟩
  have k0 : ρ' 0 = some (.pointer (some ⟨g, 0, none⟩)) := K 0 _ rfl
  have k1 : ρ' 1 = some (.map (some bm)) := K 1 _ rfl
  have hm' : w'.heap[bm]? = some (mapObj m c) := by
    obtain ⟨h', e1, ⟨b', o, _, h3, h4⟩, _⟩ := E.rep 1 (mapO kyD cD m c) rfl rfl
    rw [k1] at e1; injection e1 with e1; subst e1
    rename_i h5
    rcases h5 with h5 | h5
    · cases h5
    · injection h5 with h5; injection h5 with h5; subst h5
      rw [h3]; exact congrArg some h4
  cases R with | @own _ A n cc hρ =>
  obtain ⟨h2, e2, ⟨vs, hOw, hRD, _⟩, hbk⟩ := E.rep 2 _ rfl rfl
  rw [hρ] at e2; injection e2 with e2; subst e2
  have hlen : ((sorted cmpK (m.map (·.1))).map kyQ).length = m.length := by rw [List.length_map, sorted_len, List.length_map]
  have hn : n = m.length := by
    rw [← hlen]
    rcases hOw.2 with ⟨q, q'⟩ | ⟨a, q, _, q'⟩ | ⟨g, off, cap, q, _⟩ <;> injection q with _ q _ <;> simp_all
  subst hn
  have lv : ∀ b, b ≠ g → b ≠ bm → ¬ Lv (fun i => if i = 0 then some (.pointer (some ⟨g, 0, none⟩)) else if i = 1 then some (.map (some bm)) else none) (hp [.cells [.mp 1], mapO kyD cD m c]) b := by
    rintro b h1 h2 ⟨i, o, h, _, _, h3, h4⟩
    match i with
    | 0 => simp at h3; subst h3; injection h4 with h4; exact h1 h4.symm
    | 1 => simp at h3; subst h3; injection h4 with h4; exact h2 h4.symm
    | i + 2 => simp at h3
  refine ⟨A, cc, rfl, ⟨S.os, S.tape, S.output, S.size⟩, fun b h1 h2 => ?_, fun k e hk => ?_⟩
  · by_cases h3 : b = bm
    · subst h3; rw [hm', hb]
    · exact S.unch b h1 (lv b h2 h3)
  · have hlt := (List.getElem?_eq_some_iff.1 hk).1
    have hl := hOw.1
    obtain ⟨r1, r2⟩ := rds2_at hRD k e hk
    have hpos : 0 < m.length := by rw [← hlen, List.length_map]; omega
    rcases hOw.2 with ⟨q, q'⟩ | ⟨a, q, _, q'⟩ | ⟨g', off, cap, q, _, hg', _, _, _, hread⟩
    · omega
    · omega
    · injection q with q1 q2 q3
      obtain ⟨g1, s1⟩ := List.getElem?_eq_some_iff.1 r1
      obtain ⟨g2, s2⟩ := List.getElem?_eq_some_iff.1 r2
      refine ⟨g', off, q1, ?_, hg', ?_, ?_⟩
      · subst q1
        have hlv : Lv ρ' (hp [.cells [.mp 1], mapO kyD cD m c, .sl 2 ((sorted cmpK (m.map (·.1))).map kyQ)]) g' := ⟨2, _, _, rfl, rfl, hρ, rfl⟩
        rcases S.lsrc g' hlv with h | h
        · exact h
        · by_cases h1 : g' = g
          · subst h1
            have := E.inj 2 0 _ _ _ _ g' rfl rfl rfl rfl hρ k0 rfl rfl
            cases this
          · by_cases h2 : g' = bm
            · subst h2
              have := E.inj 2 1 _ _ _ _ g' rfl rfl rfl rfl hρ k1 rfl rfl
              cases this
            · exact absurd h (lv g' h1 h2)
      · rw [hread _ g1, s1]
      · have := hread _ g2
        rw [s2] at this
        exact this
set_option maxHeartbeats 2000000 in
theorem mclone_any (b : Nat) (es : Array MapEntry) (clock : Nat) (w : World) (hb : w.heap[b]? = some (.map es clock)) :
    Calls Try.prog 59 #[.map (some b)] w fun e w' => e = .returned (.map (some w.heap.size)) ∧ w' = w.alloc (.map es clock) := by
  have hu := Try.underlying115
  have hq := fun w => run_eql_map_nil_sl (P := Try.prog) w 115 _ _ (some b) hu
  go_enter Try.func59, Try.ntmps59
  go_wp2
  rw [run_callFunc_extern Try.func90 (by kernel_rfl) (by kernel_rfl) (by kernel_rfl) (e := Extern.MapsClone.clone) (by kernel_rfl), run_maps_clone_sl w _ hb]
  simp only [Result.andThen]
  rw [Oper.upon_value]
  go_wp2
  rw [run_typeAssert_map_sl _ _ _ _ _ _ hu]
  simp only [Result.andThen]
  rw [Oper.upon_value]
  go_wp2
  go_ret
  exact ⟨rfl, rfl⟩
end Go.Proofs.Ytbjmdnemeidpjaa
/- shelf: the iterator over a ledger's ids, in order, with their verdicts. -/
namespace Go.Proofs.Ytbjmdnemeidpjaa
open Go.RowKit Go.Sort
set_option linter.unusedVariables false
set_option linter.unusedSimpArgs false
/-- What an iterator over a ledger sees. -/
def SeesL (m : Sh) (c b b2 bm : Nat) (w : World) : Prop := w.cell? ⟨b, 0, none⟩ = some (.pointer (some ⟨b2, 0, none⟩)) ∧ w.cell? ⟨b2, 1, none⟩ = some (.map (some bm)) ∧ w.heap[bm]? = some (mapObj m c)
theorem sees_led {m : Sh} {c : Nat} {Lc : List AObj} {i j k : Nat} {most : Int} (hi : Lc[i]? = some (.cells [.ptr j 0])) (hj : Lc[j]? = some (.cells [iA most, .mp k])) (hk : Lc[k]? = some (mapO kyD cD m c)) {us vs : List Value} {ρ0 : Nat → Option Value} {w : World}
    (h : ∃ F ρ H, Env F ρ H w ∧ (∀ (i : Nat) o, Lc[i]? = some o → o.live = true → H i = some o ∧ ∃ h, ρ0 i = some h ∧ ρ i = some h) ∧ RAs w F ρ [] us ∧ RAs w F ρ [.ptr i 0] vs) :
    us = [] ∧ ∃ b b2 bm, vs = [.pointer (some ⟨b, 0, none⟩)] ∧ SeesL m c b b2 bm w := by
  obtain ⟨F, ρ, H, E, ho, h1, h2⟩ := h
  cases h1
  refine ⟨rfl, ?_⟩
  obtain ⟨v, rfl, hv⟩ := h2.one_out
  cases hv with | @ptr _ _ b hρ =>
  obtain ⟨hHi, hh, e1, e2⟩ := ho i _ hi rfl
  obtain ⟨h', e3, ⟨b', t, vs, rfl, hB, hR, _⟩, _⟩ := E.rep i _ hHi rfl
  rw [hρ] at e3; injection e3 with e3; injection e3 with e3; injection e3 with e3; injection e3 with e3
  subst e3
  obtain ⟨u, e4, hu⟩ := hR.one_out
  cases hu with | @ptr _ _ b2 hρ2 =>
  obtain ⟨hHj, _, _, _⟩ := ho j _ hj rfl
  obtain ⟨h'', e5, ⟨b'', t2, vs2, rfl, hB2, hR2, _⟩, _⟩ := E.rep j _ hHj rfl
  rw [hρ2] at e5; injection e5 with e5; injection e5 with e5; injection e5 with e5; injection e5 with e5
  subst e5
  obtain ⟨u0, u, e6, _, hu⟩ := hR2.two_out
  obtain ⟨hHk, hh2, e7, e8⟩ := ho k _ hk rfl
  obtain ⟨bm, rfl, q1, q2⟩ := E.mapAt hHk hu
  refine ⟨b, b2, bm, rfl, ?_, ?_, q2⟩
  · have := hB.cell 0
    rw [this, ← Array.getElem?_toList, e4]; rfl
  · have := hB2.cell 1
    rw [this, ← Array.getElem?_toList, e6]; rfl
/-- A ledger's entries, by their ids' order. -/
def idsL (m : Sh) : List KeyZ := sorted cmpK (m.map (·.1))
def verL (m : Sh) (x : KeyZ) : Cel := (findX m x).getD zC
theorem idsL_len (m : Sh) : (idsL m).length = m.length := by unfold idsL; rw [sorted_len, List.length_map]
def NxL (m : Sh) (k : Nat) (x : KeyZ) (k' : Nat) : Prop := (idsL m)[k]? = some x ∧ k' = k + 1
theorem yield_two {e : Ending} {p q : Prop} (h : (e = .returned (.bool true) ∧ p) ∨ (e = .returned (.bool false) ∧ q)) : ∃ bb, e = .returned (.bool bb) ∧ (bb = true → p) ∧ (bb = false → q) := by
  rcases h with ⟨h1, h2⟩ | ⟨h1, h2⟩
  · exact ⟨true, h1, fun _ => h2, fun h => by cases h⟩
  · exact ⟨false, h1, fun h => (by cases h), fun _ => h2⟩
theorem keysFn_any (b : Nat) (w : World) : Calls Try.prog 61 #[.map (some b)] w fun e w' => e = .returned (.func (.func 93) #[] #[.pointer (some ⟨w.heap.size, 0, none⟩)]) ∧ w' = w.alloc (.cells #[.map (some b)] 115) := by
  go_enter Try.func61, Try.ntmps61
  go_wp2
  go_ret
  exact ⟨rfl, rfl⟩
attribute [local go_sem] Oper.semAt_some
set_option maxHeartbeats 1000000 in
set_option maxRecDepth 100000 in
theorem allItS {m : Sh} {c : Nat} (hf : fresh m c) (hm : m.length ≤ 1000000) {Lc : List AObj} {i j k : Nat} {most : Int} (hi : Lc[i]? = some (.cells [.ptr j 0])) (hj : Lc[j]? = some (.cells [iA most, .mp k])) (hk : Lc[k]? = some (mapO kyD cD m c)) :
    IterS Try.prog 58 [] [.ptr i 0] Lc (fun y : Nat => Nat.beq y 0) 0 (fun y x y' => ∃ e, NxL m y e y' ∧ x = [.d (kyD e), .d (cD (verL m e))]) (fun y => y = m.length) := by
  intro us vs lp ρ0
  refine ⟨fun y vals y' => ∃ e, NxL m y e y' ∧ vals = [vOf (kyD e), vOf (cD (verL m e))], fun y vals y' h => ?_, ?_⟩
  · obtain ⟨e, h, rfl⟩ := h
    exact ⟨_, ⟨e, h, rfl⟩, fun w F ρ => .cons (FlatW.ra (.d (closed_flat (ky_cl _)))) (.cons (FlatW.ra (.d (closed_flat (closed_cD _)))) .nil)⟩
  intro J Jx hJ hN hNx hY O w h0
  obtain ⟨rfl, b, b2, bm, rfl, c1, c2, c3⟩ := sees_led hi hj hk ((hJ 0 O w h0).1 rfl)
  have hO0 := (hJ 0 O w h0).2
  have HJ := hide hJ
  have HN := hide hN
  have HF := hide hf
  have HM := hide hm
  have hK := fun W g bm' t (h1 : Blk W g t #[.map (some bm')]) (h2 : W.heap[bm']? = some (mapObj m c)) (h3 : g ≠ bm') => sortedKeys_any hf (Nat.le_trans hm (by decide)) W g bm' t h1 h2 h3
  have hC := mclone_any bm _ c w c3
  have HK := hide hK
  have HC := hide hC
  clear hJ hN hi hj hk hf hNx hm hK hC
  refine (callsIn_wide (n := 1)).1 (callsIn_of_wp Try.func58 rfl trivial ?_ rfl)
  simp only [Try.ntmps58, List.size_toArray, List.length_cons, List.length_nil, Nat.reduceAdd, Nat.reduceSub, Array.replicate_succ, Array.replicate_zero, List.push_toArray, List.append_toArray, List.nil_append, List.cons_append]
  have hg2 : Blk ((w.alloc (mapObj m c)).alloc (.cells #[.map (some w.heap.size)] 115)) (w.alloc (mapObj m c)).heap.size 115 #[.map (some w.heap.size)] := Blk.new (w.alloc (mapObj m c)) 115 #[.map (some w.heap.size)]
  have hb2 : ((w.alloc (mapObj m c)).alloc (.cells #[.map (some w.heap.size)] 115)).heap[w.heap.size]? = some (mapObj m c) := by
    rw [Below.heap_alloc _ _ _ (alloc_lt w _)]
    exact (MapKept.heap_alloc w _).1
  have hsf := HK.out _ _ _ _ hg2 hb2 (Nat.ne_of_gt (alloc_lt w _))
  simp only [World.size_alloc, mapObj] at hsf hb2
  have HSF := hide hsf
  have HB2 := hide hb2
  clear hg2 hb2 hsf
  gi_wp2_with (first | (refine And.intro trivial ?_; gi_at_call 59; refine callsIn_wide.2 (HC.out.mono ?_); rintro e w' ⟨rfl, rfl⟩) | (refine And.intro trivial ?_; gi_at_call 61; refine callsIn_wide.2 ((keysFn_any _ _).mono ?_); rintro e w' ⟨rfl, rfl⟩) | (refine And.intro trivial ?_; gi_at_call 60; refine callsIn_wide.2 (HSF.out.mono ?_); rintro e W3 ⟨A, cc, rfl, hnear, hun, hsees⟩))
  have hun' : ∀ b, b < w.heap.size → W3.heap[b]? = w.heap[b]? := fun b hb => by
    rw [hun b (by omega) (by omega), Below.heap_alloc _ _ _ (by rw [World.size_alloc]; omega), Below.heap_alloc _ _ _ hb]
  have hm3 : W3.heap[w.heap.size]? = some (.map (m.map (entryOf kyD cD)).toArray c) := by
    rw [hun _ (by omega) (by omega)]; exact HB2.out
  have hs3 : w.heap.size + 1 + 1 ≤ W3.heap.size := by have := hnear.2.2.2; simpa using this
  have hJ3 : J 0 O W3 := HN.out 0 O w W3 h0 ⟨hnear.1, hnear.2.1, hnear.2.2.1, by omega, fun b hb => hun' b (hO0 b hb)⟩
  have hO3 : ∀ b, w.heap.size ≤ b → ¬ O b := fun b hb h => by have := hO0 b h; omega
  clear hun hnear hun' c1 c2 c3 h0
  gi_loopw [15] (fun i wr => ∃ (y : Nat) (O : Nat → Prop), y ≤ m.length ∧ i = .int .i64 y ∧ J y O wr ∧ W3.heap.size ≤ wr.heap.size ∧ ∀ b, w.heap.size ≤ b → b < W3.heap.size → wr.heap[b]? = W3.heap[b]? ∧ ¬ O b) (fun i _ => m.length - (intOf i).toNat)
  case atStart => exact ⟨0, O, Nat.zero_le _, rfl, hJ3, Nat.le_refl _, fun b h1 _ => ⟨rfl, hO3 b h1⟩⟩
  case round =>
    obtain ⟨y, O1, hy, rfl, hJy, hsz, hkeep⟩ := hrel
    clear hJ3 hO3
    by_cases hy1 : y < m.length
    · obtain ⟨x, hx⟩ : ∃ x, (idsL m)[y]? = some x := ⟨(idsL m)[y]'(by rw [idsL_len]; exact hy1), List.getElem?_eq_getElem _⟩
      obtain ⟨q, off, rfl, hq1, hq2, d0, d1⟩ := hsees y x hx
      have hq := (hkeep q (by omega) hq2).1
      have e0 := (World.cell?_of_block hq).trans d0
      have e1 := (World.cell?_of_block hq).trans d1
      have hmr := (hkeep w.heap.size (Nat.le_refl _) (by omega)).1.trans hm3
      have hMM := HM.out
      have HX := hide (show NxL m y x (y + 1) from ⟨hx, rfl⟩)
      have HKp := hide hkeep
      have HSS := hide hsees
      clear d0 d1 hx hkeep hsees
      have hJ4 : J y O1 (wr.alloc (.cells #[.int .i64 x.1, .string x.2] 62)).drew := HN.out y O1 wr _ hJy ⟨rfl, rfl, rfl, by rw [show (wr.alloc (.cells #[.int .i64 x.1, .string x.2] 62)).drew.heap.size = wr.heap.size + 1 from World.size_alloc _ _]; omega, fun b hb => Below.heap_alloc wr _ _ ((HJ.out y O1 wr hJy).2 b hb)⟩
      have hm4 : (wr.alloc (.cells #[.int .i64 x.1, .string x.2] 62)).drew.heap[w.heap.size]? = some (.map (m.map (entryOf kyD cD)).toArray c) := (Below.heap_alloc wr _ _ (by omega)).trans hmr
      have hk4 : ∀ b, w.heap.size ≤ b → b < W3.heap.size → (wr.alloc (.cells #[.int .i64 x.1, .string x.2] 62)).drew.heap[b]? = W3.heap[b]? ∧ ¬ O1 b := fun b h1 h2 => ⟨(Below.heap_alloc wr _ _ (by omega)).trans (HKp.out b h1 h2).1, (HKp.out b h1 h2).2⟩
      have hs4 : W3.heap.size ≤ (wr.alloc (.cells #[.int .i64 x.1, .string x.2] 62)).drew.heap.size := by
        have : (wr.alloc (.cells #[.int .i64 x.1, .string x.2] 62)).drew.heap.size = wr.heap.size + 1 := World.size_alloc _ _
        omega
      have hb4 := Blk.new wr 62 #[.int .i64 x.1, .string x.2]
      have f0 := hb4.cell 0
      have f1 := hb4.cell 1
      simp only [List.getElem?_toArray, List.getElem?_cons_zero, List.getElem?_cons_succ] at f0 f1
      gi_wp2
      generalize hW4 : wr.alloc (.cells #[.int .i64 x.1, .string x.2] 62) = W4 at hJ4 hm4 hk4 hs4 f0 f1 ⊢
      have hlk := run_lookup (P := Try.prog) (w := W4.drew) (cm := false) (z := zC) (m := m) (c := c) (ek := kyD) (ev := cD) Try.underlying115 kyT (zero_run (by kernel_rfl)) hm4 x
      have hvv : vOf (cD ((findX m x).getD zC)) = .agg (clW (verL m x)) := rfl
      have hvk : vOf (kyD x) = .agg #[.int .i64 x.1, .string x.2] := rfl
      rw [hvv, hvk] at hlk
      obtain ⟨fn, tmps, assign, body, hyl, hR⟩ := hY y O1 W4.drew [.agg #[.int .i64 x.1, .string x.2], .agg (clW (verL m x))] (y + 1) ⟨x, HX.out, rfl⟩ hJ4
      have HK4 := hide hk4
      have HS4 := hide hs4
      have HJ4 := hide hJ4
      have HH4 := hide hm4
      generalize verL m x = vv at hlk hyl hR
      clear hk4 hs4 hJ4 hm4 hvv hvk hW4 hb4 e0 e1 hmr hq hJy
      gi_region_with (refine hR.mono ?_; rintro e W5 ⟨O', hfar, hO', hcase⟩; obtain ⟨bb, rfl, hcc1, hcc2⟩ := yield_two hcase)
      all_goals
        have hk5 : ∀ b, w.heap.size ≤ b → b < W3.heap.size → W5.heap[b]? = W3.heap[b]? ∧ ¬ O' b := fun b h1 h2 => by
          obtain ⟨g1, g2⟩ := HK4.out b h1 h2
          have hlt : b < W4.drew.heap.size := Nat.lt_of_lt_of_le h2 HS4.out
          refine ⟨(hfar.2.2.2.2 b hlt g2).trans g1, fun h => ?_⟩
          rcases hO' b h with h | h
          · exact g2 h
          · omega
        have hs5 : W3.heap.size ≤ W5.heap.size := Nat.le_trans HS4.out hfar.2.2.2.1
        have HK5 := hide hk5
        have HS5 := hide hs5
        clear hk5 hs5 hfar hO' hcase hR hyl hlk f0 f1
        cases bb
        · have HJx := hide (hcc2 rfl)
          clear hcc1 hcc2
          gi_wp2
          refine bodyPost_ret (results_none rfl _ _ _) rfl ?_
          exact ⟨⟨_, rfl⟩, _, .inr HJx.out⟩
        · have HJx := hide (hcc1 rfl)
          clear hcc1 hcc2
          gi_wp2
          go_roundw
          case rel => exact ⟨y + 1, O', by omega, by go_num, HJx.out, HS5.out, HK5.out⟩
          case measure => simp [intOf]; omega
    · obtain rfl : y = m.length := by omega
      gi_wp2
      go_end0
      exact ⟨⟨_, rfl⟩, O1, .inl ⟨m.length, rfl, hJy⟩⟩
theorem allIt {m : Sh} {c : Nat} (hf : fresh m c) (hm : m.length ≤ 1000000) {Lc : List AObj} {i j k : Nat} {most : Int} (hi : Lc[i]? = some (.cells [.ptr j 0])) (hj : Lc[j]? = some (.cells [iA most, .mp k])) (hk : Lc[k]? = some (mapO kyD cD m c)) :
    IterN Try.prog 58 [] [.ptr i 0] Lc 0 (fun y x y' => ∃ e, NxL m y e y' ∧ x = [.d (kyD e), .d (cD (verL m e))]) (fun y => y = m.length) := (allItS hf hm hi hj hk).toN
end Go.Proofs.Ytbjmdnemeidpjaa
/- Maps whose entries bear numbers of their own, in plain Lean. No program is named here. -/
namespace Go.Proofs.Ytbjmdnemeidpjaa
set_option linter.unusedSimpArgs false
set_option linter.unusedVariables false
set_option linter.unusedSectionVars false
open Go.RowKit
set_option maxRecDepth 100000
section
variable {κ ν : Type} [DecidableEq κ]
structure Fr (m : Es κ ν) (c : Nat) : Prop where
  nd : (m.map (·.2.2)).Nodup
  lt : ∀ p ∈ m, p.2.2 < c
  ks : (m.map (·.1)).Nodup
theorem Fr.nil : Fr ([] : Es κ ν) 0 := ⟨List.nodup_nil, fun p h => (by cases h), List.nodup_nil⟩
theorem Fr.find {m : Es κ ν} {c : Nat} (h : Fr m c) {p : κ × ν × Nat} (hp : p ∈ m) : (m.find? fun q => q.2.2 == p.2.2) = some p := by
  have hn := h.nd
  clear h
  induction m with
  | nil => simp at hp
  | cons q m ih =>
    rw [List.map_cons, List.nodup_cons] at hn
    rw [List.find?_cons]
    rcases List.mem_cons.1 hp with e | e
    · subst e; simp
    · have : (q.2.2 == p.2.2) = false := by
        rw [beq_eq_false_iff_ne]
        intro e2
        exact hn.1 (by rw [e2]; exact List.mem_map.2 ⟨p, e, rfl⟩)
      rw [this]
      exact ih e hn.2
theorem hasX_iff {m : Es κ ν} {k : κ} : hasX m k = true ↔ k ∈ m.map (·.1) := by
  unfold hasX findX
  rw [Option.isSome_map, List.find?_isSome]
  simp only [decide_eq_true_eq, List.mem_map]
theorem putX_new {m : Es κ ν} {k : κ} {v : ν} {c : Nat} (h : k ∉ m.map (·.1)) : putX k v c m = m ++ [(k, v, c)] := by
  induction m with
  | nil => rfl
  | cons p m ih =>
    rw [List.map_cons, List.mem_cons, not_or] at h
    show (if p.1 = k then _ else p :: putX k v c m) = _
    rw [if_neg (fun e => h.1 e.symm), ih h.2]; rfl
theorem putX_keys {m : Es κ ν} {k : κ} {v : ν} {c : Nat} (h : k ∈ m.map (·.1)) : (putX k v c m).map (·.1) = m.map (·.1) ∧ (putX k v c m).map (·.2.2) = m.map (·.2.2) := by
  induction m with
  | nil => cases h
  | cons p m ih =>
    by_cases e : p.1 = k
    · have : putX k v c (p :: m) = (k, v, p.2.2) :: m := if_pos e
      rw [this]; simp [e]
    · have : putX k v c (p :: m) = p :: putX k v c m := if_neg e
      rw [this]
      have := ih (by rcases List.mem_cons.1 h with q | q; exact absurd q.symm e; exact q)
      simp [this.1, this.2]
theorem Fr.put {m : Es κ ν} {c : Nat} (h : Fr m c) (k : κ) (v : ν) : Fr (putX k v c m) (clkX k m c) ∧ ∀ x, x ∈ (putX k v c m).map (·.1) ↔ x = k ∨ x ∈ m.map (·.1) := by
  by_cases hk : k ∈ m.map (·.1)
  · obtain ⟨e1, e2⟩ := putX_keys (v := v) (c := c) hk
    have hc : clkX k m c = c := if_pos (hasX_iff.2 hk)
    rw [hc]
    refine ⟨⟨by rw [e2]; exact h.nd, fun p hp => ?_, by rw [e1]; exact h.ks⟩, fun x => ?_⟩
    · have : p.2.2 ∈ (putX k v c m).map (·.2.2) := List.mem_map.2 ⟨p, hp, rfl⟩
      rw [e2] at this
      obtain ⟨q, hq, e⟩ := List.mem_map.1 this
      rw [← e]; exact h.lt q hq
    · rw [e1]
      exact ⟨.inr, fun q => q.elim (fun e => by rw [e]; exact hk) id⟩
  · have e := putX_new (v := v) (c := c) hk
    have hc : clkX k m c = c + 1 := if_neg (fun q => hk (hasX_iff.1 q))
    rw [hc, e]
    refine ⟨⟨?_, fun p hp => ?_, ?_⟩, fun x => ?_⟩
    · rw [List.map_append, List.nodup_append]
      refine ⟨h.nd, by simp, fun x hx y hy exy => ?_⟩
      simp at hy; subst hy exy
      obtain ⟨p, hp, hpe⟩ := List.mem_map.1 hx
      have := h.lt p hp; omega
    · rcases List.mem_append.1 hp with hp | hp
      · have := h.lt p hp; omega
      · rw [List.mem_singleton.1 hp]; exact Nat.lt_succ_self _
    · rw [List.map_append, List.nodup_append]
      refine ⟨h.ks, by simp, fun x hx y hy exy => ?_⟩
      simp at hy; subst hy exy
      exact hk hx
    · rw [List.map_append, List.mem_append]
      simp [or_comm]
end
end Go.Proofs.Ytbjmdnemeidpjaa
/- The shelf: what its map keeps. -/
namespace Go.Proofs.Ytbjmdnemeidpjaa
set_option linter.unusedSimpArgs false
set_option linter.unusedVariables false
open Go.RowKit
set_option maxRecDepth 100000
/-- What holds of a shelf's map, always. -/
structure ShI (m : Sh) (c : Nat) : Prop where
  ok : ShOK m c
  fr : Fr m c
theorem putX_mem {m : Sh} {k : KeyW} {x : Cel} {c : Nat} {p : KeyW × Cel × Nat} (h : p ∈ putX k x c m) : p ∈ m ∨ p.2.1 = x := by
  induction m with
  | nil => exact .inr (by rw [List.mem_singleton.1 h])
  | cons q m ih =>
    unfold putX at h
    by_cases e : q.1 = k
    · rw [if_pos e] at h
      rcases List.mem_cons.1 h with h | h
      · exact .inr (by rw [h])
      · exact .inl (List.mem_cons_of_mem _ h)
    · rw [if_neg e] at h
      rcases List.mem_cons.1 h with h | h
      · exact .inl (by rw [h]; exact List.mem_cons_self ..)
      · rcases ih h with h | h
        · exact .inl (List.mem_cons_of_mem _ h)
        · exact .inr h
theorem ShI.put {m : Sh} {c : Nat} (h : ShI m c) (k : KeyW) {x : Cel} (h1 : CelOK x) (h2 : RightC x) : ShI (putX k x c m) (clkX k m c) :=
  ⟨⟨fun p hp => (putX_mem hp).elim (h.ok.ok p) (fun e => by rw [e]; exact h1), fun p hp => (putX_mem hp).elim (h.ok.right p) (fun e => by rw [e]; exact h2)⟩, (h.fr.put k x).1⟩
theorem addC_rightA {c : Cel} {v : Int} (hc : CelOK c) (hr : RightC c) (hv : in64 v) (he : (addC c v).2 = 0) : RightC (addC c v).1 := by
  by_cases hn : c.n = big
  · have e : addC c v = (zC, 12) := by unfold addC; rw [if_neg (by rw [right_iff.2 hr]; simp), if_pos hn]
    rw [e] at he; exact absurd he (by decide)
  · by_cases hs : in128 (c.s + v)
    · exact addC_right hc hr hv hn hs
    · have e : addC c v = (zC, 12) := by unfold addC; rw [if_neg (by rw [right_iff.2 hr]; simp), if_neg hn, if_pos hs]
      rw [e] at he; exact absurd he (by decide)
theorem ShI.count {m : Sh} {c : Nat} (h : ShI m c) (k : KeyW) {v : Int} (hv : in64 v) : ShI (shCount m c k v).1.1 (shCount m c k v).1.2 := by
  unfold shCount
  cases hf : findX m k with
  | none => exact h
  | some x =>
    obtain ⟨h1, h2⟩ := h.ok.find hf
    show ShI (if (addC x v).2 = 0 then _ else _ : (Sh × Nat) × Int).1.1 (if (addC x v).2 = 0 then _ else _ : (Sh × Nat) × Int).1.2
    by_cases he : (addC x v).2 = 0
    · rw [if_pos he]
      exact h.put k (addC_okA h1 hv) (addC_rightA h1 h2 hv he)
    · rw [if_neg he]; exact h
theorem ShI.all {l : List (KeyW × Cel)} (hl : ∀ x ∈ l, CelOK x.2 ∧ RightC x.2) {m : Sh} {c : Nat} (h : ShI m c) : ShI (putAllX l m c).1 (putAllX l m c).2 := by
  induction l generalizing m c with
  | nil => exact h
  | cons x l ih =>
    have hx := hl x (List.mem_cons_self ..)
    exact ih (fun y hy => hl y (List.mem_cons_of_mem _ hy)) (h.put x.1 hx.1 hx.2)
theorem noteC_rightA {c : Cel} {b : Bool} (hr : RightC c) : RightC (noteC c b).1 := by
  by_cases q : (if b then c.ce else c.po) = big
  · have e : noteC c b = (zC, 12) := by unfold noteC; rw [if_neg (by rw [right_iff.2 hr]; simp), if_pos q]
    rw [e]; exact right_iff.1 rightC_zC
  · exact noteC_right hr q
theorem ShI.note {most : Int} {m : Sh} {c : Nat} (h : ShI m c) (first last : Int) (s : ByteArray) : ShI (shNote most m c first last s).1.1 (shNote most m c first last s).1.2 := by
  unfold shNote
  by_cases h1 : last < first
  · rw [if_pos h1]; exact h
  · rw [if_neg h1]
    by_cases h2 : shRoom most m first last s = false
    · rw [if_pos h2]; exact h
    · rw [if_neg h2]
      by_cases h3 : noteOK m first s (decide (first = last)) ((last - first).toNat + 1) = true
      · rw [if_pos h3]
        refine ShI.all (fun x hx => ?_) h
        refine ⟨notedL_mem h.ok hx, ?_⟩
        unfold notedL at hx
        obtain ⟨k, _, rfl⟩ := List.mem_map.1 hx
        exact noteC_rightA (h.ok.at_ k).2
      · rw [if_neg h3]; exact h
end Go.Proofs.Ytbjmdnemeidpjaa
