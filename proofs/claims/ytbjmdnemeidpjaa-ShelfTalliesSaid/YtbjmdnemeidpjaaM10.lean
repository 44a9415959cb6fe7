/- Parts ShJ, CdA, CdB, CdC, CdD, CdE, CdF, CeL, St, ShK, ShT, CeM, ShU, Laid of the proof, put together. -/
import Derived.Test.YtbjmdnemeidpjaaM9
import Derived.Sort.Walk0
import Derived.Test.YtbjmdnemeidpjaaChecked
import Derived.Test.YtbjmdnemeidpjaaRows
/- The shelf: All, Clone, Close. -/
namespace Go.Proofs.Ytbjmdnemeidpjaa
set_option linter.unusedSimpArgs false
set_option linter.unusedVariables false
open Go.RowKit Go.Sort
set_option maxRecDepth 100000
theorem shAll_sat (most : Int) (m : Sh) (c : Nat) : Sat Try.prog 24 [.ptr 0 0] (shH most m c) (.fn (.func 58) [] [.ptr 2 0]) [.cells [iA most, .mp 1], shO m c, .cells [.ptr 0 0]] := by
  refine sat_of_vc (T := tiOf Try.prog) (E := E0) Try.func24 rfl rfl hE0 hm0 rfl ?_
  conv => whnf
  repeat (any_goals (first
    | exact True.intro
    | (refine Or.inl ?_; conv => whnf)
    | (refine And.intro (fun _ => ?_) tf; conv => whnf)
    | (refine And.intro ft (fun _ => ?_); conv => whnf)
    | (refine And.intro (by kernel_rfl) ?_; conv => whnf)
    | (refine And.intro (by decide) ?_; conv => whnf)
    | (refine And.intro (fun _ => ?_) (fun h => absurd h (by decide)); conv => whnf)
    | (refine And.intro (fun h => absurd h (by decide)) (fun _ => ?_); conv => whnf)
    | (refine And.intro (fun _ => ?_) (fun _ => ?_) <;> conv => whnf)))
  all_goals refine ⟨[], ?_⟩
  repeat (any_goals (first | exact True.intro | exact rfl | with_reducible_and_instances rfl | exact (by kernel_rfl) | refine And.intro ?_ ?_))
  all_goals conv => whnf
theorem mclone_sat (m : Sh) (c : Nat) : Sat Try.prog 59 [.mp 0] [shO m c] (.mp 1) [shO m c, shO m c] := by
  intro F ρ w vals En hv
  obtain ⟨u, rfl, hu⟩ := hv.one_out
  obtain ⟨bm, rfl, q1, q2⟩ := En.mapAt (i := 0) rfl hu
  refine (mclone_any bm _ c w q2).mono ?_
  rintro e w' ⟨rfl, rfl⟩
  obtain ⟨S1, K1, E1⟩ := En.new (n := 1) (o' := shO m c) (h := .map (some w.heap.size)) rfl (World.grownBy_alloc w (.map (m.map (entryOf kyD cD)).toArray c) none) (fun b hb => by simp [blkOf] at hb; subst hb; exact ⟨Nat.le_refl _, alloc_lt _ _⟩)
    ⟨w.heap.size, .map (m.map (entryOf kyD cD)).toArray c, .inr rfl, (MapKept.heap_alloc w _).1, rfl⟩
  have eh : updF (hp [shO m c]) 1 (some (shO m c)) = hp [shO m c, shO m c] := (hp_app (l := [shO m c]) (L := [shO m c])).symm
  rw [eh] at S1 E1
  exact ⟨_, rfl, F, _, S1, K1, E1, .mp (updF_same _ _ _)⟩
theorem shClone_sat (most : Int) (m : Sh) (c : Nat) : Sat Try.prog 54 [.ptr 0 0] (shH most m c) (.ptr 3 0) [.cells [iA most, .mp 1], shO m c, shO m c, .cells [iA most, .mp 2]] := by
  have mc := mclone_sat m c
  refine sat_of_vc (T := tiOf Try.prog) (E := E0) Try.func54 rfl rfl hE0 hm0 rfl ?_
  conv => whnf
  iterate 2
    repeat (any_goals (first
      | exact True.intro
      | (refine And.intro (fun _ => ?_) tf; conv => whnf)
      | (refine And.intro ft (fun _ => ?_); conv => whnf)
      | (refine And.intro (by kernel_rfl) ?_; conv => whnf)
      | (refine And.intro (by decide) ?_; conv => whnf)
      | (refine And.intro (fun _ => ?_) (fun h => absurd h (by decide)); conv => whnf)
      | (refine And.intro (fun h => absurd h (by decide)) (fun _ => ?_); conv => whnf)
      | (refine And.intro (fun _ => ?_) (fun _ => ?_) <;> conv => whnf)
      | (refine ⟨_, _, mc.at1 1 rfl rfl rfl, ?_⟩; conv => whnf)))
    all_goals try (refine Or.inl ?_; conv => whnf)
  all_goals refine ⟨[], ?_⟩
  repeat (any_goals (first | exact True.intro | exact rfl | with_reducible_and_instances rfl | exact (by kernel_rfl) | refine And.intro ?_ ?_))
  all_goals conv => whnf
/-- .. without these. -/
def delAll (ks : List KeyW) (m : Sh) : Sh := ks.foldl (fun m k => delX k m) m
/-- How many keys are of windows below. -/
def belowN (m : Sh) (b : Int) : Nat := ((idsL m).takeWhile fun k => decide (k.1 < b)).length
def outsL (m : Sh) (n : Nat) : List (KeyW × Cel) := ((idsL m).take n).map fun k => (k, verL m k)
def closedL (m : Sh) (n : Nat) : Sh := delAll ((idsL m).take n) m
theorem below_at {m : Sh} {b : Int} {y : Nat} (h : ∀ i k, i < y → (idsL m)[i]? = some k → k.1 < b) (hy : y ≤ m.length) (he : ∀ k, (idsL m)[y]? = some k → ¬ k.1 < b) : belowN m b = y := by
  rw [← idsL_len m] at hy
  unfold belowN
  generalize idsL m = l at *
  induction l generalizing y with
  | nil => simp at hy; simp [hy]
  | cons a l ih =>
    cases y with
    | zero =>
      have := he a rfl
      rw [List.takeWhile_cons, decide_eq_false this]; rfl
    | succ y =>
      have h0 := h 0 a (Nat.succ_pos _) rfl
      rw [List.takeWhile_cons, decide_eq_true h0]
      simp only [if_true, List.length_cons]
      rw [ih (y := y) (fun i k hi hk => h (i + 1) k (by omega) (by simpa using hk)) (by simpa using hy) (fun k hk => he k (by simpa using hk))]
theorem outsL_succ {m : Sh} {n : Nat} {k : KeyW} (h : (idsL m)[n]? = some k) : outsL m (n + 1) = outsL m n ++ [(k, verL m k)] := by
  unfold outsL
  rw [List.take_add_one, h, List.map_append]; rfl
theorem closedL_succ {m : Sh} {n : Nat} {k : KeyW} (h : (idsL m)[n]? = some k) : closedL m (n + 1) = delX k (closedL m n) := by
  unfold closedL delAll
  rw [List.take_add_one, h, List.foldl_append]; rfl
theorem outsL_len {m : Sh} {n : Nat} (h : n ≤ m.length) : (outsL m n).length = n := by
  unfold outsL
  rw [List.length_map, List.length_take, idsL_len]; omega
set_option maxHeartbeats 8000000 in
theorem shClose_sat (most : Int) (m : Sh) (c : Nat) (before : Int) (hm : ShI m c) (hlen : m.length ≤ 100000) : Sat Try.prog 55 [.ptr 0 0, iA before] (shH most m c) (.own 2) [.cells [iA most, .mp 1], shO (closedL m (belowN m before)) c, .sl 74 ((outsL m (belowN m before)).map outR)] := by
  have al := shAll_sat most m c
  refine sat_of_vc (T := tiOf Try.prog) (E := E0) Try.func55 rfl rfl hE0 hm0 rfl ?_
  conv => whnf
  iterate 3
    repeat (any_goals (first
      | exact True.intro
      | (refine And.intro (fun _ => ?_) tf; conv => whnf)
      | (refine And.intro ft (fun _ => ?_); conv => whnf)
      | (refine And.intro (by kernel_rfl) ?_; conv => whnf)
      | (refine And.intro (by decide) ?_; conv => whnf)
      | (refine And.intro (fun _ => ?_) (fun h => absurd h (by decide)); conv => whnf)
      | (refine And.intro (fun h => absurd h (by decide)) (fun _ => ?_); conv => whnf)
      | (refine And.intro (fun _ => ?_) (fun _ => ?_) <;> conv => whnf)
      | (refine ⟨_, _, al.at2 0 1 rfl rfl rfl rfl rfl, ?_⟩; conv => whnf)))
    all_goals try (refine Or.inl ?_; conv => whnf)
  refine ⟨Nat, Nat, fun y z => z = y ∧ y ≤ m.length ∧ ∀ i k, i < y → (idsL m)[i]? = some k → k.1 < before, fun z => [.cells [iA most, .mp 1], shO (closedL m z) c, .cells [.ptr 0 0], .cells [iA before], .cells [.own 6], .cells [.ptr 0 0], .sl 74 ((outsL m z).map outR)], [(9, .fn (.func 58) [] [.ptr 5 0]), (5, .ptr 4 0), (3, .ptr 3 0), (2, .ptr 2 0)], 6, _, _, _, ([.cells [iA most, .mp 1], shO m c, .dead, .dead, .dead, .cells [.ptr 0 0]], some fun y => Nat.beq y 0), 0, _, _, ⟨0, ⟨rfl, Nat.zero_le _, fun i k h => absurd h (Nat.not_lt_zero i)⟩, ?_⟩, rfl, by kernel_rfl, ⟨rfl, allItS (i := 5) (j := 0) (k := 1) ⟨hm.fr.nd, hm.fr.lt⟩ (by omega) rfl rfl rfl⟩, ?_, ?_, ?_, ?_⟩
  · all_goals refine ⟨[], ?_⟩
    repeat (any_goals (first | exact True.intro | exact rfl | with_reducible_and_instances rfl | exact (by kernel_rfl) | refine And.intro ?_ ?_))
    all_goals conv => whnf
  · rintro y x y' ⟨e, _, rfl⟩; rfl
  · rintro y z ⟨rfl, _, _⟩
    refine ⟨fun hz => ?_, (show 6 ≤ 7 by decide)⟩
    have hz : z = 0 := Nat.eq_of_beq_eq_true hz
    subst hz
    exact ⟨rfl, rfl, rfl, trivial⟩
  · rintro y z x y' ⟨rfl, hy, hb⟩ ⟨k, ⟨hk, rfl⟩, rfl⟩
    have hlt : z < m.length := by have := (List.getElem?_eq_some_iff.1 hk).1; rwa [idsL_len] at this
    have hsn := outsL_succ hk
    have hcn := closedL_succ hk
    have hxl : (verL m k).h.length = 65 := (hm.ok.at_ k).1.hl
    have hol := outR_len (x := (k, verL m k)) hxl
    have hbo := build_out (k := k) hxl
    have hll : ((outsL m z).map outR).length = z := by rw [List.length_map, outsL_len hy]
    conv => whnf
    by_cases hlt2 : k.1 < before
    · iterate 6
        repeat (any_goals (first
          | exact True.intro
          | (refine ⟨_, hbo, ?_⟩; conv => whnf)
          | (refine And.intro hol ?_; conv => whnf)
          | (refine ⟨_, drop_id, ?_⟩; conv => whnf)
          | (refine ⟨_, _, at_n, ?_⟩; conv => whnf)
          | (refine ⟨_, _, at_hi, ?_⟩; conv => whnf)
          | (refine ⟨_, _, at_lo, ?_⟩; conv => whnf)
          | (refine ⟨_, _, at_mn, ?_⟩; conv => whnf)
          | (refine ⟨_, _, at_mx, ?_⟩; conv => whnf)
          | (refine ⟨_, _, at_ce, ?_⟩; conv => whnf)
          | (refine ⟨_, _, at_po, ?_⟩; conv => whnf)
          | (refine ⟨_, whole_z sC, clenz sC, ?_⟩; conv => whnf)
          | (refine ⟨_, setzC, ?_⟩; conv => whnf)
          | (refine And.intro (clenz sC) ?_; conv => whnf)
          | (refine And.intro fitzC ?_; conv => whnf)
          | (refine ⟨_, whole_cell sC hxl, clen sC hxl, ?_⟩; conv => whnf)
          | (refine And.intro (clen sC hxl) ?_; conv => whnf)
          | (refine And.intro (fitC hxl) ?_; conv => whnf)
          | (refine ⟨_, setC hxl, ?_⟩; conv => whnf)
          | (refine ⟨_, whole_z sF, clenz sF, ?_⟩; conv => whnf)
          | (refine ⟨_, setzF, ?_⟩; conv => whnf)
          | (refine And.intro (clenz sF) ?_; conv => whnf)
          | (refine And.intro fitzF ?_; conv => whnf)
          | (refine ⟨_, whole_cell sF hxl, clen sF hxl, ?_⟩; conv => whnf)
          | (refine And.intro (clen sF hxl) ?_; conv => whnf)
          | (refine And.intro (fitF hxl) ?_; conv => whnf)
          | (refine ⟨_, setF hxl, ?_⟩; conv => whnf)
          | (refine And.intro (fit1 hxl (by decide)) ?_; conv => whnf)
          | (refine And.intro (fit1 rfl (by decide)) ?_; conv => whnf)
          | (refine ⟨_, sum_cell s25, rfl, ?_⟩; conv => whnf)
          | (refine ⟨_, set_n _, ?_⟩; conv => whnf)
          | (refine ⟨_, set_mn _, ?_⟩; conv => whnf)
          | (refine ⟨_, set_mx _, ?_⟩; conv => whnf)
          | (refine ⟨_, set_ce _, ?_⟩; conv => whnf)
          | (refine ⟨_, set_po _, ?_⟩; conv => whnf)
          | (refine ⟨_, set_s _, ?_⟩; conv => whnf)
          | (refine ⟨_, set_hi _, ?_⟩; conv => whnf)
          | (refine ⟨_, set_lo _, ?_⟩; conv => whnf)
          | (refine And.intro (fun _ => ?_) tf; conv => whnf)
          | (refine And.intro ft (fun _ => ?_); conv => whnf)
          | (refine And.intro (by kernel_rfl) ?_; conv => whnf)
          | (refine And.intro (by decide) ?_; conv => whnf)
          | (refine And.intro (fun _ => ?_) (fun h => absurd h (by decide)); conv => whnf)
          | (refine And.intro (fun h => absurd h (by decide)) (fun _ => ?_); conv => whnf)
          | (refine And.intro (fun _ => ?_) (fun _ => ?_) <;> conv => whnf)
          | (refine ⟨_, _, sh_del (k := k) rfl, ?_⟩; conv => whnf)
          | (refine ⟨_, _, ap 74 600 (by kernel_rfl) rfl rfl (by simp [hll]; omega), ?_⟩; conv => whnf)))
        all_goals try (refine Or.inl ?_; conv => whnf)
      · exact (bno ‹_› (decide_eq_false (show ¬ k.1 ≥ before by omega))).elim
      refine ⟨z + 1, ⟨rfl, hlt, fun i q hi hq => ?_⟩, ?_⟩
      · by_cases e : i = z
        · subst e; rw [hk] at hq; rw [← Option.some.inj hq]; exact hlt2
        · exact hb i q (by omega) hq
      all_goals refine ⟨[(6, 10)], ?_⟩
      repeat (any_goals (first | exact True.intro | exact rfl | with_reducible_and_instances rfl | exact (by kernel_rfl) | refine And.intro ?_ ?_))
      all_goals conv => whnf
      · rw [hcn]
      · rw [hsn, List.map_append]; rfl
    · iterate 6
        repeat (any_goals (first
          | exact True.intro
          | (refine ⟨_, hbo, ?_⟩; conv => whnf)
          | (refine And.intro hol ?_; conv => whnf)
          | (refine ⟨_, drop_id, ?_⟩; conv => whnf)
          | (refine ⟨_, _, at_n, ?_⟩; conv => whnf)
          | (refine ⟨_, _, at_hi, ?_⟩; conv => whnf)
          | (refine ⟨_, _, at_lo, ?_⟩; conv => whnf)
          | (refine ⟨_, _, at_mn, ?_⟩; conv => whnf)
          | (refine ⟨_, _, at_mx, ?_⟩; conv => whnf)
          | (refine ⟨_, _, at_ce, ?_⟩; conv => whnf)
          | (refine ⟨_, _, at_po, ?_⟩; conv => whnf)
          | (refine ⟨_, whole_z sC, clenz sC, ?_⟩; conv => whnf)
          | (refine ⟨_, setzC, ?_⟩; conv => whnf)
          | (refine And.intro (clenz sC) ?_; conv => whnf)
          | (refine And.intro fitzC ?_; conv => whnf)
          | (refine ⟨_, whole_cell sC hxl, clen sC hxl, ?_⟩; conv => whnf)
          | (refine And.intro (clen sC hxl) ?_; conv => whnf)
          | (refine And.intro (fitC hxl) ?_; conv => whnf)
          | (refine ⟨_, setC hxl, ?_⟩; conv => whnf)
          | (refine ⟨_, whole_z sF, clenz sF, ?_⟩; conv => whnf)
          | (refine ⟨_, setzF, ?_⟩; conv => whnf)
          | (refine And.intro (clenz sF) ?_; conv => whnf)
          | (refine And.intro fitzF ?_; conv => whnf)
          | (refine ⟨_, whole_cell sF hxl, clen sF hxl, ?_⟩; conv => whnf)
          | (refine And.intro (clen sF hxl) ?_; conv => whnf)
          | (refine And.intro (fitF hxl) ?_; conv => whnf)
          | (refine ⟨_, setF hxl, ?_⟩; conv => whnf)
          | (refine And.intro (fit1 hxl (by decide)) ?_; conv => whnf)
          | (refine And.intro (fit1 rfl (by decide)) ?_; conv => whnf)
          | (refine ⟨_, sum_cell s25, rfl, ?_⟩; conv => whnf)
          | (refine ⟨_, set_n _, ?_⟩; conv => whnf)
          | (refine ⟨_, set_mn _, ?_⟩; conv => whnf)
          | (refine ⟨_, set_mx _, ?_⟩; conv => whnf)
          | (refine ⟨_, set_ce _, ?_⟩; conv => whnf)
          | (refine ⟨_, set_po _, ?_⟩; conv => whnf)
          | (refine ⟨_, set_s _, ?_⟩; conv => whnf)
          | (refine ⟨_, set_hi _, ?_⟩; conv => whnf)
          | (refine ⟨_, set_lo _, ?_⟩; conv => whnf)
          | (refine And.intro (fun _ => ?_) tf; conv => whnf)
          | (refine And.intro ft (fun _ => ?_); conv => whnf)
          | (refine And.intro (by kernel_rfl) ?_; conv => whnf)
          | (refine And.intro (by decide) ?_; conv => whnf)
          | (refine And.intro (fun _ => ?_) (fun h => absurd h (by decide)); conv => whnf)
          | (refine And.intro (fun h => absurd h (by decide)) (fun _ => ?_); conv => whnf)
          | (refine And.intro (fun _ => ?_) (fun _ => ?_) <;> conv => whnf)
          | (refine ⟨_, _, sh_del (k := k) rfl, ?_⟩; conv => whnf)
          | (refine ⟨_, _, ap 74 600 (by kernel_rfl) rfl rfl (by simp [hll]; omega), ?_⟩; conv => whnf)))
        all_goals try (refine Or.inl ?_; conv => whnf)
      · have hbn := below_at hb hy (fun q hq => by rw [hk] at hq; rw [← Option.some.inj hq]; exact hlt2)
        rw [hbn]
        all_goals refine ⟨[(2, 6)], ?_⟩
        repeat (any_goals (first | exact True.intro | exact rfl | with_reducible_and_instances rfl | exact (by kernel_rfl) | refine And.intro ?_ ?_))
        all_goals conv => whnf
      · exact (bno (decide_eq_true (show k.1 ≥ before by omega)) ‹_›).elim
  · rintro y z hF ⟨rfl, hy, hb⟩
    have hF : z = m.length := hF
    have hbn := below_at hb hy (fun k hk => by have := (List.getElem?_eq_some_iff.1 hk).1; rw [idsL_len] at this; omega)
    rw [hbn]
    conv => whnf
    iterate 4
      repeat (any_goals (first
        | exact True.intro
        | (refine And.intro (fun _ => ?_) tf; conv => whnf)
        | (refine And.intro ft (fun _ => ?_); conv => whnf)
        | (refine And.intro (by kernel_rfl) ?_; conv => whnf)
        | (refine And.intro (by decide) ?_; conv => whnf)
        | (refine And.intro (fun _ => ?_) (fun h => absurd h (by decide)); conv => whnf)
        | (refine And.intro (fun h => absurd h (by decide)) (fun _ => ?_); conv => whnf)
        | (refine And.intro (fun _ => ?_) (fun _ => ?_) <;> conv => whnf)))
      all_goals try (refine Or.inl ?_; conv => whnf)
    all_goals refine ⟨[(2, 6)], ?_⟩
    repeat (any_goals (first | exact True.intro | exact rfl | with_reducible_and_instances rfl | exact (by kernel_rfl) | refine And.intro ?_ ?_))
    all_goals conv => whnf
end Go.Proofs.Ytbjmdnemeidpjaa
/- code, by conditions: Uints, Ints, Texts, bytes.Clone; the reader. -/
namespace Go.Proofs.Ytbjmdnemeidpjaa
set_option linter.unusedSimpArgs false
set_option linter.unusedVariables false
open Go.RowKit
set_option maxRecDepth 100000
section
variable {P : Program} {g : FuncId}
end
abbrev byD (x : UInt8) : D := .v (.int .u8 (x.toNat : Int))
abbrev bR (x : UInt8) : List D := [byD x]
abbrev bsD (l : List UInt8) : D := .sl 1 (l.map bR)
abbrev uR (x : Nat) : List D := [.v (.int .u64 (x : Int))]
abbrev styD (s : ByteArray) : D := .v (.string s)
/-- A reader: what is left, its error. -/
abbrev rdO (l : List UInt8) (e : Int) : AObj := .cells [.d (bsD l), iA e]
end Go.Proofs.Ytbjmdnemeidpjaa
/- Strings and bytes: conversions as operations; wide.Bytes, wide.Back. -/
namespace Go.Proofs.Ytbjmdnemeidpjaa
set_option linter.unusedSimpArgs false
set_option linter.unusedVariables false
open Go.RowKit
set_option maxRecDepth 100000
end Go.Proofs.Ytbjmdnemeidpjaa
/- wide.Bytes, wide.Back at 13. -/
namespace Go.Proofs.Ytbjmdnemeidpjaa
set_option linter.unusedSimpArgs false
set_option linter.unusedVariables false
open Go.RowKit
set_option maxRecDepth 100000
abbrev b13 : List UInt8 := [0, 0, 0, 0, 0, 0, 0, 0, 0, 0, 0, 0, 0, 0, 0, 13]
abbrev b00 : List UInt8 := [0, 0, 0, 0, 0, 0, 0, 0, 0, 0, 0, 0, 0, 0, 0, 0]
end Go.Proofs.Ytbjmdnemeidpjaa
/- wide.Back at 13. -/
namespace Go.Proofs.Ytbjmdnemeidpjaa
set_option linter.unusedSimpArgs false
set_option linter.unusedVariables false
open Go.RowKit
set_option maxRecDepth 100000
end Go.Proofs.Ytbjmdnemeidpjaa
/- Bytes of one cell. -/
namespace Go.Proofs.Ytbjmdnemeidpjaa
set_option linter.unusedSimpArgs false
set_option linter.unusedVariables false
open Go.RowKit
set_option maxRecDepth 100000
def hMM : List Int := [2, 0, 0, 2, 0, 1] ++ List.replicate 59 0
abbrev b20 : List UInt8 := [5, 0, 0, 1, 18, 16] ++ b13
abbrev bM : List UInt8 := b20 ++ [3] ++ [0, 2, 3, 2, 5, 1]
end Go.Proofs.Ytbjmdnemeidpjaa
/- Back of these bytes. -/
namespace Go.Proofs.Ytbjmdnemeidpjaa
set_option linter.unusedSimpArgs false
set_option linter.unusedVariables false
open Go.RowKit
set_option maxRecDepth 100000
def hk : Nat → List Int
  | 0 => z65
  | 1 => [2] ++ List.replicate 64 0
  | 2 => [2, 0, 0, 2] ++ List.replicate 61 0
  | _ => hMM
end Go.Proofs.Ytbjmdnemeidpjaa
/- alive of the law 21. -/
namespace Go.Proofs.Ytbjmdnemeidpjaa
set_option linter.unusedSimpArgs false
set_option linter.unusedVariables false
open Go.RowKit
set_option maxRecDepth 100000
def hc2 : List Int := [1, 0, 0, 1] ++ List.replicate 61 0
def c2 : Cel := ⟨2, 2, -1, 3, 0, 0, hc2⟩
def c1 : Cel := ⟨1, 0, 0, 0, 0, 0, z65⟩
end Go.Proofs.Ytbjmdnemeidpjaa
/- Comparisons of strings, and strings put together. No program is named here. -/
namespace Go.Proofs.Ytbjmdnemeidpjaa
set_option linter.unusedSimpArgs false
set_option linter.unusedVariables false
open Go.RowKit Go.Sort
section
variable {P : Program} {L : List AObj} {ty n : Nat} {x y : Operand} {t t' : TypeId} {a b : ByteArray}
theorem toList_inj {a b : ByteArray} (h : a.toList = b.toList) : a = b := by
  rw [ByteArray.toList_eq, ByteArray.toList_eq] at h
  obtain ⟨⟨a⟩⟩ := a
  obtain ⟨⟨b⟩⟩ := b
  have h : a = b := h
  rw [h]
theorem toList_beq (a b : ByteArray) : (a.toList == b.toList) = decide (a = b) := by
  rw [Bool.eq_iff_iff, beq_iff_eq, decide_eq_true_eq]
  exact ⟨toList_inj, fun h => by rw [h]⟩
theorem str_op {op : BinOp} {c : Bool} (h : (Op.stringOp op a b) = pure (.bool c)) (hb : binOp op t (.string a) (.string b) = Op.stringOp op a b) : Does P (.binOp op t x y t') ty L n [.d (.v (.string a)), .d (.v (.string b))] e0 (.d (.v (.bool c))) :=
  does_lit2 rfl fun o w ev ho h1 h2 => exec_eq ho h1 h2 (guard_form _ _ rfl) (by rw [hb, h]; rfl)
theorem eqT : Does P (.binOp .eql t x y t') ty L n [.d (.v (.string a)), .d (.v (.string b))] e0 (.d (.v (.bool (decide (a = b))))) :=
  str_op (by rw [← toList_beq]; rfl) rfl
theorem neT : Does P (.binOp .neq t x y t') ty L n [.d (.v (.string a)), .d (.v (.string b))] e0 (.d (.v (.bool (!decide (a = b))))) :=
  str_op (by rw [← toList_beq]; rfl) rfl
end
end Go.Proofs.Ytbjmdnemeidpjaa
/- alive of the law 22. -/
namespace Go.Proofs.Ytbjmdnemeidpjaa
set_option linter.unusedSimpArgs false
set_option linter.unusedVariables false
open Go.RowKit Go.Sort
set_option maxRecDepth 100000
def sM : ByteArray := ⟨#[109]⟩
def sA : ByteArray := ⟨#[97]⟩
def nC : Cel := ⟨0, 0, 0, 0, 0, 1, z65⟩
def nC5 : Cel := ⟨1, 5, 5, 5, 0, 1, [0, 0, 0, 0, 1] ++ List.replicate 60 0⟩
def mA : Sh := [((1, sM), nC, 0), ((2, sM), nC, 1)]
def mB : Sh := [((1, sM), nC, 0), ((2, sM), nC5, 1)]
def mC : Sh := [((2, sM), nC5, 1)]
def fo4 : Cel := foldC [4]
def mD : Sh := [((2, sM), nC5, 1), ((9, sA), fo4, 2)]
theorem k_note : shNote 3 [] 0 1 2 sM = ((mA, 2), 0) := by decide +kernel
theorem k_count : shCount mA 2 (2, sM) 5 = ((mB, 2), 0) := by decide +kernel
theorem k_full : shNote 3 mB 2 3 4 sM = ((mB, 2), 20) := by decide +kernel
theorem k_none : shCount mB 2 (3, sM) 5 = ((mB, 2), 19) := by decide +kernel
theorem k_of : findX mB (2, sM) = some nC5 := by decide +kernel
theorem k_room : shRoom 3 mB 2 3 sM = true := by decide +kernel
theorem idsL_is {m : Sh} {e : List KeyW} (hp : (m.map (·.1)).Perm e) (hw : e.Pairwise fun x y => (!(ltOf cmpK) y x) = true) : idsL m = e :=
  List.Perm.eq_of_pairwise (le := fun x y => (!(ltOf cmpK) y x) = true) (fun a b _ _ h1 h2 => totK a b (by simpa using h2) (by simpa using h1)) (sorted_pw swoK _) hw ((sorted_perm cmpK _).trans hp)
theorem k_ids : idsL mB = [(1, sM), (2, sM)] := idsL_is (List.Perm.refl _) (by decide +kernel)
theorem k_below : belowN mB 2 = 1 := by unfold belowN; rw [k_ids]; decide +kernel
theorem k_outs : outsL mB 1 = [((1, sM), nC)] := by unfold outsL; rw [k_ids]; decide +kernel
theorem k_closed : closedL mB 1 = mC := by unfold closedL; rw [k_ids]; decide +kernel
theorem k_set : shSet 3 mC 2 (9, sA) fo4 = ((mD, 3), 0) := by decide +kernel
theorem k_v1 : verL mB (1, sM) = nC := by decide +kernel
theorem k_v2 : verL mB (2, sM) = nC5 := by decide +kernel
theorem i_nil : ShI ([] : Sh) 0 := ⟨⟨fun p h => (by cases h), fun p h => (by cases h)⟩, Fr.nil⟩
theorem i_A : ShI mA 2 := by
  have := i_nil.note (most := 3) 1 2 sM
  rw [k_note] at this; exact this
theorem i_B : ShI mB 2 := by
  have := i_A.count (2, sM) (v := 5) (by decide)
  rw [k_count] at this; exact this
theorem i_C : ShI mC 2 := ⟨⟨fun p h => i_B.ok.ok p (List.mem_cons_of_mem _ h), fun p h => i_B.ok.right p (List.mem_cons_of_mem _ h)⟩, ⟨by decide, by decide, by decide +kernel⟩⟩
def nAt (y : Nat) : Int := if y = 0 then 0 else if y = 1 then 11 else 32
set_option maxHeartbeats 16000000 in
theorem alive22 : Sat Try.prog 20 [] [] (bA true) [] := by
  have w0 := shNew_ok 3 (by decide) (by decide)
  have n1 := shNote_sat 3 [] 0 1 2 sM i_nil.ok (by decide) (by decide) (by decide) (by decide)
  rw [k_note] at n1
  have n2 := shCount_sat 3 mA 2 (2, sM) 5 i_A.ok (by decide)
  rw [k_count] at n2
  have n3 := shNote_sat 3 mB 2 3 4 sM i_B.ok (by decide) (by decide) (by decide) (by decide)
  rw [k_full] at n3
  have n4 := shCount_sat 3 mB 2 (3, sM) 5 i_B.ok (by decide)
  rw [k_none] at n4
  have n5 := shOf_sat 3 mB 2 (2, sM) fun p hp => (i_B.ok.ok p hp).hl
  rw [k_of] at n5
  have n6 := shRoom_sat 3 mB 2 2 3 sM i_B.ok (by decide) (by decide) (by decide) (by decide)
  rw [k_room] at n6
  have n7 := shClone_sat 3 mB 2
  have n8 := shClose_sat 3 mB 2 2 i_B (by decide)
  rw [k_below, k_outs, k_closed] at n8
  have n9 := shAll_sat 3 mB 2
  have f1 := fold_sat_c [4] (by decide) (by decide)
  have hf4 : CelOK fo4 := foldC_ok (by decide) (by decide)
  have n10 := shSet_sat 3 mC 2 (9, sA) fo4 i_C.ok hf4
  rw [k_set] at n10
  have n11 := shLen_sat 3 mD 3
  have n12 := shLen_sat 3 mB 2
  have hl5 : nC5.h.length = 65 := (i_B.ok.ok _ (List.mem_cons_of_mem _ (List.mem_cons_self ..))).hl
  have hl1 : nC.h.length = 65 := rfl
  have hl4 : fo4.h.length = 65 := hf4.hl
  refine sat_of_vc (T := tiOf Try.prog) (E := E0) Try.func20 rfl rfl hE0 hm0 rfl ?_
  conv => whnf
  have hlg : ((some nC5).getD zC).h.length = 65 := hl5
  have hwk : (List.map outR [((1, sM), nC)]).length = 1 := rfl
  iterate 4
    repeat (any_goals (first
      | exact True.intro
      | (refine ⟨_, drop_id, ?_⟩; conv => whnf)
      | (refine ⟨_, _, at_n, ?_⟩; conv => whnf)
      | (refine ⟨_, _, at_hi, ?_⟩; conv => whnf)
      | (refine ⟨_, _, at_lo, ?_⟩; conv => whnf)
      | (refine ⟨_, _, at_mn, ?_⟩; conv => whnf)
      | (refine ⟨_, _, at_mx, ?_⟩; conv => whnf)
      | (refine ⟨_, _, at_ce, ?_⟩; conv => whnf)
      | (refine ⟨_, _, at_po, ?_⟩; conv => whnf)
      | (refine ⟨_, whole_z sC, clenz sC, ?_⟩; conv => whnf)
      | (refine ⟨_, setzC, ?_⟩; conv => whnf)
      | (refine And.intro (clenz sC) ?_; conv => whnf)
      | (refine And.intro fitzC ?_; conv => whnf)
      | (refine ⟨_, whole_cell sC hl5, clen sC hl5, ?_⟩; conv => whnf)
      | (refine And.intro (clen sC hl5) ?_; conv => whnf)
      | (refine And.intro (fitC hl5) ?_; conv => whnf)
      | (refine ⟨_, setC hl5, ?_⟩; conv => whnf)
      | (refine ⟨_, whole_cell sC hl1, clen sC hl1, ?_⟩; conv => whnf)
      | (refine And.intro (clen sC hl1) ?_; conv => whnf)
      | (refine And.intro (fitC hl1) ?_; conv => whnf)
      | (refine ⟨_, setC hl1, ?_⟩; conv => whnf)
      | (refine ⟨_, whole_cell sC hl4, clen sC hl4, ?_⟩; conv => whnf)
      | (refine And.intro (clen sC hl4) ?_; conv => whnf)
      | (refine And.intro (fitC hl4) ?_; conv => whnf)
      | (refine ⟨_, setC hl4, ?_⟩; conv => whnf)
      | (refine ⟨_, whole_z sF, clenz sF, ?_⟩; conv => whnf)
      | (refine ⟨_, setzF, ?_⟩; conv => whnf)
      | (refine And.intro (clenz sF) ?_; conv => whnf)
      | (refine And.intro fitzF ?_; conv => whnf)
      | (refine ⟨_, whole_cell sF hl5, clen sF hl5, ?_⟩; conv => whnf)
      | (refine And.intro (clen sF hl5) ?_; conv => whnf)
      | (refine And.intro (fitF hl5) ?_; conv => whnf)
      | (refine ⟨_, setF hl5, ?_⟩; conv => whnf)
      | (refine ⟨_, whole_cell sF hl1, clen sF hl1, ?_⟩; conv => whnf)
      | (refine And.intro (clen sF hl1) ?_; conv => whnf)
      | (refine And.intro (fitF hl1) ?_; conv => whnf)
      | (refine ⟨_, setF hl1, ?_⟩; conv => whnf)
      | (refine ⟨_, whole_cell sF hl4, clen sF hl4, ?_⟩; conv => whnf)
      | (refine And.intro (clen sF hl4) ?_; conv => whnf)
      | (refine And.intro (fitF hl4) ?_; conv => whnf)
      | (refine ⟨_, setF hl4, ?_⟩; conv => whnf)
      | (refine And.intro (fit1 hl5 (by decide)) ?_; conv => whnf)
      | (refine And.intro (fit1 hl1 (by decide)) ?_; conv => whnf)
      | (refine And.intro (fit1 hl4 (by decide)) ?_; conv => whnf)
      | (refine And.intro (fit1 rfl (by decide)) ?_; conv => whnf)
      | (refine ⟨_, sum_cell s25, rfl, ?_⟩; conv => whnf)
      | (refine ⟨_, set_n _, ?_⟩; conv => whnf)
      | (refine ⟨_, set_mn _, ?_⟩; conv => whnf)
      | (refine ⟨_, set_mx _, ?_⟩; conv => whnf)
      | (refine ⟨_, set_ce _, ?_⟩; conv => whnf)
      | (refine ⟨_, set_po _, ?_⟩; conv => whnf)
      | (refine ⟨_, set_s _, ?_⟩; conv => whnf)
      | (refine ⟨_, set_hi _, ?_⟩; conv => whnf)
      | (refine ⟨_, set_lo _, ?_⟩; conv => whnf)
      | (refine And.intro (fun _ => ?_) tf; conv => whnf)
      | (refine And.intro ft (fun _ => ?_); conv => whnf)
      | (refine And.intro (by kernel_rfl) ?_; conv => whnf)
      | (refine And.intro (by decide) ?_; conv => whnf)
      | (refine And.intro (fun _ => ?_) (fun h => absurd h (by decide)); conv => whnf)
      | (refine And.intro (fun h => absurd h (by decide)) (fun _ => ?_); conv => whnf)
      | (refine And.intro (fun _ => ?_) (fun _ => ?_) <;> conv => whnf)
      | (refine ⟨_, _, w0.nw rfl, ?_⟩; conv => whnf)
      | (refine ⟨_, _, n1.at2 1 0 rfl rfl rfl rfl rfl, ?_⟩; conv => whnf)
      | (refine ⟨_, _, n2.at2 1 0 rfl rfl rfl rfl rfl, ?_⟩; conv => whnf)
      | (refine ⟨_, _, n3.at2 1 0 rfl rfl rfl rfl rfl, ?_⟩; conv => whnf)
      | (refine ⟨_, _, n4.at2 1 0 rfl rfl rfl rfl rfl, ?_⟩; conv => whnf)
      | (refine ⟨_, _, n5.at2 1 0 rfl rfl rfl rfl rfl, ?_⟩; conv => whnf)
      | (refine ⟨_, _, n6.at2 1 0 rfl rfl rfl rfl rfl, ?_⟩; conv => whnf)
      | (refine ⟨_, _, n7.at2 1 0 rfl rfl rfl rfl rfl, ?_⟩; conv => whnf)
      | (refine ⟨_, _, n8.at2 1 0 rfl rfl rfl rfl rfl, ?_⟩; conv => whnf)
      | (refine ⟨_, _, n9.at2 4 3 rfl rfl rfl rfl rfl, ?_⟩; conv => whnf)
      | (refine ⟨_, _, eqP (by kernel_rfl), ?_⟩; conv => whnf)))
    all_goals try (refine Or.inl ?_; conv => whnf)
  refine ⟨Nat, Nat, fun y z => z = y ∧ y ≤ 2, fun z => [shO mC 2, .cells [iA 3, .mp 0], .row (cR nC5), shO mB 2, .cells [iA 3, .mp 3], .sl 74 ([((1, sM), nC)].map outR), .cells [iA (nAt z)], .cells [.ptr 4 0]], [(56, .fn (.func 58) [] [.ptr 7 0]), (12, .ptr 6 0), (11, .own 5), (10, .ptr 4 0), (9, bA true), (8, bA true), (7, .ptr 2 0), (6, iA 19), (5, iA 20), (4, iA 0), (3, iA 0), (1, .ptr 1 0)], 8, _, _, _, ([.dead, .dead, .dead, shO mB 2, .cells [iA 3, .mp 3], .dead, .dead, .cells [.ptr 4 0]], none), 0, _, _, ⟨0, ⟨rfl, Nat.zero_le _⟩, ?_⟩, rfl, by kernel_rfl, allIt (i := 7) (j := 4) (k := 3) ⟨i_B.fr.nd, i_B.fr.lt⟩ (by decide) rfl rfl rfl, ?_, ?_, ?_, ?_⟩
  · all_goals refine ⟨[], ?_⟩
    repeat (any_goals (first | exact True.intro | exact rfl | with_reducible_and_instances rfl | exact (by kernel_rfl) | refine And.intro ?_ ?_))
    all_goals conv => whnf
  · rintro y x y' ⟨e, _, rfl⟩; rfl
  · rintro y z _; exact ⟨⟨rfl, rfl, rfl, trivial⟩, (show 8 ≤ 8 by decide)⟩
  · rintro y z x y' ⟨rfl, hy⟩ ⟨k, ⟨hk, rfl⟩, rfl⟩
    rw [k_ids] at hk
    match z, hk with
    | 0, hk =>
      have := Option.some.inj hk
      subst this
      rw [k_v1]
      conv => whnf
      iterate 2
        repeat (any_goals (first
          | exact True.intro
          | (refine ⟨_, drop_id, ?_⟩; conv => whnf)
          | (refine ⟨_, _, at_n, ?_⟩; conv => whnf)
          | (refine ⟨_, _, at_hi, ?_⟩; conv => whnf)
          | (refine ⟨_, _, at_lo, ?_⟩; conv => whnf)
          | (refine ⟨_, _, at_mn, ?_⟩; conv => whnf)
          | (refine ⟨_, _, at_mx, ?_⟩; conv => whnf)
          | (refine ⟨_, _, at_ce, ?_⟩; conv => whnf)
          | (refine ⟨_, _, at_po, ?_⟩; conv => whnf)
          | (refine ⟨_, whole_z sC, clenz sC, ?_⟩; conv => whnf)
          | (refine ⟨_, setzC, ?_⟩; conv => whnf)
          | (refine And.intro (clenz sC) ?_; conv => whnf)
          | (refine And.intro fitzC ?_; conv => whnf)
          | (refine ⟨_, whole_cell sC hl1, clen sC hl1, ?_⟩; conv => whnf)
          | (refine And.intro (clen sC hl1) ?_; conv => whnf)
          | (refine And.intro (fitC hl1) ?_; conv => whnf)
          | (refine ⟨_, setC hl1, ?_⟩; conv => whnf)
          | (refine ⟨_, whole_z sF, clenz sF, ?_⟩; conv => whnf)
          | (refine ⟨_, setzF, ?_⟩; conv => whnf)
          | (refine And.intro (clenz sF) ?_; conv => whnf)
          | (refine And.intro fitzF ?_; conv => whnf)
          | (refine ⟨_, whole_cell sF hl1, clen sF hl1, ?_⟩; conv => whnf)
          | (refine And.intro (clen sF hl1) ?_; conv => whnf)
          | (refine And.intro (fitF hl1) ?_; conv => whnf)
          | (refine ⟨_, setF hl1, ?_⟩; conv => whnf)
          | (refine And.intro (fit1 hl1 (by decide)) ?_; conv => whnf)
          | (refine And.intro (fit1 rfl (by decide)) ?_; conv => whnf)
          | (refine ⟨_, sum_cell s25, rfl, ?_⟩; conv => whnf)
          | (refine ⟨_, set_n _, ?_⟩; conv => whnf)
          | (refine ⟨_, set_mn _, ?_⟩; conv => whnf)
          | (refine ⟨_, set_mx _, ?_⟩; conv => whnf)
          | (refine ⟨_, set_ce _, ?_⟩; conv => whnf)
          | (refine ⟨_, set_po _, ?_⟩; conv => whnf)
          | (refine ⟨_, set_s _, ?_⟩; conv => whnf)
          | (refine ⟨_, set_hi _, ?_⟩; conv => whnf)
          | (refine ⟨_, set_lo _, ?_⟩; conv => whnf)
          | (refine And.intro (fun _ => ?_) tf; conv => whnf)
          | (refine And.intro ft (fun _ => ?_); conv => whnf)
          | (refine And.intro (by kernel_rfl) ?_; conv => whnf)
          | (refine And.intro (by decide) ?_; conv => whnf)
          | (refine And.intro (fun _ => ?_) (fun h => absurd h (by decide)); conv => whnf)
          | (refine And.intro (fun h => absurd h (by decide)) (fun _ => ?_); conv => whnf)
          | (refine And.intro (fun _ => ?_) (fun _ => ?_) <;> conv => whnf)))
        all_goals try (refine Or.inl ?_; conv => whnf)
      refine ⟨1, ⟨rfl, by decide⟩, ?_⟩
      all_goals refine ⟨[], ?_⟩
      repeat (any_goals (first | exact True.intro | exact rfl | with_reducible_and_instances rfl | exact (by kernel_rfl) | refine And.intro ?_ ?_))
      all_goals conv => whnf
    | 1, hk =>
      have := Option.some.inj hk
      subst this
      rw [k_v2]
      conv => whnf
      iterate 2
        repeat (any_goals (first
          | exact True.intro
          | (refine ⟨_, drop_id, ?_⟩; conv => whnf)
          | (refine ⟨_, _, at_n, ?_⟩; conv => whnf)
          | (refine ⟨_, _, at_hi, ?_⟩; conv => whnf)
          | (refine ⟨_, _, at_lo, ?_⟩; conv => whnf)
          | (refine ⟨_, _, at_mn, ?_⟩; conv => whnf)
          | (refine ⟨_, _, at_mx, ?_⟩; conv => whnf)
          | (refine ⟨_, _, at_ce, ?_⟩; conv => whnf)
          | (refine ⟨_, _, at_po, ?_⟩; conv => whnf)
          | (refine ⟨_, whole_z sC, clenz sC, ?_⟩; conv => whnf)
          | (refine ⟨_, setzC, ?_⟩; conv => whnf)
          | (refine And.intro (clenz sC) ?_; conv => whnf)
          | (refine And.intro fitzC ?_; conv => whnf)
          | (refine ⟨_, whole_cell sC hl5, clen sC hl5, ?_⟩; conv => whnf)
          | (refine And.intro (clen sC hl5) ?_; conv => whnf)
          | (refine And.intro (fitC hl5) ?_; conv => whnf)
          | (refine ⟨_, setC hl5, ?_⟩; conv => whnf)
          | (refine ⟨_, whole_z sF, clenz sF, ?_⟩; conv => whnf)
          | (refine ⟨_, setzF, ?_⟩; conv => whnf)
          | (refine And.intro (clenz sF) ?_; conv => whnf)
          | (refine And.intro fitzF ?_; conv => whnf)
          | (refine ⟨_, whole_cell sF hl5, clen sF hl5, ?_⟩; conv => whnf)
          | (refine And.intro (clen sF hl5) ?_; conv => whnf)
          | (refine And.intro (fitF hl5) ?_; conv => whnf)
          | (refine ⟨_, setF hl5, ?_⟩; conv => whnf)
          | (refine And.intro (fit1 hl5 (by decide)) ?_; conv => whnf)
          | (refine And.intro (fit1 rfl (by decide)) ?_; conv => whnf)
          | (refine ⟨_, sum_cell s25, rfl, ?_⟩; conv => whnf)
          | (refine ⟨_, set_n _, ?_⟩; conv => whnf)
          | (refine ⟨_, set_mn _, ?_⟩; conv => whnf)
          | (refine ⟨_, set_mx _, ?_⟩; conv => whnf)
          | (refine ⟨_, set_ce _, ?_⟩; conv => whnf)
          | (refine ⟨_, set_po _, ?_⟩; conv => whnf)
          | (refine ⟨_, set_s _, ?_⟩; conv => whnf)
          | (refine ⟨_, set_hi _, ?_⟩; conv => whnf)
          | (refine ⟨_, set_lo _, ?_⟩; conv => whnf)
          | (refine And.intro (fun _ => ?_) tf; conv => whnf)
          | (refine And.intro ft (fun _ => ?_); conv => whnf)
          | (refine And.intro (by kernel_rfl) ?_; conv => whnf)
          | (refine And.intro (by decide) ?_; conv => whnf)
          | (refine And.intro (fun _ => ?_) (fun h => absurd h (by decide)); conv => whnf)
          | (refine And.intro (fun h => absurd h (by decide)) (fun _ => ?_); conv => whnf)
          | (refine And.intro (fun _ => ?_) (fun _ => ?_) <;> conv => whnf)))
        all_goals try (refine Or.inl ?_; conv => whnf)
      refine ⟨2, ⟨rfl, by decide⟩, ?_⟩
      all_goals refine ⟨[], ?_⟩
      repeat (any_goals (first | exact True.intro | exact rfl | with_reducible_and_instances rfl | exact (by kernel_rfl) | refine And.intro ?_ ?_))
      all_goals conv => whnf
    | n + 2, hk => simp at hk
  · rintro y z hF ⟨rfl, hy⟩
    have hF : z = 2 := hF
    subst hF
    conv => whnf
    iterate 3
      repeat (any_goals (first
        | exact True.intro
        | (refine ⟨0, rfl, (show 0 < 1 by decide), ?_⟩; conv => whnf)
        | (refine ⟨outR ((1, sM), nC), rfl, ?_⟩; conv => whnf)
        | (refine ⟨_, drop_id, ?_⟩; conv => whnf)
        | (refine ⟨_, _, at_n, ?_⟩; conv => whnf)
        | (refine ⟨_, _, at_hi, ?_⟩; conv => whnf)
        | (refine ⟨_, _, at_lo, ?_⟩; conv => whnf)
        | (refine ⟨_, _, at_mn, ?_⟩; conv => whnf)
        | (refine ⟨_, _, at_mx, ?_⟩; conv => whnf)
        | (refine ⟨_, _, at_ce, ?_⟩; conv => whnf)
        | (refine ⟨_, _, at_po, ?_⟩; conv => whnf)
        | (refine ⟨_, whole_z sC, clenz sC, ?_⟩; conv => whnf)
        | (refine ⟨_, setzC, ?_⟩; conv => whnf)
        | (refine And.intro (clenz sC) ?_; conv => whnf)
        | (refine And.intro fitzC ?_; conv => whnf)
        | (refine ⟨_, whole_cell sC hl5, clen sC hl5, ?_⟩; conv => whnf)
        | (refine And.intro (clen sC hl5) ?_; conv => whnf)
        | (refine And.intro (fitC hl5) ?_; conv => whnf)
        | (refine ⟨_, setC hl5, ?_⟩; conv => whnf)
        | (refine ⟨_, whole_cell sC hl1, clen sC hl1, ?_⟩; conv => whnf)
        | (refine And.intro (clen sC hl1) ?_; conv => whnf)
        | (refine And.intro (fitC hl1) ?_; conv => whnf)
        | (refine ⟨_, setC hl1, ?_⟩; conv => whnf)
        | (refine ⟨_, whole_cell sC hl4, clen sC hl4, ?_⟩; conv => whnf)
        | (refine And.intro (clen sC hl4) ?_; conv => whnf)
        | (refine And.intro (fitC hl4) ?_; conv => whnf)
        | (refine ⟨_, setC hl4, ?_⟩; conv => whnf)
        | (refine ⟨_, whole_z sF, clenz sF, ?_⟩; conv => whnf)
        | (refine ⟨_, setzF, ?_⟩; conv => whnf)
        | (refine And.intro (clenz sF) ?_; conv => whnf)
        | (refine And.intro fitzF ?_; conv => whnf)
        | (refine ⟨_, whole_cell sF hl5, clen sF hl5, ?_⟩; conv => whnf)
        | (refine And.intro (clen sF hl5) ?_; conv => whnf)
        | (refine And.intro (fitF hl5) ?_; conv => whnf)
        | (refine ⟨_, setF hl5, ?_⟩; conv => whnf)
        | (refine ⟨_, whole_cell sF hl1, clen sF hl1, ?_⟩; conv => whnf)
        | (refine And.intro (clen sF hl1) ?_; conv => whnf)
        | (refine And.intro (fitF hl1) ?_; conv => whnf)
        | (refine ⟨_, setF hl1, ?_⟩; conv => whnf)
        | (refine ⟨_, whole_cell sF hl4, clen sF hl4, ?_⟩; conv => whnf)
        | (refine And.intro (clen sF hl4) ?_; conv => whnf)
        | (refine And.intro (fitF hl4) ?_; conv => whnf)
        | (refine ⟨_, setF hl4, ?_⟩; conv => whnf)
        | (refine And.intro (fit1 hl5 (by decide)) ?_; conv => whnf)
        | (refine And.intro (fit1 hl1 (by decide)) ?_; conv => whnf)
        | (refine And.intro (fit1 hl4 (by decide)) ?_; conv => whnf)
        | (refine And.intro (fit1 rfl (by decide)) ?_; conv => whnf)
        | (refine ⟨_, sum_cell s25, rfl, ?_⟩; conv => whnf)
        | (refine ⟨_, set_n _, ?_⟩; conv => whnf)
        | (refine ⟨_, set_mn _, ?_⟩; conv => whnf)
        | (refine ⟨_, set_mx _, ?_⟩; conv => whnf)
        | (refine ⟨_, set_ce _, ?_⟩; conv => whnf)
        | (refine ⟨_, set_po _, ?_⟩; conv => whnf)
        | (refine ⟨_, set_s _, ?_⟩; conv => whnf)
        | (refine ⟨_, set_hi _, ?_⟩; conv => whnf)
        | (refine ⟨_, set_lo _, ?_⟩; conv => whnf)
        | (refine And.intro (fun _ => ?_) tf; conv => whnf)
        | (refine And.intro ft (fun _ => ?_); conv => whnf)
        | (refine And.intro (by kernel_rfl) ?_; conv => whnf)
        | (refine And.intro (by decide) ?_; conv => whnf)
        | (refine And.intro (fun _ => ?_) (fun h => absurd h (by decide)); conv => whnf)
        | (refine And.intro (fun h => absurd h (by decide)) (fun _ => ?_); conv => whnf)
        | (refine And.intro (fun _ => ?_) (fun _ => ?_) <;> conv => whnf)
        | (refine ⟨_, _, lendO f1 rfl rfl, ?_⟩; conv => whnf)
        | (refine ⟨_, _, n10.at2 1 0 rfl rfl rfl rfl rfl, ?_⟩; conv => whnf)
        | (refine ⟨_, _, n11.at2 1 0 rfl rfl rfl rfl rfl, ?_⟩; conv => whnf)
        | (refine ⟨_, _, n12.at2 4 3 rfl rfl rfl rfl rfl, ?_⟩; conv => whnf)
        | (refine ⟨_, _, eqT, ?_⟩; conv => whnf)))
      all_goals try (refine Or.inl ?_; conv => whnf)
    all_goals refine ⟨[], ?_⟩
    repeat (any_goals (first | exact True.intro | exact rfl | with_reducible_and_instances rfl | exact (by kernel_rfl) | refine And.intro ?_ ?_))
    all_goals conv => whnf
end Go.Proofs.Ytbjmdnemeidpjaa
/- The shelf's tallies, in plain Lean: what a shelf holds behind events that were noted and counted. -/
namespace Go.Proofs.Ytbjmdnemeidpjaa
set_option linter.unusedSimpArgs false
set_option linter.unusedVariables false
open Go.RowKit
set_option maxRecDepth 100000
section
variable {κ ν : Type} [DecidableEq κ]
theorem findX_put {m : Es κ ν} {k : κ} {v : ν} {c : Nat} (k' : κ) : findX (putX k v c m) k' = if k' = k then some v else findX m k' := by
  induction m with
  | nil =>
    show findX [(k, v, c)] k' = _
    unfold findX
    by_cases e : k' = k
    · rw [if_pos e, List.find?_cons_of_pos (by simpa using e.symm)]; rfl
    · rw [if_neg e, List.find?_cons_of_neg (by simpa using fun q => e q.symm)]
  | cons p m ih =>
    by_cases h : p.1 = k
    · have : putX k v c (p :: m) = (k, v, p.2.2) :: m := if_pos h
      rw [this]
      unfold findX
      by_cases e : k' = k
      · rw [if_pos e, List.find?_cons_of_pos (by simpa using e.symm)]; rfl
      · rw [if_neg e, List.find?_cons_of_neg (by simpa using fun q => e q.symm), List.find?_cons_of_neg (by rw [h]; simpa using fun q => e q.symm)]
    · have : putX k v c (p :: m) = p :: putX k v c m := if_neg h
      rw [this]
      unfold findX at ih ⊢
      by_cases e : p.1 = k'
      · rw [List.find?_cons_of_pos (by simpa using e), List.find?_cons_of_pos (by simpa using e)]
        rw [if_neg (fun q => h (e.trans q))]
      · rw [List.find?_cons_of_neg (by simpa using e), List.find?_cons_of_neg (by simpa using e)]
        exact ih
theorem putX_length {m : Es κ ν} {k : κ} {v : ν} {c : Nat} : (putX k v c m).length = m.length + if (findX m k).isSome then 0 else 1 := by
  by_cases h : k ∈ m.map (·.1)
  · rw [if_pos (show (findX m k).isSome = true from hasX_iff.2 h)]
    have := congrArg List.length (putX_keys (v := v) (c := c) h).1
    simpa using this
  · rw [putX_new h, if_neg (show ¬ (findX m k).isSome = true from fun q => h (hasX_iff.1 q))]
    simp
end
theorem putAllX_find {l : List (KeyW × Cel)} : ∀ {m : Sh} {c : Nat} (k : KeyW), (l.map (·.1)).Nodup → findX (putAllX l m c).1 k = match l.find? (fun x => decide (x.1 = k)) with | some x => some x.2 | none => findX m k := by
  induction l with
  | nil => intro m c k _; rfl
  | cons x l ih =>
    intro m c k hn
    rw [List.map_cons, List.nodup_cons] at hn
    have : putAllX (x :: l) m c = putAllX l (putX x.1 x.2 c m) (clkX x.1 m c) := rfl
    rw [this, ih k hn.2, findX_put]
    by_cases e : x.1 = k
    · have hf : l.find? (fun x => decide (x.1 = k)) = none := by
        rw [List.find?_eq_none]
        intro y hy q
        exact hn.1 (by rw [e, ← of_decide_eq_true q]; exact List.mem_map_of_mem hy)
      rw [hf, List.find?_cons_of_pos (by simpa using e), if_pos e.symm]
    · rw [List.find?_cons_of_neg (by simpa using e)]
      split
      · rfl
      · rw [if_neg fun q => e q.symm]
theorem putAllX_len {l : List (KeyW × Cel)} : ∀ {m : Sh} {c : Nat}, (putAllX l m c).1.length ≤ m.length + l.length := by
  induction l with
  | nil => intro m c; exact Nat.le_refl _
  | cons x l ih =>
    intro m c
    have : putAllX (x :: l) m c = putAllX l (putX x.1 x.2 c m) (clkX x.1 m c) := rfl
    rw [this]
    have := @ih (putX x.1 x.2 c m) (clkX x.1 m c)
    have h := putX_length (m := m) (k := x.1) (v := x.2) (c := c)
    rw [List.length_cons]
    split at h <;> omega
theorem keysN_nodup (first : Int) (s : ByteArray) (n : Nat) : (keysN first s n).Nodup := by
  induction n with
  | zero => exact List.nodup_nil
  | succ n ih =>
    rw [keysN_succ, List.nodup_append]
    refine ⟨ih, by simp, fun a ha b hb => ?_⟩
    rw [List.mem_singleton] at hb
    subst hb
    unfold keysN at ha
    obtain ⟨i, hi, rfl⟩ := List.mem_map.1 ha
    rw [List.mem_range] at hi
    intro e
    injection e with e
    omega
theorem keysN_mem {first : Int} {s : ByteArray} {n : Nat} {k : KeyW} : k ∈ keysN first s n ↔ k.2 = s ∧ first ≤ k.1 ∧ k.1 < first + n := by
  unfold keysN
  rw [List.mem_map]
  constructor
  · rintro ⟨i, hi, rfl⟩
    rw [List.mem_range] at hi
    exact ⟨rfl, by show first ≤ first + (i : Int); omega, by show first + (i : Int) < first + n; omega⟩
  · rintro ⟨h1, h2, h3⟩
    refine ⟨(k.1 - first).toNat, List.mem_range.2 (by omega), ?_⟩
    obtain ⟨a, b⟩ := k
    simp only at h1 h2 h3 ⊢
    rw [h1]
    congr 1
    omega
theorem notedL_keys (m : Sh) (first : Int) (s : ByteArray) (b : Bool) (n : Nat) : (notedL m first s b n).map (·.1) = keysN first s n := by
  unfold notedL; rw [List.map_map]; exact List.map_id' _
def inKs (first : Int) (s : ByteArray) (n : Nat) (k : KeyW) : Bool := decide (k.2 = s ∧ first ≤ k.1 ∧ k.1 < first + n)
theorem inKs_iff {first : Int} {s : ByteArray} {n : Nat} {k : KeyW} : inKs first s n k = true ↔ k ∈ keysN first s n := by
  unfold inKs; rw [decide_eq_true_eq, keysN_mem]
theorem notedL_find (m : Sh) (first : Int) (s : ByteArray) (b : Bool) (n : Nat) (k : KeyW) : (notedL m first s b n).find? (fun x => decide (x.1 = k)) = if inKs first s n k then some (k, (noteC (cellAt m k) b).1) else none := by
  split
  · rename_i h
    rw [inKs_iff] at h
    have hm : (k, (noteC (cellAt m k) b).1) ∈ notedL m first s b n := List.mem_map.2 ⟨k, h, rfl⟩
    cases hf : (notedL m first s b n).find? (fun x => decide (x.1 = k)) with
    | none => rw [List.find?_eq_none] at hf; exact absurd (decide_eq_true rfl) (hf _ hm)
    | some x =>
      have h1 := List.mem_of_find?_eq_some hf
      have h2 := List.find?_some hf
      unfold notedL at h1
      obtain ⟨q, _, rfl⟩ := List.mem_map.1 h1
      have : q = k := of_decide_eq_true h2
      rw [this]
  · rename_i h
    rw [inKs_iff] at h
    rw [List.find?_eq_none]
    intro x hx q
    have : x.1 ∈ (notedL m first s b n).map (·.1) := List.mem_map_of_mem hx
    rw [notedL_keys, of_decide_eq_true q] at this
    exact h this
/-! ### events -/
structure Ev where
  first : Int
  n : Nat
  at_ : Nat
  name : ByteArray
  v : Int
def Ev.hit (x : Ev) (k : KeyW) : Bool := decide (x.name = k.2 ∧ x.first ≤ k.1 ∧ k.1 ≤ x.first + x.n)
def Ev.in_ (x : Ev) (k : KeyW) : Bool := x.hit k && decide (k.1 = x.first + x.at_)
def hitsN (l : List Ev) (k : KeyW) (b : Bool) : Nat := l.countP fun x => x.hit k && (decide (x.n = 0) == b)
def valsN (l : List Ev) (k : KeyW) : List Int := (l.filter fun x => x.in_ k).map (·.v)
def withT (l : List Int) (ce po : Int) : Cel := ⟨l.length, l.sum, mmin l, mmax l, ce, po, histL l⟩
def cellOf (l : List Ev) (k : KeyW) : Cel := withT (valsN l k) (hitsN l k true) (hitsN l k false)
theorem withT_right {l : List Int} {ce po : Int} (h : ∀ z ∈ l, in64 z) (h1 : 0 ≤ ce) (h2 : 0 ≤ po) : RightC (withT l ce po) := by
  have r := foldC_right h
  exact ⟨r.n, h1, h2, r.mm, r.ok, r.sum, r.zero, r.low, r.high, r.all⟩
theorem withT_note {l : List Int} {ce po : Int} {b : Bool} (h : ∀ z ∈ l, in64 z) (h1 : 0 ≤ ce) (h2 : 0 ≤ po) (h3 : ce < big) (h4 : po < big) : noteC (withT l ce po) b = (withT l (if b then ce + 1 else ce) (if b then po else po + 1), 0) :=
  noteC_fine (withT_right h h1 h2) (by cases b <;> simp [withT] <;> omega)
theorem withT_add {l : List Int} {ce po v : Int} (h : ∀ z ∈ l ++ [v], in64 z) (h1 : 0 ≤ ce) (h2 : 0 ≤ po) (hn : l.length ≤ 1000) : addC (withT l ce po) v = (withT (l ++ [v]) ce po, 0) := by
  have hl : ∀ z ∈ l, in64 z := fun z hz => h z (List.mem_append_left _ hz)
  have hn' : (l.length : Int) ≠ big := by unfold big; omega
  have hs : in128 (l.sum + v) := by
    have := sum_in128 h (by simp; omega)
    rw [List.sum_append, List.sum_cons, List.sum_nil, Int.add_zero] at this; exact this
  have e := foldC_snoc h (by omega)
  rw [addC_fine (foldC_right hl) hn' hs] at e
  rw [addC_fine (withT_right hl h1 h2) hn' hs]
  have e := congrArg Prod.fst e
  simp only [foldC] at e
  injection e with a1 a2 a3 a4 _ _ a7
  unfold withT
  refine Prod.ext ?_ rfl
  simp only
  refine Cel.ext' a1 a2 ?_ ?_ rfl rfl a7
  · exact a3
  · exact a4
theorem hitsN_snoc (l : List Ev) (x : Ev) (k : KeyW) (b : Bool) : hitsN (l ++ [x]) k b = hitsN l k b + if x.hit k && (decide (x.n = 0) == b) then 1 else 0 := by
  unfold hitsN
  rw [List.countP_append, List.countP_cons, List.countP_nil, Nat.zero_add]
theorem valsN_snoc (l : List Ev) (x : Ev) (k : KeyW) : valsN (l ++ [x]) k = valsN l k ++ if x.in_ k then [x.v] else [] := by
  unfold valsN
  rw [List.filter_append, List.map_append]
  congr 1
  have e : List.filter (fun x => x.in_ k) [x] = if x.in_ k then [x] else [] := by
    unfold List.filter
    cases x.in_ k <;> rfl
  rw [e]
  split <;> rfl
structure Ev.OK (x : Ev) : Prop where
  lo : -1099511627776 ≤ x.first
  hi : x.first ≤ 1099511627776
  n : x.n ≤ 7
  at_ : x.at_ ≤ x.n
  v : in64 x.v
theorem valsN_in {l : List Ev} (h : ∀ x ∈ l, x.OK) (k : KeyW) : ∀ z ∈ valsN l k, in64 z := by
  intro z hz
  unfold valsN at hz
  obtain ⟨x, hx, rfl⟩ := List.mem_map.1 hz
  exact (h x (List.mem_filter.1 hx).1).v
theorem valsN_len (l : List Ev) (k : KeyW) : (valsN l k).length ≤ l.length := by
  unfold valsN; rw [List.length_map]; exact List.length_filter_le _ _
theorem hitsN_len (l : List Ev) (k : KeyW) (b : Bool) : hitsN l k b ≤ l.length := List.countP_le_length
theorem valsN_none {l : List Ev} {k : KeyW} (h : hitsN l k true + hitsN l k false = 0) : valsN l k = [] := by
  unfold valsN
  rw [List.map_eq_nil_iff, List.filter_eq_nil_iff]
  intro x hx q
  unfold Ev.in_ at q
  rw [Bool.and_eq_true] at q
  have h1 : hitsN l k true = 0 := by omega
  have h2 : hitsN l k false = 0 := by omega
  unfold hitsN at h1 h2
  rw [List.countP_eq_zero] at h1 h2
  have a := h1 x hx
  have b := h2 x hx
  rw [q.1] at a b
  cases hd : decide (x.n = 0) <;> simp [hd] at a b
theorem cellOf_none {l : List Ev} {k : KeyW} (h : hitsN l k true + hitsN l k false = 0) : cellOf l k = zC := by
  unfold cellOf
  rw [valsN_none h, show hitsN l k true = 0 by omega, show hitsN l k false = 0 by omega]
  decide +kernel
/-- What a shelf holds behind events. -/
structure TalI (l : List Ev) (m : Sh) (c : Nat) : Prop where
  i : ShI m c
  len : m.length ≤ 8 * l.length
  at_ : ∀ k, findX m k = if hitsN l k true + hitsN l k false = 0 then none else some (cellOf l k)
theorem TalI.cell {l : List Ev} {m : Sh} {c : Nat} (h : TalI l m c) (k : KeyW) : cellAt m k = cellOf l k := by
  unfold cellAt
  rw [h.at_ k]
  split
  · rename_i e; rw [cellOf_none e]; rfl
  · rfl
theorem TalI.nil : TalI [] [] 0 := ⟨⟨⟨fun p h => (by cases h), fun p h => (by cases h)⟩, Fr.nil⟩, Nat.le_refl _, fun k => rfl⟩
theorem cellOf_note {l : List Ev} (hl : ∀ x ∈ l, x.OK) (hn : l.length < 60) (k : KeyW) (b : Bool) : noteC (cellOf l k) b = (withT (valsN l k) (if b then (hitsN l k true : Int) + 1 else hitsN l k true) (if b then (hitsN l k false : Int) else hitsN l k false + 1), 0) := by
  have h1 := hitsN_len l k true
  have h2 := hitsN_len l k false
  exact withT_note (valsN_in hl k) (by omega) (by omega) (by unfold big; omega) (by unfold big; omega)
theorem in_hit {x : Ev} {k : KeyW} (hx : x.OK) : x.in_ k = decide (k = (x.first + x.at_, x.name)) := by
  unfold Ev.in_ Ev.hit
  rw [Bool.eq_iff_iff, Bool.and_eq_true, decide_eq_true_eq, decide_eq_true_eq, decide_eq_true_eq]
  obtain ⟨a, b⟩ := k
  simp only [Prod.mk.injEq]
  have := hx.at_
  constructor
  · rintro ⟨⟨h1, h2, h3⟩, h4⟩; exact ⟨h4, h1.symm⟩
  · rintro ⟨h1, h2⟩; exact ⟨⟨h2.symm, by omega, by omega⟩, h1⟩
theorem hit_mem {x : Ev} {k : KeyW} : x.hit k = inKs x.first x.name (x.n + 1) k := by
  unfold Ev.hit inKs
  rw [decide_eq_decide]
  constructor
  · rintro ⟨h1, h2, h3⟩; exact ⟨h1.symm, h2, by omega⟩
  · rintro ⟨h1, h2, h3⟩; exact ⟨h1.symm, h2, by omega⟩
theorem TalI.step {l : List Ev} {m : Sh} {c : Nat} (h : TalI l m c) (hl : ∀ x ∈ l, x.OK) (hn : l.length < 60) {x : Ev} (hx : x.OK) :
    ∃ m1 c1 m2 c2, shNote 1024 m c x.first (x.first + x.n) x.name = ((m1, c1), 0) ∧ ShI m1 c1 ∧ m1.length ≤ 8 * l.length + 8 ∧ shCount m1 c1 (x.first + x.at_, x.name) x.v = ((m2, c2), 0) ∧ TalI (l ++ [x]) m2 c2 := by
  have hxn := hx.n
  have hlen := h.len
  have hd : (x.first + (x.n : Int) - x.first).toNat + 1 = x.n + 1 := by omega
  obtain ⟨b, hb⟩ : ∃ b, decide (x.first = x.first + (x.n : Int)) = b := ⟨_, rfl⟩
  have hb' : decide (x.n = 0) = b := by rw [← hb, decide_eq_decide]; omega
  have hok : noteOK m x.first x.name b (x.n + 1) = true := by
    unfold noteOK
    rw [List.all_eq_true]
    intro k _
    rw [h.cell k, cellOf_note hl hn]; rfl
  have hroom : shRoom 1024 m x.first (x.first + (x.n : Int)) x.name = true := by
    unfold shRoom
    have := lackN_le m x.first x.name (x.n + 1)
    rw [if_neg (by omega), if_neg (by omega), hd, decide_eq_true_eq]
    omega
  have e1 : shNote 1024 m c x.first (x.first + x.n) x.name = (putAllX (notedL m x.first x.name b (x.n + 1)) m c, 0) := by
    unfold shNote
    rw [if_neg (by omega), hroom, if_neg (by simp), hd, hb, if_pos hok]
  obtain ⟨m1, c1, hm1⟩ : ∃ m1 c1, putAllX (notedL m x.first x.name b (x.n + 1)) m c = (m1, c1) := ⟨_, _, rfl⟩
  rw [hm1] at e1
  have i1 := h.i.note (most := 1024) x.first (x.first + x.n) x.name
  rw [e1] at i1
  have hlen1 : m1.length ≤ 8 * l.length + 8 := by
    have := putAllX_len (l := notedL m x.first x.name b (x.n + 1)) (m := m) (c := c)
    rw [hm1, notedL_len] at this
    have this : m1.length ≤ m.length + (x.n + 1) := this
    omega
  have f1 : ∀ k, findX m1 k = if x.hit k then some (noteC (cellOf l k) b).1 else findX m k := by
    intro k
    have := putAllX_find (l := notedL m x.first x.name b (x.n + 1)) (m := m) (c := c) k (by rw [notedL_keys]; exact keysN_nodup _ _ _)
    rw [hm1, notedL_find] at this
    have this : findX m1 k = _ := this
    rw [this, hit_mem]
    by_cases q : inKs x.first x.name (x.n + 1) k = true
    · rw [if_pos q, q, if_pos rfl, h.cell k]
    · rw [if_neg q, if_neg q]
  obtain ⟨k0, hk0⟩ : ∃ k0, (x.first + (x.at_ : Int), x.name) = k0 := ⟨_, rfl⟩
  have hin := fun k => in_hit (k := k) hx
  rw [hk0] at hin ⊢
  have hhit : x.hit k0 = true := by
    have := hin k0
    rw [decide_eq_true rfl] at this
    unfold Ev.in_ at this
    exact (Bool.and_eq_true _ _ ▸ this).1
  have hf : findX m1 k0 = some (noteC (cellOf l k0) b).1 := by rw [f1 k0, if_pos hhit]
  have hv : ∀ z ∈ valsN l k0 ++ [x.v], in64 z := fun z hz => by
    rcases List.mem_append.1 hz with q | q
    · exact valsN_in hl k0 z q
    · rw [List.mem_singleton.1 q]; exact hx.v
  have ht : hitsN l k0 true ≤ l.length := hitsN_len l k0 true
  have ht' : hitsN l k0 false ≤ l.length := hitsN_len l k0 false
  have hadd : addC (noteC (cellOf l k0) b).1 x.v = (withT (valsN l k0 ++ [x.v]) (if b then (hitsN l k0 true : Int) + 1 else hitsN l k0 true) (if b then (hitsN l k0 false : Int) else hitsN l k0 false + 1), 0) := by
    rw [cellOf_note hl hn]
    exact withT_add hv (by split <;> omega) (by split <;> omega) (by have := valsN_len l k0; omega)
  have e2 : shCount m1 c1 k0 x.v = ((putX k0 (withT (valsN l k0 ++ [x.v]) (if b then (hitsN l k0 true : Int) + 1 else hitsN l k0 true) (if b then (hitsN l k0 false : Int) else hitsN l k0 false + 1)) c1 m1, clkX k0 m1 c1), 0) := by
    unfold shCount
    rw [hf]
    show (if (addC (noteC (cellOf l k0) b).1 x.v).2 = 0 then _ else _) = _
    rw [hadd, if_pos rfl]
  refine ⟨m1, c1, _, _, e1, i1, hlen1, e2, ?_⟩
  have i2 := i1.count k0 (v := x.v) hx.v
  rw [e2] at i2
  refine ⟨i2, ?_, fun k => ?_⟩
  · rw [putX_length, hf, List.length_append, List.length_singleton]
    simp only [Option.isSome_some, if_true]
    omega
  · rw [findX_put, hitsN_snoc, hitsN_snoc, hb']
    unfold cellOf
    rw [hitsN_snoc, hitsN_snoc, valsN_snoc, hb', hin k]
    by_cases q : k = k0
    · subst q
      rw [if_pos rfl, hhit, decide_eq_true rfl]
      cases b <;> simp
    · rw [if_neg q, f1 k, decide_eq_false q]
      by_cases g : x.hit k = true
      · rw [g, if_pos rfl, cellOf_note hl hn]
        cases b <;> simp
      · rw [Bool.not_eq_true] at g
        rw [g, h.at_ k]
        cases b <;> simp [cellOf]
theorem TalI.take {l : List Ev} {n : Nat} {x : Ev} (h : l[n]? = some x) : l.take (n + 1) = l.take n ++ [x] := by
  rw [List.take_add_one, h]; rfl
end Go.Proofs.Ytbjmdnemeidpjaa
/- CellParts: the cell of values is that of their parts, merged. -/
namespace Go.Proofs.Ytbjmdnemeidpjaa
set_option linter.unusedSimpArgs false
set_option linter.unusedVariables false
open Go.RowKit
set_option maxRecDepth 100000
theorem flat_cD (c : Cel) : flatD (cD c) = true := by
  show flatD (.agg (iD c.n :: iD (hiZ c.s) :: uZ (loZ c.s) :: iD c.mn :: iD c.mx :: iD c.ce :: iD c.po :: hR c.h)) = true
  simp only [flatD, flatDs, flat_hR, Bool.and_true]
theorem flat_cA (c : Cel) : flatA (.d (cD c)) = true := by rw [flatA]; exact flat_cD c
end Go.Proofs.Ytbjmdnemeidpjaa
/- ShelfTallies, its law. -/
namespace Go.Proofs.Ytbjmdnemeidpjaa
set_option linter.unusedSimpArgs false
set_option linter.unusedVariables false
open Go.RowKit Go.Sort
set_option maxRecDepth 100000
/-- An event as it is handed in: first, many, at, series, value. -/
abbrev EvP := Int × Int × Int × Int × Int
abbrev bD8 (z : Int) : D := .v (.int .u8 z)
abbrev evR (e : EvP) : List D := [iD e.1, bD8 e.2.1, bD8 e.2.2.1, bD8 e.2.2.2.1, iD e.2.2.2.2]
def names4 : List ByteArray := [⟨#[97]⟩, ⟨#[98]⟩, ⟨#[99]⟩, ⟨#[100]⟩]
def nmR (s : ByteArray) : List D := [.v (.string s)]
structure EvB (e : EvP) : Prop where
  f : in64 e.1
  m : 0 ≤ e.2.1 ∧ e.2.1 < 256
  a : 0 ≤ e.2.2.1 ∧ e.2.2.1 < 256
  s : 0 ≤ e.2.2.2.1 ∧ e.2.2.2.1 < 256
  v : in64 e.2.2.2.2
theorem ty_u8 {m : Nat} {t : TypeId} {ds : List D} (h : Ty Try.prog (m + 1) t ds) (hu : Try.prog.underlying t = some (.int .u8)) : ∃ z, ds = [bD8 z] ∧ 0 ≤ z ∧ z < 256 := by
  have h : TyB (Ty Try.prog m) Try.prog t ds := h
  unfold TyB at h
  rw [hu] at h
  obtain ⟨z, rfl, hz⟩ := h
  simp only [Lit.wf, Bool.and_eq_true, decide_eq_true_eq] at hz
  have hz : 0 ≤ z ∧ z ≤ 255 := hz
  exact ⟨z, rfl, hz.1, by omega⟩
theorem ty_evs {x : D} (h : TyV Try.prog 52 x) : ∃ l : List EvP, x = .sl 5 (l.map evR) ∧ (∀ f ∈ l, EvB f) := by
  obtain ⟨rows, rfl, h2, h3⟩ := ty_slice h Try.underlying52
  obtain ⟨l, rfl, hl⟩ := rows_map (f := evR) (p := EvB) fun r hr => by
    have h : TyB (Ty Try.prog 7) Try.prog 58 r := h2 r hr
    unfold TyB at h
    rw [Try.underlying58] at h
    obtain ⟨dss, e0, h⟩ := h
    obtain ⟨d1, r1, e1, h1, h⟩ := h
    obtain ⟨d2, r2, e2, h2, h⟩ := h
    obtain ⟨d3, r3, e3, h3, h⟩ := h
    obtain ⟨d4, r4, e4, h4, h⟩ := h
    obtain ⟨d5, r5, e5, h5, h⟩ := h
    obtain rfl : r5 = [] := h
    subst e5 e4 e3 e2 e1 e0
    obtain ⟨f, rfl, g1⟩ := ty_long1 h1 Try.underlying2
    obtain ⟨m, rfl, g2⟩ := ty_u8 h2 Try.underlying5
    obtain ⟨a, rfl, g3⟩ := ty_u8 h3 Try.underlying5
    obtain ⟨s, rfl, g4⟩ := ty_u8 h4 Try.underlying5
    obtain ⟨v, rfl, g5⟩ := ty_long1 h5 Try.underlying2
    exact ⟨(f, m, a, s, v), rfl, g1, g2, g3, g4, g5⟩
  refine ⟨l, ?_, hl⟩
  rw [show Try.prog.cellsOf 58 = 5 by kernel_rfl]
def evOf (p : EvP) : Ev := ⟨p.1, (p.2.1 % 8).toNat, (p.2.2.1 % (p.2.1 % 8 + 1)).toNat, (names4[(p.2.2.2.1 % 4).toNat]?).getD ⟨#[]⟩, p.2.2.2.2⟩
def lim (p : EvP) : Prop := -1099511627776 ≤ p.1 ∧ p.1 ≤ 1099511627776
theorem evOf_ok {p : EvP} (h : EvB p) (hl : lim p) : (evOf p).OK where
  lo := hl.1
  hi := hl.2
  n := by have := h.m; show (p.2.1 % 8).toNat ≤ 7; omega
  at_ := by
    have := h.m
    have h1 := Int.emod_lt_of_pos p.2.2.1 (show 0 < p.2.1 % 8 + 1 by omega)
    show (p.2.2.1 % (p.2.1 % 8 + 1)).toNat ≤ (p.2.1 % 8).toNat
    omega
  v := h.v
theorem ev_idx {e : EvP} (hb : EvB e) : ∃ k : Nat, e.2.2.2.1.tmod 4 = (k : Int) ∧ k < (names4.map nmR).length ∧ (names4.map nmR)[k]? = some (nmR (evOf e).name) := by
  obtain ⟨k, hk⟩ : ∃ k : Nat, k = (e.2.2.2.1 % 4).toNat := ⟨_, rfl⟩
  have hs := hb.s
  have hk2 : k < 4 := by omega
  refine ⟨k, by rw [Int.tmod_eq_emod_of_nonneg hs.1]; omega, hk2, ?_⟩
  show _ = some (nmR ((names4[(e.2.2.2.1 % 4).toNat]?).getD ⟨#[]⟩))
  rw [← hk]
  match k, hk2 with
  | 0, _ => rfl
  | 1, _ => rfl
  | 2, _ => rfl
  | 3, _ => rfl
theorem ev_n {e : EvP} (hb : EvB e) : IntKind.i64.wrap (e.2.1.tmod 8) = ((evOf e).n : Int) := by
  have := hb.m
  rw [Int.tmod_eq_emod_of_nonneg this.1, wi (by omega) (by omega)]
  show _ = (((e.2.1 % 8).toNat : Nat) : Int)
  omega
theorem ev_last {e : EvP} (hb : EvB e) (hok : (evOf e).OK) : IntKind.i64.wrap (e.1 + IntKind.i64.wrap (e.2.1.tmod 8)) = (evOf e).first + (evOf e).n := by
  have := hok.n
  have h1 := hok.lo
  have h2 := hok.hi
  rw [ev_n hb]
  show IntKind.i64.wrap ((evOf e).first + (evOf e).n) = _
  rw [wi (by omega) (by omega)]
theorem ev_n1 {e : EvP} (hb : EvB e) (hok : (evOf e).OK) : IntKind.i64.wrap (IntKind.i64.wrap (e.2.1.tmod 8) + 1) = ((evOf e).n : Int) + 1 := by
  have := hok.n
  rw [ev_n hb, wi (by omega) (by omega)]
theorem ev_at {e : EvP} (hb : EvB e) (hok : (evOf e).OK) : IntKind.i64.wrap (e.1 + (IntKind.i64.wrap e.2.2.1).tmod (IntKind.i64.wrap (IntKind.i64.wrap (e.2.1.tmod 8) + 1))) = (evOf e).first + (evOf e).at_ := by
  have h1 := hok.n
  have h2 := hok.at_
  have h3 := hok.lo
  have h4 := hok.hi
  have h5 := hb.a
  have h6 := hb.m
  have e1 : IntKind.i64.wrap e.2.2.1 = e.2.2.1 := wi (by omega) (by omega)
  have e2 : e.2.2.1.tmod (((evOf e).n : Int) + 1) = ((evOf e).at_ : Int) := by
    rw [Int.tmod_eq_emod_of_nonneg h5.1]
    show e.2.2.1 % ((((e.2.1 % 8).toNat : Nat) : Int) + 1) = (((e.2.2.1 % (e.2.1 % 8 + 1)).toNat : Nat) : Int)
    have h7 := Int.emod_nonneg e.2.2.1 (show e.2.1 % 8 + 1 ≠ 0 by omega)
    rw [show (((e.2.1 % 8).toNat : Nat) : Int) = e.2.1 % 8 by omega]
    omega
  rw [ev_n1 hb hok, e1, e2]
  show IntKind.i64.wrap ((evOf e).first + ((evOf e).at_ : Int)) = _
  rw [wi (by omega) (by omega)]
theorem hits_take {l : List EvP} {j : Nat} {e : EvP} (h : l[j]? = some e) (k : KeyW) (b : Bool) : hitsN ((l.take (j + 1)).map evOf) k b = hitsN ((l.take j).map evOf) k b + if (evOf e).hit k && (decide ((evOf e).n = 0) == b) then 1 else 0 := by
  rw [List.take_add_one, h, List.map_append]
  exact hitsN_snoc _ _ _ _
theorem vals_take {l : List EvP} {j : Nat} {e : EvP} (h : l[j]? = some e) (k : KeyW) : valsN ((l.take (j + 1)).map evOf) k = valsN ((l.take j).map evOf) k ++ if (evOf e).in_ k then [(evOf e).v] else [] := by
  rw [List.take_add_one, h, List.map_append]
  exact valsN_snoc _ _ _
theorem hit_no1 {e : Ev} {k : KeyW} (h : (!decide (e.name = k.2)) = true) : e.hit k = false := by
  unfold Ev.hit; simp at h; simp [h]
theorem hit_no2 {e : Ev} {k : KeyW} (h : decide (k.1 < e.first) = true) : e.hit k = false := by
  unfold Ev.hit; simp at h; exact decide_eq_false fun q => by omega
theorem hit_no3 {e : Ev} {k : KeyW} {z : Int} (hz : z = e.first + e.n) (h : decide (k.1 > z) = true) : e.hit k = false := by
  unfold Ev.hit; simp at h; exact decide_eq_false fun q => by omega
theorem hit_yes {e : Ev} {k : KeyW} {z : Int} (hz : z = e.first + e.n) (h1 : (!decide (e.name = k.2)) = false) (h2 : decide (k.1 < e.first) = false) (h3 : decide (k.1 > z) = false) : e.hit k = true := by
  unfold Ev.hit
  simp at h1 h2 h3
  exact decide_eq_true ⟨h1, h2, by omega⟩
theorem in_of {e : Ev} {k : KeyW} {z : Int} {b : Bool} (hh : e.hit k = true) (hz : z = e.first + e.at_) (h : (k.1 == z) = b) : e.in_ k = b := by
  unfold Ev.in_
  rw [hh, Bool.true_and, ← h, hz, ← bneB]
theorem n0_of {e : Ev} {z : Int} {b : Bool} (hz : z = e.n) (h : (z == 0) = b) : decide (e.n = 0) = b := by
  rw [← h, hz, bneB, decide_eq_decide]
  omega
set_option maxHeartbeats 16000000 in
theorem tallies_sat (l : List EvP) (hl : ∀ f ∈ l, EvB f) : Sat Try.prog 7 [.d (.sl 5 (l.map evR))] [] (bA true) [] := by
  have hm : (l.map evR).length = l.length := List.length_map _
  have w0 := shNew_ok 1024 (by decide) (by decide)
  refine sat_of_vc (T := tiOf Try.prog) (E := E0) Try.func7 rfl rfl hE0 hm0 rfl ?_
  conv => whnf
  iterate 4
    repeat (any_goals (first
      | exact True.intro
      | (refine And.intro (fun _ => ?_) tf; conv => whnf)
      | (refine And.intro ft (fun _ => ?_); conv => whnf)
      | (refine And.intro (by kernel_rfl) ?_; conv => whnf)
      | (refine And.intro (by decide) ?_; conv => whnf)
      | (refine And.intro (fun _ => ?_) (fun h => absurd h (by decide)); conv => whnf)
      | (refine And.intro (fun h => absurd h (by decide)) (fun _ => ?_); conv => whnf)
      | (refine And.intro (fun _ => ?_) (fun _ => ?_) <;> conv => whnf)
      | (refine ⟨_, _, alive22.pu rfl rfl, ?_⟩; conv => whnf)
      | (refine ⟨_, _, w0.nw rfl, ?_⟩; conv => whnf)
      | (refine ⟨_, _, eqP (by kernel_rfl), ?_⟩; conv => whnf)))
    all_goals try (refine Or.inl ?_; conv => whnf)
  all_goals try (exfalso; simp only [decide_eq_true_eq, decide_eq_false_iff_not, Bool.not_eq_true', Bool.not_eq_false', Bool.not_eq_true, Bool.not_eq_false, beq_iff_eq, bne_iff_ne, beq_eq_false_iff_ne, bne_eq_false_iff_eq, ne_eq, Decidable.not_not] at *; first | omega | contradiction | (simp_all; done) | (simp_all; omega))
  · all_goals refine ⟨[], ?_⟩
    repeat (any_goals (first | exact True.intro | exact rfl | with_reducible_and_instances rfl | exact (by kernel_rfl) | refine And.intro ?_ ?_))
    all_goals conv => whnf
  have hlen : l.length ≤ 60 := by have h : decide (((l.map evR).length : Int) > 60) = false := ‹_›; simp at h; omega
  refine ⟨Nat × Sh × Nat, fun y => y.1 ≤ l.length ∧ (∀ p ∈ l.take y.1, lim p) ∧ TalI ((l.take y.1).map evOf) y.2.1 y.2.2, fun y => ([(6, iA y.1), (5, .ptr 5 0), (3, .ptr 3 0), (2, .ptr 1 0), (1, .ptr 0 0)], [.cells [.d (.sl 5 (l.map evR))], .cells [bA false], shO y.2.1 y.2.2, .cells [iA 1024, .mp 2], .sl 1 (names4.map nmR), .cells [.own 4]]), fun y => l.length - y.1, ⟨(0, [], 0), ⟨Nat.zero_le _, fun p h => by simp at h, TalI.nil⟩, ?_⟩, ?_⟩
  · all_goals refine ⟨[], ?_⟩
    repeat (any_goals (first | exact True.intro | exact rfl | with_reducible_and_instances rfl | exact (by kernel_rfl) | refine And.intro ?_ ?_))
    all_goals conv => whnf
  rintro ⟨i, m, c⟩ ⟨hi, hL, hT⟩
  replace hi : i ≤ l.length := hi
  replace hL : ∀ p ∈ l.take i, lim p := hL
  replace hT : TalI ((l.take i).map evOf) m c := hT
  by_cases hlt : i < l.length
  · have hx : l[i]? = some l[i] := List.getElem?_eq_getElem hlt
    have hb := hl _ (List.getElem_mem hlt)
    generalize l[i] = e at hx hb
    have hts : l.take (i + 1) = l.take i ++ [e] := by rw [List.take_add_one, hx]; rfl
    have hir : i < (l.map evR).length := by omega
    have hg := map_get (f := evR) hx
    obtain ⟨k, hk1, hk2, hrow⟩ := ev_idx hb
    conv => whnf
    by_cases hlm : lim e
    case neg =>
      unfold lim at hlm
      iterate 6
        repeat (any_goals (first
          | exact True.intro
          | (refine ⟨i, _, rfl, hg, ?_⟩; conv => whnf)
          | (refine And.intro (fun _ => ?_) tf; conv => whnf)
          | (refine And.intro ft (fun _ => ?_); conv => whnf)
          | (refine And.intro (by kernel_rfl) ?_; conv => whnf)
          | (refine And.intro (by decide) ?_; conv => whnf)
          | (refine And.intro (fun _ => ?_) (fun h => absurd h (by decide)); conv => whnf)
          | (refine And.intro (fun h => absurd h (by decide)) (fun _ => ?_); conv => whnf)
          | (refine And.intro (fun _ => ?_) (fun _ => ?_) <;> conv => whnf)))
        all_goals try (refine Or.inl ?_; conv => whnf)
      all_goals try exact (hlm ⟨by have h := ‹decide (e.fst < -1099511627776) = false›; simpa using h, by have h := ‹decide (e.fst > 1099511627776) = false›; simpa using h⟩).elim
      all_goals try (exfalso; simp only [decide_eq_true_eq, decide_eq_false_iff_not, Bool.not_eq_true', Bool.not_eq_false', Bool.not_eq_true, Bool.not_eq_false, beq_iff_eq, bne_iff_ne, beq_eq_false_iff_ne, bne_eq_false_iff_eq, ne_eq, Decidable.not_not] at *; first | omega | contradiction | (simp_all; done) | (simp_all; omega))
      all_goals refine ⟨[], ?_⟩
      repeat (any_goals (first | exact True.intro | exact rfl | with_reducible_and_instances rfl | exact (by kernel_rfl) | refine And.intro ?_ ?_))
      all_goals conv => whnf
    have hok := evOf_ok hb hlm
    obtain ⟨m1, c1, m2, c2, q1, q2, q3, q4, q5⟩ := hT.step (x := evOf e) (fun x hx => by obtain ⟨p, hp, rfl⟩ := List.mem_map.1 hx; exact evOf_ok (hl p (List.mem_of_mem_take hp)) (hL p hp)) (by rw [List.length_map, List.length_take]; omega) hok
    have hw2 := ev_last hb hok
    have n1 := shNote_sat 1024 m c e.1 (IntKind.i64.wrap (e.1 + IntKind.i64.wrap (e.2.1.tmod 8))) (evOf e).name hT.i.ok hb.f (by rw [hw2]; have := hok.n; have := hok.lo; have := hok.hi; unfold in64; omega) (by decide) (by have := hT.len; rw [List.length_map, List.length_take] at this; omega)
    rw [hw2] at n1
    rw [show e.1 = (evOf e).first from rfl, q1, ← hw2] at n1
    have hw3 := ev_n1 hb hok
    have hne : IntKind.i64.wrap (IntKind.i64.wrap (e.2.1.tmod 8) + 1) ≠ 0 := by rw [hw3]; omega
    have hw4 := ev_at hb hok
    have n2 := shCount_sat 1024 m1 c1 (IntKind.i64.wrap (e.1 + (IntKind.i64.wrap e.2.2.1).tmod (IntKind.i64.wrap (IntKind.i64.wrap (e.2.1.tmod 8) + 1))), (evOf e).name) e.2.2.2.2 q2.ok hb.v
    have q4 : shCount m1 c1 ((evOf e).first + (evOf e).at_, (evOf e).name) e.2.2.2.2 = ((m2, c2), 0) := q4
    rw [← hw4] at q4
    rw [q4] at n2
    iterate 9
      repeat (any_goals (first
        | exact True.intro
        | (refine ⟨i, _, rfl, hg, ?_⟩; conv => whnf)
        | (refine ⟨k, hk1, hk2, ?_⟩; conv => whnf)
        | (refine ⟨_, hrow, ?_⟩; conv => whnf)
        | (refine And.intro hne ?_; conv => whnf)
        | (refine And.intro (fun _ => ?_) tf; conv => whnf)
        | (refine And.intro ft (fun _ => ?_); conv => whnf)
        | (refine And.intro (by kernel_rfl) ?_; conv => whnf)
        | (refine And.intro (by decide) ?_; conv => whnf)
        | (refine And.intro (fun _ => ?_) (fun h => absurd h (by decide)); conv => whnf)
        | (refine And.intro (fun h => absurd h (by decide)) (fun _ => ?_); conv => whnf)
        | (refine And.intro (fun _ => ?_) (fun _ => ?_) <;> conv => whnf)
        | (refine ⟨_, _, n1.at2 3 2 rfl rfl rfl rfl rfl, ?_⟩; conv => whnf)
        | (refine ⟨_, _, n2.at2 3 2 rfl rfl rfl rfl rfl, ?_⟩; conv => whnf)))
      all_goals try (refine Or.inl ?_; conv => whnf)
    all_goals try (exfalso; simp only [decide_eq_true_eq, decide_eq_false_iff_not, Bool.not_eq_true', Bool.not_eq_false', Bool.not_eq_true, Bool.not_eq_false, beq_iff_eq, bne_iff_ne, beq_eq_false_iff_ne, bne_eq_false_iff_eq, ne_eq, Decidable.not_not] at *; first | omega | contradiction | (simp_all; done) | (simp_all; omega))
    · all_goals refine ⟨[], ?_⟩
      repeat (any_goals (first | exact True.intro | exact rfl | with_reducible_and_instances rfl | exact (by kernel_rfl) | refine And.intro ?_ ?_))
      all_goals conv => whnf
    · refine ⟨(i + 1, m2, c2), ⟨hlt, fun p hp => ?_, ?_⟩, show l.length - (i + 1) < l.length - i by omega, ?_⟩
      · rw [hts] at hp
        rcases List.mem_append.1 hp with q | q
        · exact hL p q
        · rw [List.mem_singleton.1 q]; exact hlm
      · show TalI ((l.take (i + 1)).map evOf) m2 c2
        rw [hts, List.map_append]
        exact q5
      all_goals refine ⟨[], ?_⟩
      repeat (any_goals (first | exact True.intro | exact rfl | with_reducible_and_instances rfl | exact (by kernel_rfl) | refine And.intro ?_ ?_))
      all_goals conv => whnf
      exact wk1 (by omega)
    · all_goals refine ⟨[], ?_⟩
      repeat (any_goals (first | exact True.intro | exact rfl | with_reducible_and_instances rfl | exact (by kernel_rfl) | refine And.intro ?_ ?_))
      all_goals conv => whnf
  have hie : i = l.length := by omega
  subst hie
  rw [List.take_length] at hL hT
  have hok : ∀ x ∈ l.map evOf, x.OK := fun x hx => by obtain ⟨p, hp, rfl⟩ := List.mem_map.1 hx; exact evOf_ok (hl p hp) (hL p hp)
  have hln := hT.len
  rw [List.length_map] at hln
  have al := shAll_sat 1024 m c
  conv => whnf
  iterate 3
    repeat (any_goals (first
      | exact True.intro
      | (refine And.intro (fun _ => ?_) tf; conv => whnf)
      | (refine And.intro ft (fun _ => ?_); conv => whnf)
      | (refine And.intro (by kernel_rfl) ?_; conv => whnf)
      | (refine And.intro (by decide) ?_; conv => whnf)
      | (refine And.intro (fun _ => ?_) (fun h => absurd h (by decide)); conv => whnf)
      | (refine And.intro (fun h => absurd h (by decide)) (fun _ => ?_); conv => whnf)
      | (refine And.intro (fun _ => ?_) (fun _ => ?_) <;> conv => whnf)
      | (refine ⟨_, _, al.at2 3 2 rfl rfl rfl rfl rfl, ?_⟩; conv => whnf)))
    all_goals try (refine Or.inl ?_; conv => whnf)
  all_goals try (exfalso; simp only [decide_eq_true_eq, decide_eq_false_iff_not, Bool.not_eq_true', Bool.not_eq_false', Bool.not_eq_true, Bool.not_eq_false, beq_iff_eq, bne_iff_ne, beq_eq_false_iff_ne, bne_eq_false_iff_eq, ne_eq, Decidable.not_not] at *; first | omega | contradiction | (simp_all; done) | (simp_all; omega))
  refine ⟨Nat, Nat, fun y z => z = y ∧ y ≤ m.length, fun z => [.cells [.d (.sl 5 (l.map evR))], .cells [bA false], shO m c, .cells [iA 1024, .mp 2], .sl 1 (names4.map nmR), .cells [.own 4], .cells [.ptr 3 0]], [(92, .fn (.func 58) [] [.ptr 6 0]), (5, .ptr 5 0), (3, .ptr 3 0), (2, .ptr 1 0), (1, .ptr 0 0)], 7, _, _, _, ([.dead, .dead, shO m c, .cells [iA 1024, .mp 2], .dead, .dead, .cells [.ptr 3 0]], none), 0, _, _, ⟨0, ⟨rfl, Nat.zero_le _⟩, ?_⟩, rfl, by kernel_rfl, allIt (i := 6) (j := 3) (k := 2) ⟨hT.i.fr.nd, hT.i.fr.lt⟩ (by omega) rfl rfl rfl, ?_, ?_, ?_, ?_⟩
  · all_goals refine ⟨[], ?_⟩
    repeat (any_goals (first | exact True.intro | exact rfl | with_reducible_and_instances rfl | exact (by kernel_rfl) | refine And.intro ?_ ?_))
    all_goals conv => whnf
  · rintro y x y' ⟨e, _, rfl⟩; rfl
  · rintro y z _; exact ⟨⟨rfl, rfl, rfl, trivial⟩, (show 7 ≤ 7 by decide)⟩
  · rintro y z x y' ⟨rfl, hy⟩ ⟨k, ⟨hk, rfl⟩, rfl⟩
    have hz : z < m.length := by have := (List.getElem?_eq_some_iff.1 hk).1; rwa [idsL_len] at this
    have hkm : k ∈ m.map (·.1) := by
      have h1 := List.mem_of_getElem? hk
      unfold idsL at h1
      exact (sorted_perm cmpK _).mem_iff.1 h1
    have hfk : (findX m k).isSome = true := hasX_iff.2 hkm
    have hat := hT.at_ k
    have hnz : ¬ (hitsN (l.map evOf) k true + hitsN (l.map evOf) k false = 0) := fun q => by rw [if_pos q] at hat; rw [hat] at hfk; cases hfk
    rw [if_neg hnz] at hat
    have hver : verL m k = cellOf (l.map evOf) k := by unfold verL; rw [hat]; rfl
    have hxo : CelOK (cellOf (l.map evOf) k) := by have := (hT.i.ok.at_ k).1; rwa [hat] at this
    have hxl := hxo.hl
    rw [hver]
    clear hver hat hfk
    conv => whnf
    iterate 3
      repeat (any_goals (first
        | exact True.intro
        | (refine ⟨_, drop_id, ?_⟩; conv => whnf)
        | (refine ⟨_, _, at_n, ?_⟩; conv => whnf)
        | (refine ⟨_, _, at_hi, ?_⟩; conv => whnf)
        | (refine ⟨_, _, at_lo, ?_⟩; conv => whnf)
        | (refine ⟨_, _, at_mn, ?_⟩; conv => whnf)
        | (refine ⟨_, _, at_mx, ?_⟩; conv => whnf)
        | (refine ⟨_, _, at_ce, ?_⟩; conv => whnf)
        | (refine ⟨_, _, at_po, ?_⟩; conv => whnf)
        | (refine ⟨_, whole_z sC, clenz sC, ?_⟩; conv => whnf)
        | (refine ⟨_, setzC, ?_⟩; conv => whnf)
        | (refine And.intro (clenz sC) ?_; conv => whnf)
        | (refine And.intro fitzC ?_; conv => whnf)
        | (refine ⟨_, whole_cell sC hxl, clen sC hxl, ?_⟩; conv => whnf)
        | (refine And.intro (clen sC hxl) ?_; conv => whnf)
        | (refine And.intro (fitC hxl) ?_; conv => whnf)
        | (refine ⟨_, setC hxl, ?_⟩; conv => whnf)
        | (refine ⟨_, whole_z sF, clenz sF, ?_⟩; conv => whnf)
        | (refine ⟨_, setzF, ?_⟩; conv => whnf)
        | (refine And.intro (clenz sF) ?_; conv => whnf)
        | (refine And.intro fitzF ?_; conv => whnf)
        | (refine ⟨_, whole_cell sF hxl, clen sF hxl, ?_⟩; conv => whnf)
        | (refine And.intro (clen sF hxl) ?_; conv => whnf)
        | (refine And.intro (fitF hxl) ?_; conv => whnf)
        | (refine ⟨_, setF hxl, ?_⟩; conv => whnf)
        | (refine And.intro (fit1 hxl (by decide)) ?_; conv => whnf)
        | (refine And.intro (fit1 rfl (by decide)) ?_; conv => whnf)
        | (refine ⟨_, sum_cell s25, rfl, ?_⟩; conv => whnf)
        | (refine ⟨_, set_n _, ?_⟩; conv => whnf)
        | (refine ⟨_, set_mn _, ?_⟩; conv => whnf)
        | (refine ⟨_, set_mx _, ?_⟩; conv => whnf)
        | (refine ⟨_, set_ce _, ?_⟩; conv => whnf)
        | (refine ⟨_, set_po _, ?_⟩; conv => whnf)
        | (refine ⟨_, set_s _, ?_⟩; conv => whnf)
        | (refine ⟨_, set_hi _, ?_⟩; conv => whnf)
        | (refine ⟨_, set_lo _, ?_⟩; conv => whnf)
        | (refine And.intro (fun _ => ?_) tf; conv => whnf)
        | (refine And.intro ft (fun _ => ?_); conv => whnf)
        | (refine And.intro (by kernel_rfl) ?_; conv => whnf)
        | (refine And.intro (by decide) ?_; conv => whnf)
        | (refine And.intro (fun _ => ?_) (fun h => absurd h (by decide)); conv => whnf)
        | (refine And.intro (fun h => absurd h (by decide)) (fun _ => ?_); conv => whnf)
        | (refine And.intro (fun _ => ?_) (fun _ => ?_) <;> conv => whnf)))
      all_goals try (refine Or.inl ?_; conv => whnf)
    refine ⟨Nat, fun j => j ≤ l.length, fun j => ([(15, iA j), (13, iA (hitsN ((l.take j).map evOf) k true)), (14, iA (hitsN ((l.take j).map evOf) k false)), (12, .own 9), (10, .ptr 7 0), (11, .ptr 8 0), (5, .ptr 5 0), (3, .ptr 3 0), (2, .ptr 1 0), (1, .ptr 0 0)], [.cells [.d (.sl 5 (l.map evR))], .cells [bA false], shO m c, .cells [iA 1024, .mp 2], .sl 1 (names4.map nmR), .cells [.own 4], .cells [.ptr 3 0], .cells [iA k.1, .d (.v (.string k.2))], .row (cR (cellOf (l.map evOf) k)), .sl 1 ((valsN ((l.take j).map evOf) k).map lR)]), fun j => l.length - j, ⟨0, Nat.zero_le _, ?_⟩, ?_⟩
    · all_goals refine ⟨[], ?_⟩
      repeat (any_goals (first | exact True.intro | exact rfl | with_reducible_and_instances rfl | exact (by kernel_rfl) | refine And.intro ?_ ?_))
      all_goals conv => whnf
    intro j hj
    replace hj : j ≤ l.length := hj
    conv => whnf
    by_cases hjl : j < l.length
    · have hx : l[j]? = some l[j] := List.getElem?_eq_getElem hjl
      have hb := hl _ (List.getElem_mem hjl)
      have hlm := hL _ (List.getElem_mem hjl)
      generalize l[j] = e at hx hb hlm
      have hok := evOf_ok hb hlm
      have hg := map_get (f := evR) hx
      obtain ⟨q, hk1, hk2, hrow⟩ := ev_idx hb
      have h1 := hits_take hx k true
      have h0 := hits_take hx k false
      have hv := vals_take hx k
      have hw1 := ev_n hb
      have hw2 := ev_last hb hok
      have hw3 := ev_n1 hb hok
      have hw4 := ev_at hb hok
      have hne : IntKind.i64.wrap (IntKind.i64.wrap (e.2.1.tmod 8) + 1) ≠ 0 := by rw [hw3]; omega
      have hvl : ((valsN ((l.take j).map evOf) k).map lR).length ≤ 60 := by rw [List.length_map]; have := valsN_len ((l.take j).map evOf) k; rw [List.length_map, List.length_take] at this; omega
      have hT1 : hitsN ((l.take j).map evOf) k true ≤ 60 := by have := hitsN_len ((l.take j).map evOf) k true; rw [List.length_map, List.length_take] at this; omega
      have hT0 : hitsN ((l.take j).map evOf) k false ≤ 60 := by have := hitsN_len ((l.take j).map evOf) k false; rw [List.length_map, List.length_take] at this; omega
      iterate 7
        repeat (any_goals (first
          | exact True.intro
          | (refine ⟨j, _, rfl, hg, ?_⟩; conv => whnf)
          | (refine ⟨q, hk1, hk2, ?_⟩; conv => whnf)
          | (refine ⟨_, hrow, ?_⟩; conv => whnf)
          | (refine And.intro hne ?_; conv => whnf)
          | (refine And.intro (fun _ => ?_) tf; conv => whnf)
          | (refine And.intro ft (fun _ => ?_); conv => whnf)
          | (refine And.intro (by kernel_rfl) ?_; conv => whnf)
          | (refine And.intro (by decide) ?_; conv => whnf)
          | (refine And.intro (fun _ => ?_) (fun h => absurd h (by decide)); conv => whnf)
          | (refine And.intro (fun h => absurd h (by decide)) (fun _ => ?_); conv => whnf)
          | (refine And.intro (fun _ => ?_) (fun _ => ?_) <;> conv => whnf)
          | (refine ⟨_, _, neT, ?_⟩; conv => whnf)
          | (refine ⟨_, _, ap 1 8 (by kernel_rfl) rfl rfl (by simp; simp at hvl; omega), ?_⟩; conv => whnf)))
        all_goals try (refine Or.inl ?_; conv => whnf)
      · have hh : (evOf e).hit k = false := hit_no3 hw2 ‹_›
        have hi : (evOf e).in_ k = false := by unfold Ev.in_; rw [hh]; rfl
        rw [hh] at h1 h0
        rw [hi] at hv
        simp only [Bool.false_and, Bool.false_eq_true, if_false, Nat.add_zero, List.append_nil] at h1 h0 hv
        refine ⟨j + 1, hjl, show l.length - (j + 1) < l.length - j by omega, ?_⟩
        all_goals refine ⟨[], ?_⟩
        repeat (any_goals (first | exact True.intro | exact rfl | with_reducible_and_instances rfl | exact (by kernel_rfl) | refine And.intro ?_ ?_))
        all_goals conv => whnf
        all_goals first | exact wk1 (by omega) | exact congrArg (fun z : Nat => iA (z : Int)) h1.symm | exact congrArg (fun z : Nat => iA (z : Int)) h0.symm | exact (wk1 (by omega)).trans (congrArg (fun z : Nat => iA (z : Int)) h1.symm) | exact (wk1 (by omega)).trans (congrArg (fun z : Nat => iA (z : Int)) h0.symm) | (rw [hv, List.map_append]; rfl) | (rw [hv])
      · have hh : (evOf e).hit k = true := hit_yes hw2 ‹(!decide ((evOf e).name = k.2)) = false› ‹decide (k.1 < e.1) = false› ‹decide (k.1 > IntKind.i64.wrap (e.1 + IntKind.i64.wrap (e.2.1.tmod 8))) = false›
        have hn : decide ((evOf e).n = 0) = true := n0_of hw1 ‹_›
        have hi : (evOf e).in_ k = true := in_of hh hw4 ‹_›
        rw [hh, hn] at h1 h0
        rw [hi] at hv
        simp only [Bool.true_and, beq_self_eq_true, beq_true, beq_false, Bool.not_true, Bool.not_false, Bool.false_eq_true, if_false, if_true, Nat.add_zero, List.append_nil] at h1 h0 hv
        refine ⟨j + 1, hjl, show l.length - (j + 1) < l.length - j by omega, ?_⟩
        all_goals refine ⟨[(9, 12)], ?_⟩
        repeat (any_goals (first | exact True.intro | exact rfl | with_reducible_and_instances rfl | exact (by kernel_rfl) | refine And.intro ?_ ?_))
        all_goals conv => whnf
        all_goals first | exact wk1 (by omega) | exact congrArg (fun z : Nat => iA (z : Int)) h1.symm | exact congrArg (fun z : Nat => iA (z : Int)) h0.symm | exact (wk1 (by omega)).trans (congrArg (fun z : Nat => iA (z : Int)) h1.symm) | exact (wk1 (by omega)).trans (congrArg (fun z : Nat => iA (z : Int)) h0.symm) | (rw [hv, List.map_append]; rfl) | (rw [hv])
      · have hh : (evOf e).hit k = true := hit_yes hw2 ‹(!decide ((evOf e).name = k.2)) = false› ‹decide (k.1 < e.1) = false› ‹decide (k.1 > IntKind.i64.wrap (e.1 + IntKind.i64.wrap (e.2.1.tmod 8))) = false›
        have hn : decide ((evOf e).n = 0) = true := n0_of hw1 ‹_›
        have hi : (evOf e).in_ k = false := in_of hh hw4 ‹_›
        rw [hh, hn] at h1 h0
        rw [hi] at hv
        simp only [Bool.true_and, beq_self_eq_true, beq_true, beq_false, Bool.not_true, Bool.not_false, Bool.false_eq_true, if_false, if_true, Nat.add_zero, List.append_nil] at h1 h0 hv
        refine ⟨j + 1, hjl, show l.length - (j + 1) < l.length - j by omega, ?_⟩
        all_goals refine ⟨[], ?_⟩
        repeat (any_goals (first | exact True.intro | exact rfl | with_reducible_and_instances rfl | exact (by kernel_rfl) | refine And.intro ?_ ?_))
        all_goals conv => whnf
        all_goals first | exact wk1 (by omega) | exact congrArg (fun z : Nat => iA (z : Int)) h1.symm | exact congrArg (fun z : Nat => iA (z : Int)) h0.symm | exact (wk1 (by omega)).trans (congrArg (fun z : Nat => iA (z : Int)) h1.symm) | exact (wk1 (by omega)).trans (congrArg (fun z : Nat => iA (z : Int)) h0.symm) | (rw [hv, List.map_append]; rfl) | (rw [hv])
      · have hh : (evOf e).hit k = true := hit_yes hw2 ‹(!decide ((evOf e).name = k.2)) = false› ‹decide (k.1 < e.1) = false› ‹decide (k.1 > IntKind.i64.wrap (e.1 + IntKind.i64.wrap (e.2.1.tmod 8))) = false›
        have hn : decide ((evOf e).n = 0) = false := n0_of hw1 ‹_›
        have hi : (evOf e).in_ k = true := in_of hh hw4 ‹_›
        rw [hh, hn] at h1 h0
        rw [hi] at hv
        simp only [Bool.true_and, beq_self_eq_true, beq_true, beq_false, Bool.not_true, Bool.not_false, Bool.false_eq_true, if_false, if_true, Nat.add_zero, List.append_nil] at h1 h0 hv
        refine ⟨j + 1, hjl, show l.length - (j + 1) < l.length - j by omega, ?_⟩
        all_goals refine ⟨[(9, 12)], ?_⟩
        repeat (any_goals (first | exact True.intro | exact rfl | with_reducible_and_instances rfl | exact (by kernel_rfl) | refine And.intro ?_ ?_))
        all_goals conv => whnf
        all_goals first | exact wk1 (by omega) | exact congrArg (fun z : Nat => iA (z : Int)) h1.symm | exact congrArg (fun z : Nat => iA (z : Int)) h0.symm | exact (wk1 (by omega)).trans (congrArg (fun z : Nat => iA (z : Int)) h1.symm) | exact (wk1 (by omega)).trans (congrArg (fun z : Nat => iA (z : Int)) h0.symm) | (rw [hv, List.map_append]; rfl) | (rw [hv])
      · have hh : (evOf e).hit k = true := hit_yes hw2 ‹(!decide ((evOf e).name = k.2)) = false› ‹decide (k.1 < e.1) = false› ‹decide (k.1 > IntKind.i64.wrap (e.1 + IntKind.i64.wrap (e.2.1.tmod 8))) = false›
        have hn : decide ((evOf e).n = 0) = false := n0_of hw1 ‹_›
        have hi : (evOf e).in_ k = false := in_of hh hw4 ‹_›
        rw [hh, hn] at h1 h0
        rw [hi] at hv
        simp only [Bool.true_and, beq_self_eq_true, beq_true, beq_false, Bool.not_true, Bool.not_false, Bool.false_eq_true, if_false, if_true, Nat.add_zero, List.append_nil] at h1 h0 hv
        refine ⟨j + 1, hjl, show l.length - (j + 1) < l.length - j by omega, ?_⟩
        all_goals refine ⟨[], ?_⟩
        repeat (any_goals (first | exact True.intro | exact rfl | with_reducible_and_instances rfl | exact (by kernel_rfl) | refine And.intro ?_ ?_))
        all_goals conv => whnf
        all_goals first | exact wk1 (by omega) | exact congrArg (fun z : Nat => iA (z : Int)) h1.symm | exact congrArg (fun z : Nat => iA (z : Int)) h0.symm | exact (wk1 (by omega)).trans (congrArg (fun z : Nat => iA (z : Int)) h1.symm) | exact (wk1 (by omega)).trans (congrArg (fun z : Nat => iA (z : Int)) h0.symm) | (rw [hv, List.map_append]; rfl) | (rw [hv])
      · have hh : (evOf e).hit k = false := hit_no2 ‹_›
        have hi : (evOf e).in_ k = false := by unfold Ev.in_; rw [hh]; rfl
        rw [hh] at h1 h0
        rw [hi] at hv
        simp only [Bool.false_and, Bool.false_eq_true, if_false, Nat.add_zero, List.append_nil] at h1 h0 hv
        refine ⟨j + 1, hjl, show l.length - (j + 1) < l.length - j by omega, ?_⟩
        all_goals refine ⟨[], ?_⟩
        repeat (any_goals (first | exact True.intro | exact rfl | with_reducible_and_instances rfl | exact (by kernel_rfl) | refine And.intro ?_ ?_))
        all_goals conv => whnf
        all_goals first | exact wk1 (by omega) | exact congrArg (fun z : Nat => iA (z : Int)) h1.symm | exact congrArg (fun z : Nat => iA (z : Int)) h0.symm | exact (wk1 (by omega)).trans (congrArg (fun z : Nat => iA (z : Int)) h1.symm) | exact (wk1 (by omega)).trans (congrArg (fun z : Nat => iA (z : Int)) h0.symm) | (rw [hv, List.map_append]; rfl) | (rw [hv])
      · have hh : (evOf e).hit k = false := hit_no1 ‹_›
        have hi : (evOf e).in_ k = false := by unfold Ev.in_; rw [hh]; rfl
        rw [hh] at h1 h0
        rw [hi] at hv
        simp only [Bool.false_and, Bool.false_eq_true, if_false, Nat.add_zero, List.append_nil] at h1 h0 hv
        refine ⟨j + 1, hjl, show l.length - (j + 1) < l.length - j by omega, ?_⟩
        all_goals refine ⟨[], ?_⟩
        repeat (any_goals (first | exact True.intro | exact rfl | with_reducible_and_instances rfl | exact (by kernel_rfl) | refine And.intro ?_ ?_))
        all_goals conv => whnf
        all_goals first | exact wk1 (by omega) | exact congrArg (fun z : Nat => iA (z : Int)) h1.symm | exact congrArg (fun z : Nat => iA (z : Int)) h0.symm | exact (wk1 (by omega)).trans (congrArg (fun z : Nat => iA (z : Int)) h1.symm) | exact (wk1 (by omega)).trans (congrArg (fun z : Nat => iA (z : Int)) h0.symm) | (rw [hv, List.map_append]; rfl) | (rw [hv])
      · exact (bno (decide_eq_true (show (j : Int) < ((l.map evR).length : Nat) by omega)) ‹_›).elim
    have hje : j = l.length := by omega
    have htj : l.take j = l := List.take_of_length_le (by omega)
    have hxj : CelOK (cellOf ((l.take j).map evOf) k) := by rw [htj]; exact hxo
    have hvi : ∀ z ∈ valsN ((l.take j).map evOf) k, in64 z := by rw [htj]; exact valsN_in hok k
    have hvl : (valsN ((l.take j).map evOf) k).length ≤ 60 := by have := valsN_len ((l.take j).map evOf) k; rw [List.length_map, List.length_take] at this; omega
    have f1 := fold_sat_c (valsN ((l.take j).map evOf) k) hvi (by omega)
    have ho1 : CelOK (foldC (valsN ((l.take j).map evOf) k)) := foldC_ok hvi (by omega)
    have hl1 := ho1.hl
    have hxjl := hxj.hl
    have hTj : hitsN ((l.take j).map evOf) k true ≤ 60 := by have := hitsN_len ((l.take j).map evOf) k true; rw [List.length_map, List.length_take] at this; omega
    have hFj : hitsN ((l.take j).map evOf) k false ≤ 60 := by have := hitsN_len ((l.take j).map evOf) k false; rw [List.length_map, List.length_take] at this; omega
    have hnj : ¬ (hitsN ((l.take j).map evOf) k true + hitsN ((l.take j).map evOf) k false = 0) := by rw [htj]; exact hnz
    have hwj : (IntKind.i64.wrap ((hitsN ((l.take j).map evOf) k true : Int) + (hitsN ((l.take j).map evOf) k false : Int)) == 0) = false := by
      rw [wi (by omega) (by omega), bneB]
      exact decide_eq_false (by omega)
    have heq : (!decide (cellOf (l.map evOf) k = cellOf ((l.take j).map evOf) k)) = false := by rw [htj]; simp
    iterate 5
      repeat (any_goals (first
        | exact True.intro
        | (refine ⟨_, drop_id, ?_⟩; conv => whnf)
        | (refine ⟨_, _, at_n, ?_⟩; conv => whnf)
        | (refine ⟨_, _, at_hi, ?_⟩; conv => whnf)
        | (refine ⟨_, _, at_lo, ?_⟩; conv => whnf)
        | (refine ⟨_, _, at_mn, ?_⟩; conv => whnf)
        | (refine ⟨_, _, at_mx, ?_⟩; conv => whnf)
        | (refine ⟨_, _, at_ce, ?_⟩; conv => whnf)
        | (refine ⟨_, _, at_po, ?_⟩; conv => whnf)
        | (refine ⟨_, whole_z sC, clenz sC, ?_⟩; conv => whnf)
        | (refine ⟨_, setzC, ?_⟩; conv => whnf)
        | (refine And.intro (clenz sC) ?_; conv => whnf)
        | (refine And.intro fitzC ?_; conv => whnf)
        | (refine ⟨_, whole_cell sC hl1, clen sC hl1, ?_⟩; conv => whnf)
        | (refine And.intro (clen sC hl1) ?_; conv => whnf)
        | (refine And.intro (fitC hl1) ?_; conv => whnf)
        | (refine ⟨_, setC hl1, ?_⟩; conv => whnf)
        | (refine ⟨_, whole_cell sC hxl, clen sC hxl, ?_⟩; conv => whnf)
        | (refine And.intro (clen sC hxl) ?_; conv => whnf)
        | (refine And.intro (fitC hxl) ?_; conv => whnf)
        | (refine ⟨_, setC hxl, ?_⟩; conv => whnf)
        | (refine ⟨_, whole_cell sC hxjl, clen sC hxjl, ?_⟩; conv => whnf)
        | (refine And.intro (clen sC hxjl) ?_; conv => whnf)
        | (refine And.intro (fitC hxjl) ?_; conv => whnf)
        | (refine ⟨_, setC hxjl, ?_⟩; conv => whnf)
        | (refine ⟨_, whole_z sF, clenz sF, ?_⟩; conv => whnf)
        | (refine ⟨_, setzF, ?_⟩; conv => whnf)
        | (refine And.intro (clenz sF) ?_; conv => whnf)
        | (refine And.intro fitzF ?_; conv => whnf)
        | (refine ⟨_, whole_cell sF hl1, clen sF hl1, ?_⟩; conv => whnf)
        | (refine And.intro (clen sF hl1) ?_; conv => whnf)
        | (refine And.intro (fitF hl1) ?_; conv => whnf)
        | (refine ⟨_, setF hl1, ?_⟩; conv => whnf)
        | (refine ⟨_, whole_cell sF hxl, clen sF hxl, ?_⟩; conv => whnf)
        | (refine And.intro (clen sF hxl) ?_; conv => whnf)
        | (refine And.intro (fitF hxl) ?_; conv => whnf)
        | (refine ⟨_, setF hxl, ?_⟩; conv => whnf)
        | (refine ⟨_, whole_cell sF hxjl, clen sF hxjl, ?_⟩; conv => whnf)
        | (refine And.intro (clen sF hxjl) ?_; conv => whnf)
        | (refine And.intro (fitF hxjl) ?_; conv => whnf)
        | (refine ⟨_, setF hxjl, ?_⟩; conv => whnf)
        | (refine And.intro (fit1 hl1 (by decide)) ?_; conv => whnf)
        | (refine And.intro (fit1 hxl (by decide)) ?_; conv => whnf)
        | (refine And.intro (fit1 hxjl (by decide)) ?_; conv => whnf)
        | (refine And.intro (fit1 rfl (by decide)) ?_; conv => whnf)
        | (refine ⟨_, sum_cell s25, rfl, ?_⟩; conv => whnf)
        | (refine ⟨_, set_n _, ?_⟩; conv => whnf)
        | (refine ⟨_, set_mn _, ?_⟩; conv => whnf)
        | (refine ⟨_, set_mx _, ?_⟩; conv => whnf)
        | (refine ⟨_, set_ce _, ?_⟩; conv => whnf)
        | (refine ⟨_, set_po _, ?_⟩; conv => whnf)
        | (refine ⟨_, set_s _, ?_⟩; conv => whnf)
        | (refine ⟨_, set_hi _, ?_⟩; conv => whnf)
        | (refine ⟨_, set_lo _, ?_⟩; conv => whnf)
        | (refine And.intro (fun _ => ?_) tf; conv => whnf)
        | (refine And.intro ft (fun _ => ?_); conv => whnf)
        | (refine And.intro (by kernel_rfl) ?_; conv => whnf)
        | (refine And.intro (by decide) ?_; conv => whnf)
        | (refine And.intro (fun _ => ?_) (fun h => absurd h (by decide)); conv => whnf)
        | (refine And.intro (fun h => absurd h (by decide)) (fun _ => ?_); conv => whnf)
        | (refine And.intro (fun _ => ?_) (fun _ => ?_) <;> conv => whnf)
        | (refine ⟨_, _, lendO f1 rfl (flat_cA _), ?_⟩; conv => whnf)
        | (refine ⟨_, _, neCC hxo hxj, ?_⟩; conv => whnf)))
      all_goals try (refine Or.inl ?_; conv => whnf)
    · exact (bno ‹decide ((j : Int) < ((l.map evR).length : Nat)) = true› (decide_eq_false (by omega))).elim
    · exact (bno ‹_› hwj).elim
    · refine ⟨z + 1, ⟨rfl, hz⟩, ?_⟩
      all_goals refine ⟨[], ?_⟩
      repeat (any_goals (first | exact True.intro | exact rfl | with_reducible_and_instances rfl | exact (by kernel_rfl) | refine And.intro ?_ ?_))
      all_goals conv => whnf
    · exact (bno ‹(!decide (cellOf (l.map evOf) k = cellOf ((l.take j).map evOf) k)) = true› heq).elim
  · rintro y z hF ⟨rfl, hy⟩
    conv => whnf
    iterate 2
      repeat (any_goals (first
        | exact True.intro
        | (refine And.intro (fun _ => ?_) tf; conv => whnf)
        | (refine And.intro ft (fun _ => ?_); conv => whnf)
        | (refine And.intro (by kernel_rfl) ?_; conv => whnf)
        | (refine And.intro (by decide) ?_; conv => whnf)
        | (refine And.intro (fun _ => ?_) (fun h => absurd h (by decide)); conv => whnf)
        | (refine And.intro (fun h => absurd h (by decide)) (fun _ => ?_); conv => whnf)
        | (refine And.intro (fun _ => ?_) (fun _ => ?_) <;> conv => whnf)))
      all_goals try (refine Or.inl ?_; conv => whnf)
    all_goals refine ⟨[], ?_⟩
    repeat (any_goals (first | exact True.intro | exact rfl | with_reducible_and_instances rfl | exact (by kernel_rfl) | refine And.intro ?_ ?_))
    all_goals conv => whnf
theorem tallies22_law (H : Type) (enc : TypeId × Value → H) : LawWalk H enc Try.prog 7 Try.f7 :=
  lawWalk_of_sat (by kernel_rfl) fun args h => by
    obtain ⟨a, _, rfl, h1, h⟩ := h
    obtain ⟨l, rfl, hl⟩ := ty_evs h1
    obtain rfl := h
    exact tallies_sat l hl
end Go.Proofs.Ytbjmdnemeidpjaa
/- Two closed facts on the program that every law's statement asks. -/
namespace Go.Proofs.Ytbjmdnemeidpjaa
set_option linter.unusedSimpArgs false
set_option linter.unusedVariables false
open Go.RowKit
theorem own : ownKnob Try.prog.godebug = none := by kernel_rfl
theorem laidOut : laidOutB Try.prog = true := by kernel_rfl
end Go.Proofs.Ytbjmdnemeidpjaa
