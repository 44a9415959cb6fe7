/- Parts LgA, Mp, Mn, LgB, Vn, LgC, LgD, LgE of the proof, put together. -/
import Derived.Test.YtefidbifgilekaaM6
import Derived.Test.YtefidbifgilekaaSrtL
import Derived.Lib.QuietBelow
import Derived.LoopN
import Derived.MapKept
import Derived.WideKeyRuns
import Derived.RangeFuncNested
import Derived.RangeFuncBound
import Derived.RangeFuncCalls
import Derived.RangeFuncLeaves
import Derived.OwnWalkIn
import Derived.TacticsInMore
import Derived.LoopNIn
import Derived.LoopIn
import Derived.Shelf.SlMaps.Clone
import Derived.Laws.Externs
import Derived.Stop.RegionWithIn
import Derived.RegionIn
/- ledger: how ids are compared, and sorted. -/
namespace Go.Proofs.Ytefidbifgilekaa
open Go.RowKit Go.Sort
set_option linter.unusedVariables false
set_option linter.unusedSimpArgs false
abbrev Id3 := Int × Int × Int
def encI (x : Id3) : List Value := [.int .i64 x.1, .int .i64 x.2.1, .int .i64 x.2.2]
def orI (a b c : Int) : Int := if a ≠ 0 then a else if b ≠ 0 then b else c
def cmpI (x y : Id3) : Int := orI (Lib.compareInt x.1 y.1) (Lib.compareInt x.2.1 y.2.1) (Lib.compareInt x.2.2 y.2.2)
theorem cmpInt_any (x y : Int) (w : World) : Calls Try.prog 56 #[.int .i64 x, .int .i64 y] w fun e w' => e = .returned (.int .i64 (Lib.compareInt x y)) ∧ w' = w := AnyG.cmp_Compare_int Try.cmpFn x y w
theorem grows_of {w w' : World} (h : Below w.heap.size w w') (hd : w.drawn ≤ w'.drawn) : ∃ q os', w' = grow (w.drewN q) os' := by
  obtain ⟨p, e⟩ := regrown_of_below h
  have ed : w'.drawn = p.d := by rw [e]; rfl
  refine ⟨p.d - w.drawn, p.os, ?_⟩
  rw [e]
  have : redrawn w p.d = w.drewN (p.d - w.drawn) := by
    unfold redrawn World.drewN
    rw [show w.drawn + (p.d - w.drawn) = p.d by omega]
  rw [this]
set_option maxHeartbeats 1000000 in
set_option maxRecDepth 100000 in
theorem cmpOr_any (a b c : Int) (g : Nat) (w : World) (h0 : w.cell? ⟨g, 0, none⟩ = some (.int .i64 a)) (h1 : w.cell? ⟨g, 1, none⟩ = some (.int .i64 b)) (h2 : w.cell? ⟨g, 2, none⟩ = some (.int .i64 c)) :
    Calls Try.prog 55 #[.slice (some ⟨g, 0, none⟩) 3 3] w fun e w' => e = .returned (.int .i64 (orI a b c)) ∧ w' = w := by
  by_cases ha : a = 0
  · subst ha
    by_cases hb : b = 0
    · subst hb
      rw [show orI 0 0 c = c from rfl]
      by_cases hc : c = 0
      · subst hc
        go_enter Try.func55, Try.ntmps55
        go_wp2
        refine wp_loop_rounds 4 ?_
        rw [rounds_succ]
        go_wp2
        rw [rounds_succ]
        go_wp2
        rw [rounds_succ]
        go_wp2
        rw [rounds_succ]
        go_wp2
        go_ret
        exact ⟨rfl, rfl⟩
      · have hne : (c != 0) = true := by simpa using hc
        go_enter Try.func55, Try.ntmps55
        go_wp2
        refine wp_loop_rounds 3 ?_
        rw [rounds_succ]
        go_wp2
        rw [rounds_succ]
        go_wp2
        rw [rounds_succ]
        go_wp2
        go_ret
        exact ⟨rfl, rfl⟩
    · have hr : orI 0 b c = b := by unfold orI; rw [if_neg (by simp), if_pos hb]
      rw [hr]
      have hne : (b != 0) = true := by simpa using hb
      clear hr
      go_enter Try.func55, Try.ntmps55
      go_wp2
      refine wp_loop_rounds 2 ?_
      rw [rounds_succ]
      go_wp2
      rw [rounds_succ]
      go_wp2
      go_ret
      exact ⟨rfl, rfl⟩
  · have hr : orI a b c = a := by unfold orI; rw [if_pos ha]
    rw [hr]
    have hne : (a != 0) = true := by simpa using ha
    clear hr
    go_enter Try.func55, Try.ntmps55
    go_wp2
    refine wp_loop_rounds 1 ?_
    rw [rounds_succ]
    go_wp2
    go_ret
    exact ⟨rfl, rfl⟩
theorem ld64 (a : Addr) (v : Value) (w : World) (h : w.cell? a = some v) : (Instr.loadAt 2 (.pointer (some a))).run Try.prog w = .ok v w := by
  go_simp
theorem fld0 (b : Nat) (w : World) : (Instr.fieldAt 31 (.pointer (some ⟨b, 0, none⟩)) 0).run Try.prog w = .ok (.pointer (some ⟨b, 0, none⟩)) w := by
  go_simp
theorem fld1 (b : Nat) (w : World) : (Instr.fieldAt 31 (.pointer (some ⟨b, 0, none⟩)) 1).run Try.prog w = .ok (.pointer (some ⟨b, 1, none⟩)) w := by
  go_simp
theorem fld2 (b : Nat) (w : World) : (Instr.fieldAt 31 (.pointer (some ⟨b, 0, none⟩)) 2).run Try.prog w = .ok (.pointer (some ⟨b, 2, none⟩)) w := by
  go_simp
theorem build3 (r s t : Int) (w : World) : (Instr.buildSlice 122 3 #[(0, .int .i64 r), (1, .int .i64 s), (2, .int .i64 t)]).run Try.prog w = .ok (.slice (some ⟨w.heap.size, 0, none⟩) 3 3) (w.alloc (.cells #[.int .i64 r, .int .i64 s, .int .i64 t] 3)) := by
  go_simp
set_option maxHeartbeats 1000000 in
set_option maxRecDepth 100000 in
theorem compareId_at : CmpAt Try.prog 45 encI cmpI := by
  rintro ⟨x0, x1, x2⟩ ⟨y0, y1, y2⟩ W
  obtain ⟨z, hz⟩ : ∃ z, cmpI (x0, x1, x2) (y0, y1, y2) = z := ⟨_, rfl⟩
  rw [hz]
  obtain ⟨r0, hr0⟩ : ∃ r, Lib.compareInt x0 y0 = r := ⟨_, rfl⟩
  obtain ⟨r1, hr1⟩ : ∃ r, Lib.compareInt x1 y1 = r := ⟨_, rfl⟩
  obtain ⟨r2, hr2⟩ : ∃ r, Lib.compareInt x2 y2 = r := ⟨_, rfl⟩
  have hzz : orI r0 r1 r2 = z := by rw [← hz, ← hr0, ← hr1, ← hr2]; rfl
  have C0 := hide (fun W' => cmpInt_any x0 y0 W')
  rw [hr0] at C0
  have C1 := hide (fun W' => cmpInt_any x1 y1 W')
  rw [hr1] at C1
  have C2 := hide (fun W' => cmpInt_any x2 y2 W')
  rw [hr2] at C2
  have HZ := hide hzz
  clear hz hr0 hr1 hr2 hzz
  simp only [encI]
  have B0 := hide (((Blk.new W 31 #[.int .i64 x0, .int .i64 x1, .int .i64 x2]).alloc (.cells #[.int .i64 y0, .int .i64 y1, .int .i64 y2] 31)))
  have B1 := hide (show Blk ((W.alloc (.cells #[.int .i64 x0, .int .i64 x1, .int .i64 x2] 31)).alloc (.cells #[.int .i64 y0, .int .i64 y1, .int .i64 y2] 31)) (W.heap.size + 1) 31 #[.int .i64 y0, .int .i64 y1, .int .i64 y2] by
    have := Blk.new (W.alloc (.cells #[.int .i64 x0, .int .i64 x1, .int .i64 x2] 31)) 31 #[.int .i64 y0, .int .i64 y1, .int .i64 y2]
    rwa [World.size_alloc] at this)
  have BW := hide (show Below W.heap.size W ((W.alloc (.cells #[.int .i64 x0, .int .i64 x1, .int .i64 x2] 31)).alloc (.cells #[.int .i64 y0, .int .i64 y1, .int .i64 y2] 31)) from ((Below.refl _ _).alloc (Nat.le_refl _) _).alloc (by simp) _)
  have DW := hide (show W.drawn ≤ ((W.alloc (.cells #[.int .i64 x0, .int .i64 x1, .int .i64 x2] 31)).alloc (.cells #[.int .i64 y0, .int .i64 y1, .int .i64 y2] 31)).drawn from Nat.le_refl _)
  go_enter Try.func45, Try.ntmps45
  go_wp2_with fail
  generalize ((W.alloc (.cells #[.int .i64 x0, .int .i64 x1, .int .i64 x2] 31)).alloc (.cells #[.int .i64 y0, .int .i64 y1, .int .i64 y2] 31)) = W2 at *
  refine region_flow (by kernel_rfl) (by kernel_rfl) (Γ := Nat) (fun γ => [.pointer (some ⟨W.heap.size, 0, none⟩), .int .i64 x0, .pointer (some ⟨W.heap.size + 1, 0, none⟩), .int .i64 y0, .int .i64 r0, .pointer (some ⟨W.heap.size, 1, none⟩), .int .i64 x1, .pointer (some ⟨W.heap.size + 1, 1, none⟩), .int .i64 y1, .int .i64 r1, .pointer (some ⟨W.heap.size, 2, none⟩), .int .i64 x2, .pointer (some ⟨W.heap.size + 1, 2, none⟩), .int .i64 y2, .int .i64 r2, .slice (some ⟨γ, 0, none⟩) 3 3, .int .i64 z, .int .i64 z])
    (fun l γ W' => Below W2.heap.size W2 W' ∧ W2.drawn ≤ W'.drawn ∧ (l 15 = true → W'.cell? ⟨γ, 0, none⟩ = some (.int .i64 r0) ∧ W'.cell? ⟨γ, 1, none⟩ = some (.int .i64 r1) ∧ W'.cell? ⟨γ, 2, none⟩ = some (.int .i64 r2))) (fun _ => rfl) 0 ⟨(Below.refl _ _).drew, Nat.le_succ _, fun h => nomatch h⟩ ?step ?fin
  case step =>
    refine ⟨?_, ?_, ?_, ?_, ?_, ?_, ?_, ?_, ?_, ?_, ?_, ?_, ?_, ?_, ?_, ?_, ?_, ?_, trivial⟩
    · intro l γ V hG hl hw hcl; exact stepV_value rfl _ (exec_fieldAddr _ _ _ rfl (fld0 _ _)) (.inr rfl) hG
    · intro l γ V hG hl hw hcl; exact stepV_value rfl _ (exec_load _ _ rfl (ld64 _ _ _ ((B0.out.next hG.1).cell 0))) (.inr rfl) hG
    · intro l γ V hG hl hw hcl; exact stepV_value rfl _ (exec_fieldAddr _ _ _ rfl (fld0 _ _)) (.inr rfl) hG
    · intro l γ V hG hl hw hcl; exact stepV_value rfl _ (exec_load _ _ rfl (ld64 _ _ _ ((B1.out.next hG.1).cell 0))) (.inr rfl) hG
    · intro l γ V hG hl hw hcl
      refine stepV_call rfl 56 _ (exec_call _ _ _ rfl rfl (enters_of Try.func56 (by kernel_rfl) rfl) [.int .i64 x0, .int .i64 y0] rfl) ?_
      refine (C0.out _).mono ?_
      rintro e w' ⟨rfl, rfl⟩
      exact ⟨_, γ, rfl, SameV.refl _ _ _, .inr rfl, hG⟩
    · intro l γ V hG hl hw hcl; exact stepV_value rfl _ (exec_fieldAddr _ _ _ rfl (fld1 _ _)) (.inr rfl) hG
    · intro l γ V hG hl hw hcl; exact stepV_value rfl _ (exec_load _ _ rfl (ld64 _ _ _ ((B0.out.next hG.1).cell 1))) (.inr rfl) hG
    · intro l γ V hG hl hw hcl; exact stepV_value rfl _ (exec_fieldAddr _ _ _ rfl (fld1 _ _)) (.inr rfl) hG
    · intro l γ V hG hl hw hcl; exact stepV_value rfl _ (exec_load _ _ rfl (ld64 _ _ _ ((B1.out.next hG.1).cell 1))) (.inr rfl) hG
    · intro l γ V hG hl hw hcl
      refine stepV_call rfl 56 _ (exec_call _ _ _ rfl rfl (enters_of Try.func56 (by kernel_rfl) rfl) [.int .i64 x1, .int .i64 y1] rfl) ?_
      refine (C1.out _).mono ?_
      rintro e w' ⟨rfl, rfl⟩
      exact ⟨_, γ, rfl, SameV.refl _ _ _, .inr rfl, hG⟩
    · intro l γ V hG hl hw hcl; exact stepV_value rfl _ (exec_fieldAddr _ _ _ rfl (fld2 _ _)) (.inr rfl) hG
    · intro l γ V hG hl hw hcl; exact stepV_value rfl _ (exec_load _ _ rfl (ld64 _ _ _ ((B0.out.next hG.1).cell 2))) (.inr rfl) hG
    · intro l γ V hG hl hw hcl; exact stepV_value rfl _ (exec_fieldAddr _ _ _ rfl (fld2 _ _)) (.inr rfl) hG
    · intro l γ V hG hl hw hcl; exact stepV_value rfl _ (exec_load _ _ rfl (ld64 _ _ _ ((B1.out.next hG.1).cell 2))) (.inr rfl) hG
    · intro l γ V hG hl hw hcl
      refine stepV_call rfl 56 _ (exec_call _ _ _ rfl rfl (enters_of Try.func56 (by kernel_rfl) rfl) [.int .i64 x2, .int .i64 y2] rfl) ?_
      refine (C2.out _).mono ?_
      rintro e w' ⟨rfl, rfl⟩
      exact ⟨_, γ, rfl, SameV.refl _ _ _, .inr rfl, hG⟩
    · intro l γ V hG hl hw hcl
      refine stepV_run rfl _ _ V.heap.size (exec_buildSlice _ _ _ rfl [(0, .int .i64 r0), (1, .int .i64 r1), (2, .int .i64 r2)] rfl (build3 r0 r1 r2 V)) (SameV.set (.slice (some ⟨V.heap.size, 0, none⟩) 3 3) hl rfl) (.inr rfl) ?_
      have hB := Blk.new V 3 #[.int .i64 r0, .int .i64 r1, .int .i64 r2]
      exact ⟨hG.1.alloc hG.1.size _, hG.2.1, fun _ => ⟨hB.cell 0, hB.cell 1, hB.cell 2⟩⟩
    · intro l γ V hG hl hw hcl
      have h10 : l 15 = true := hw ⟨15, .data⟩ (by simp) rfl
      refine stepV_call rfl 55 _ (exec_call _ _ _ rfl rfl (enters_of Try.func55 (by kernel_rfl) rfl) [.slice (some ⟨γ, 0, none⟩) 3 3] rfl) ?_
      refine (cmpOr_any r0 r1 r2 γ V (hG.2.2 h10).1 (hG.2.2 h10).2.1 (hG.2.2 h10).2.2).mono ?_
      rintro e w' ⟨rfl, rfl⟩
      exact ⟨_, γ, rfl, SameV.refl _ _ _, .inr (by rw [HZ.out]; rfl), hG⟩
    · intro l γ V hG hl hw hcl; exact stepV_value rfl _ rfl (.inr rfl) hG
  case fin =>
    intro l γ V hall hG
    have hb := BW.out.trans (hG.1.mono BW.out.size)
    have hd : W.drawn ≤ V.drawn := Nat.le_trans DW.out hG.2.1
    obtain ⟨q, os', hgr⟩ := grows_of hb hd
    have HGR := hide hgr
    clear hG hb hd hgr hall
    simp only [putAll, Act.put, List.setIfInBounds_toArray, List.set_cons_succ, List.set_cons_zero]
    go_wp2_with fail
    go_ret
    exact ⟨rfl, q, os', HGR.out⟩
/-! ### the order of ids -/
def ltI (x y : Id3) : Prop := x.1 < y.1 ∨ x.1 = y.1 ∧ (x.2.1 < y.2.1 ∨ x.2.1 = y.2.1 ∧ x.2.2 < y.2.2)
theorem ltOf_I (x y : Id3) : ltOf cmpI x y = true ↔ ltI x y := by
  unfold ltOf cmpI orI ltI Lib.compareInt
  simp only [decide_eq_true_eq]
  repeat' split
  all_goals omega
theorem ltOf_IF (x y : Id3) : ltOf cmpI x y = false ↔ ¬ ltI x y := by
  rw [← ltOf_I]; simp
theorem swoI : SWO (ltOf cmpI) := by
  refine ⟨fun x => ?_, fun x y z => ?_, fun x y z => ?_⟩
  · rw [ltOf_IF]; unfold ltI; omega
  · rw [ltOf_I, ltOf_I, ltOf_I]; unfold ltI; omega
  · rw [ltOf_IF, ltOf_IF, ltOf_IF]; unfold ltI; omega
theorem totI (x y : Id3) (h : ltOf cmpI x y = false) (g : ltOf cmpI y x = false) : x = y := by
  rw [ltOf_IF] at h g
  unfold ltI at h g
  obtain ⟨a, b, c⟩ := x
  obtain ⟨a', b', c'⟩ := y
  simp only [Prod.mk.injEq]
  simp at h g
  omega
abbrev idR (x : Id3) : List D := [iD x.1, iD x.2.1, iD x.2.2]
theorem sortI_call (l : List Id3) (hsz : l.length < 4611686018427387904) {i n : Nat} {Lh : List AObj} (hi : Lh[i]? = some (.sl 3 (l.map idR))) :
    CallOK Try.prog 53 [.own i, .fn (.func 45) [] []] Lh n ⟨[i], [(i, .sl 3 ((sorted cmpI l).map idR))], []⟩ (.tup []) :=
  sort_call Try.sortFn Try.isAgg31 Try.sizeOf31 encI (fun _ => rfl) (fun x v hv => by simp [encI] at hv; rcases hv with rfl | rfl | rfl <;> rfl) cmpI swoI totI (enters_of Try.func45 (by kernel_rfl) rfl) compareId_at l hsz hi
end Go.Proofs.Ytefidbifgilekaa
/- Maps of the call's own: made, looked up, written, shortened, counted. No program is named here. -/
namespace Go.Proofs.Ytefidbifgilekaa
set_option linter.unusedSimpArgs false
set_option linter.unusedVariables false
open Go.RowKit
set_option linter.unusedSectionVars false
/-! ### closed data as values -/
def vOf : D → Value
  | .v u => u
  | .agg ds => .agg (ds.map unD).toArray
  | .sl _ _ => undef
def closedC : List D → Bool
  | [] => true
  | .v u :: r => u.oneCell' && closedC r
  | _ :: _ => false
def closedD : D → Bool
  | .v _ => true
  | .agg ds => closedC ds
  | .sl _ _ => false
theorem closedC_flat : ∀ {ds : List D}, closedC ds = true → FlatVs ds (ds.map unD)
  | [], _ => .nil
  | .v u :: r, h => by
    simp only [closedC, Bool.and_eq_true] at h
    exact .cons (.v u) h.1 (closedC_flat h.2)
  | .agg _ :: _, h => by simp [closedC] at h
  | .sl _ _ :: _, h => by simp [closedC] at h
theorem closed_flat {x : D} (h : closedD x = true) : FlatV x (vOf x) := by
  cases x with
  | v u => exact .v u
  | agg ds => exact .agg (closedC_flat h)
  | sl s r => cases h
/-! ### a map as a list: keys, elements, births -/
section
variable {κ ν : Type} [DecidableEq κ]
abbrev Es (κ ν : Type) := List (κ × ν × Nat)
def atX (l : Es κ ν) (k : κ) : Option Nat := (l.map (·.1)).findIdx? fun x => decide (x = k)
def findX (l : Es κ ν) (k : κ) : Option ν := (l.find? fun p => decide (p.1 = k)).map (·.2.1)
def hasX (l : Es κ ν) (k : κ) : Bool := (findX l k).isSome
def putX (k : κ) (v : ν) (c : Nat) : Es κ ν → Es κ ν
  | [] => [(k, v, c)]
  | p :: r => if p.1 = k then (k, v, p.2.2) :: r else p :: putX k v c r
def clkX (k : κ) (l : Es κ ν) (c : Nat) : Nat := if hasX l k then c else c + 1
def delX (k : κ) : Es κ ν → Es κ ν
  | [] => []
  | p :: r => if p.1 = k then r else p :: delX k r
def entryOf (ek : κ → D) (ev : ν → D) (p : κ × ν × Nat) : MapEntry := { key := vOf (ek p.1), val := vOf (ev p.2.1), born := p.2.2 }
/-- A map object of just these entries. -/
def mapQ (ek : κ → D) (ev : ν → D) (l : Es κ ν) (c : Nat) (o : Obj) : Prop := o = .map (l.map (entryOf ek ev)).toArray c
abbrev mapO (ek : κ → D) (ev : ν → D) (l : Es κ ν) (c : Nat) : AObj := .obj (mapQ ek ev l c)
/-- A type of keys. -/
structure KeyT (P : Program) (kt : TypeId) (ek : κ → D) : Prop where
  cl : ∀ k, closedD (ek k) = true
  chk : ∀ (b : Bool) (k : κ) (w : World), (Instr.checkKey b 10000 kt (vOf (ek k))).run P w = .ok () w
  fnd : ∀ (k : κ) (ks : List κ) (es : List MapEntry) (w : World), es.map (·.key) = ks.map (fun k => vOf (ek k)) → (Instr.findKey kt (vOf (ek k)) es).run P w = .ok ((ks.findIdx? fun x => decide (x = k)).bind fun i => (es[i]?).map fun e => (i, e.val)) w
  same : ∀ k, Instr.sameBits 10000 (vOf (ek k)) (vOf (ek k)) = true
theorem findX_idx (m : Es κ ν) (k : κ) : findX m k = (atX m k).bind fun i => (m[i]?).map (·.2.1) := by
  unfold findX atX
  induction m with
  | nil => rfl
  | cons p m ih =>
    rw [List.find?_cons, List.map_cons, List.findIdx?_cons]
    by_cases h : p.1 = k
    · simp [h]
    · simp only [h, decide_false, Bool.false_eq_true, if_false]
      rw [ih]
      cases (m.map (·.1)).findIdx? fun x => decide (x = k) <;> simp
theorem putX_idx (m : Es κ ν) (k : κ) (v : ν) (c : Nat) : putX k v c m = match atX m k with | some i => m.modify i (fun p => (k, v, p.2.2)) | none => m ++ [(k, v, c)] := by
  unfold atX
  induction m with
  | nil => rfl
  | cons p m ih =>
    rw [putX, List.map_cons, List.findIdx?_cons]
    by_cases h : p.1 = k
    · simp [h]
    · simp only [h, decide_false, Bool.false_eq_true, if_false]
      rw [ih]
      cases (m.map (·.1)).findIdx? fun x => decide (x = k) <;> simp
theorem delX_idx (m : Es κ ν) (k : κ) : delX k m = match atX m k with | some i => m.eraseIdx i | none => m := by
  unfold atX
  induction m with
  | nil => rfl
  | cons p m ih =>
    rw [delX, List.map_cons, List.findIdx?_cons]
    by_cases h : p.1 = k
    · simp [h]
    · simp only [h, decide_false, Bool.false_eq_true, if_false]
      rw [ih]
      cases (m.map (·.1)).findIdx? fun x => decide (x = k) <;> simp
theorem findIdx_lt {l : List κ} {p : κ → Bool} {i : Nat} (h : l.findIdx? p = some i) : i < l.length ∧ ∀ x, l[i]? = some x → p x = true := by
  induction l generalizing i with
  | nil => simp at h
  | cons y l ih =>
    rw [List.findIdx?_cons] at h
    by_cases hp : p y = true
    · rw [if_pos hp] at h; injection h with h; subst h
      exact ⟨by simp, fun x hx => by simp at hx; subst hx; exact hp⟩
    · rw [if_neg hp] at h
      cases hq : l.findIdx? p with
      | none => rw [hq] at h; cases h
      | some j =>
        rw [hq] at h; simp at h; subst h
        obtain ⟨h1, h2⟩ := ih hq
        exact ⟨by simp; exact h1, fun x hx => h2 x (by simpa using hx)⟩
end
section
variable {P : Program} {w w' : World} {F F' : Nat → Prop} {ρ ρ' : Nat → Option Value} {H : Hp} {L : List AObj} {ty n : Nat} {κ ν : Type} [DecidableEq κ] {ek : κ → D} {ev : ν → D} {m : Es κ ν} {c : Nat} {t kt et : TypeId} {i j : Nat} {k : κ} {v : ν} {mx kx vx : Operand}
/-- The map behind a handle. -/
theorem Env.mapAt (E : Env F ρ H w) (hi : H i = some (mapO ek ev m c)) {u : Value} (hu : RA w F ρ (.mp i) u) :
    ∃ b, u = .map (some b) ∧ ρ i = some (.map (some b)) ∧ w.heap[b]? = some (.map (m.map (entryOf ek ev)).toArray c) := by
  cases hu with | mp hρ =>
    rename_i b
    obtain ⟨hh, e1, ⟨b', o, hb, ho, h1⟩, e3⟩ := E.rep i _ hi rfl
    rw [hρ] at e1; injection e1 with e1; subst e1
    have h1 : o = .map (m.map (entryOf ek ev)).toArray c := h1
    subst h1
    rcases hb with hb | hb
    · cases hb
    · injection hb with hb; injection hb with hb; subst hb
      exact ⟨_, rfl, hρ, ho⟩
theorem grown_mp {b : Nat} {o o' : Obj} (hb : w.heap[b]? = some o) : w.grownBy { w with heap := w.heap.setIfInBounds b o' } (some b) := by
  refine ⟨rfl, rfl, rfl, by simp, fun g hg hne => ?_⟩
  have : b ≠ g := fun e => hne (by rw [e])
  simp [this]
theorem alloc_lt (w : World) (o : Obj) : w.heap.size < (w.alloc o).heap.size := by
  have : (w.alloc o).heap = w.heap.push o := rfl
  rw [this]; simp
theorem eraseIdx_map' {α β : Type} (f : α → β) : ∀ (l : List α) (i : Nat), (l.eraseIdx i).map f = (l.map f).eraseIdx i
  | [], _ => rfl
  | _ :: _, 0 => rfl
  | x :: l, i + 1 => by simp [List.eraseIdx, eraseIdx_map' f l i]
/-- What is found in a map object. -/
theorem run_found (K : KeyT P kt ek) (m : Es κ ν) (k : κ) (w : World) :
    (findX m k = none ∧ (Instr.findKey kt (vOf (ek k)) (m.map (entryOf ek ev))).run P w = .ok none w ∧ atX m k = none) ∨ ∃ j p, findX m k = some p.2.1 ∧ (Instr.findKey kt (vOf (ek k)) (m.map (entryOf ek ev))).run P w = .ok (some (j, vOf (ev p.2.1))) w ∧ atX m k = some j ∧ m[j]? = some p ∧ p.1 = k := by
  have h1 := K.fnd k (m.map (·.1)) (m.map (entryOf ek ev)) w (by simp [List.map_map, Function.comp_def, entryOf])
  have h2 := findX_idx m k
  rw [show ((m.map (·.1)).findIdx? fun x => decide (x = k)) = atX m k from rfl] at h1
  cases hj : atX m k with
  | none => rw [hj] at h1 h2; exact .inl ⟨h2, h1, rfl⟩
  | some j =>
    rw [hj] at h1 h2
    obtain ⟨q1, q2⟩ := findIdx_lt hj
    have q1' : j < m.length := by simpa using q1
    have hkk : m[j].1 = k := by simpa using q2 m[j].1 (by simp [List.getElem?_eq_getElem q1'])
    refine .inr ⟨j, m[j], ?_, ?_, rfl, List.getElem?_eq_getElem q1', hkk⟩
    · rw [h2]; simp [List.getElem?_eq_getElem q1']
    · rw [h1]; simp [List.getElem?_eq_getElem q1', entryOf]
theorem mp_make : Does P (.makeMap t none) ty L n [] ⟨[], [], [mapO ek ev [] 0]⟩ (.mp n) := by
  intro o H F ρ w ev' ho ht En hrs hn hx
  have hn0 : H n = none := by simpa using hn 0 (by simp)
  have hrun : (execOp ev' o).run P w = .ok (.value (.map (some w.heap.size))) (w.alloc (.map #[] 0)) := by
    simp only [execOp, ho, Sem.run_bind]
    rfl
  rw [hrun]
  obtain ⟨S1, K1, E1⟩ := En.new (n := n) (o' := mapO ek ev [] 0) (h := .map (some w.heap.size)) hn0 (World.grownBy_alloc w (.map #[] 0) none) (fun b hb => by simp [blkOf] at hb; subst hb; exact ⟨Nat.le_refl _, alloc_lt _ _⟩)
    ⟨w.heap.size, .map #[] 0, .inr rfl, (MapKept.heap_alloc w _).1, rfl⟩
  exact ⟨F, _, S1, K1, E1, .mp (updF_same _ _ _)⟩
theorem run_lookup {b : Nat} {z : ν} {cm : Bool} (ht : P.underlying t = some (.map kt et)) (K : KeyT P kt ek) (hz : (zeroValue et).run P w = .ok (vOf (ev z)) w) (hb : w.heap[b]? = some (.map (m.map (entryOf ek ev)).toArray c)) (k : κ) :
    (Instr.lookup t (.map (some b)) (vOf (ek k)) cm).run P w = .ok (if cm then .tuple #[vOf (ev ((findX m k).getD z)), .bool (findX m k).isSome] else vOf (ev ((findX m k).getD z))) w := by
  have hg := MapKept.run_getObj_map (P := P) hb
  have hc := fun b => K.chk b k w
  rcases run_found (ev := ev) K m k w with ⟨h1, h2, _⟩ | ⟨j, x, h1, h2, _⟩
  · rw [h1]
    simp only [Instr.lookup, Sem.run_bind, run_underlying ht, Result.andThen_ok, hg, hc, h2, hz, Sem.run_pure]
    cases cm <;> rfl
  · rw [h1]
    simp only [Instr.lookup, Sem.run_bind, run_underlying ht, Result.andThen_ok, hg, hc, h2, Sem.run_pure]
    cases cm <;> rfl
theorem zero_run {u : Value} (hz : (P.info? et).bind (·.zero) = some u) : (zeroValue et).run P w = .ok u w := by
  obtain ⟨inf, h1, h2⟩ := Option.bind_eq_some_iff.1 hz
  simp [zeroValue, typeInfo, h1, h2]
theorem mp_look (K : KeyT P kt ek) (hv : ∀ x, closedD (ev x) = true) (z : ν) (ht : P.underlying t = some (.map kt et)) (hz : (P.info? et).bind (·.zero) = some (vOf (ev z))) (k : κ) (hi : L[i]? = some (mapO ek ev m c)) :
    Does P (.lookup t mx kx false) ty L n [.mp i, .d (ek k)] ⟨[i], [], []⟩ (.d (ev ((findX m k).getD z))) := by
  intro o H F ρ w ev' ho _ En hrs hn hx
  obtain ⟨u, q, e', hu, hq⟩ := hx.two_out
  simp [Op.operands] at e'
  have hi' : H i = some (mapO ek ev m c) := by rw [hrs i (by simp)]; exact hi
  obtain ⟨b, rfl, e1, e2⟩ := En.mapAt hi' hu
  have := FlatW.eq (.d (closed_flat (K.cl k))) hq
  subst this
  have hr := run_lookup (cm := false) ht K (zero_run hz) e2 k
  have hrun : (execOp ev' o).run P w = .ok (.value (vOf (ev ((findX m k).getD z)))) w := by simp only [execOp, ho, e'.1, e'.2, Sem.run_bind, hr, Result.andThen_ok]; rfl
  rw [hrun]
  exact Post.same En (FlatW.ra (.d (closed_flat (hv _))))
theorem mp_looks (K : KeyT P kt ek) (hv : ∀ x, closedD (ev x) = true) (z : ν) (ht : P.underlying t = some (.map kt et)) (hz : (P.info? et).bind (·.zero) = some (vOf (ev z))) (k : κ) (hi : L[i]? = some (mapO ek ev m c)) :
    Does P (.lookup t mx kx true) ty L n [.mp i, .d (ek k)] ⟨[i], [], []⟩ (.tup [.d (ev ((findX m k).getD z)), .d (.v (.bool (findX m k).isSome))]) := by
  intro o H F ρ w ev' ho _ En hrs hn hx
  obtain ⟨u, q, e', hu, hq⟩ := hx.two_out
  simp [Op.operands] at e'
  have hi' : H i = some (mapO ek ev m c) := by rw [hrs i (by simp)]; exact hi
  obtain ⟨b, rfl, e1, e2⟩ := En.mapAt hi' hu
  have := FlatW.eq (.d (closed_flat (K.cl k))) hq
  subst this
  have hr := run_lookup (cm := true) ht K (zero_run hz) e2 k
  have hrun : (execOp ev' o).run P w = .ok (.value (.tuple #[vOf (ev ((findX m k).getD z)), .bool (findX m k).isSome])) w := by simp only [execOp, ho, e'.1, e'.2, Sem.run_bind, hr, Result.andThen_ok]; rfl
  rw [hrun]
  exact Post.same En (FlatW.ra (.tup (.cons (.d (closed_flat (hv _))) (.cons (.d (.v _)) .nil))))
theorem modify_list {α : Type} (l : List α) (i : Nat) (f : α → α) : (l.toArray.modify i f) = (l.modify i f).toArray := by
  apply Array.ext'
  apply List.ext_getElem?
  intro q
  rw [Array.getElem?_toList, Array.getElem?_modify, List.getElem?_modify]
  by_cases hq : i = q <;> simp [hq]
/-- What an update makes of a map's block. -/
theorem run_put {b : Nat} (ht : P.underlying t = some (.map kt et)) (K : KeyT P kt ek) (hb : w.heap[b]? = some (.map (m.map (entryOf ek ev)).toArray c)) (k : κ) (v : ν) :
    (Instr.mapUpdate t (.map (some b)) (vOf (ek k)) (vOf (ev v))).run P w = .ok () { w with heap := w.heap.setIfInBounds b (.map ((putX k v c m).map (entryOf ek ev)).toArray (clkX k m c)) } := by
  have hg := MapKept.run_getObj_map (P := P) hb
  have hc := K.chk false k w
  rcases run_found (ev := ev) K m k w with ⟨h1, h2, h3⟩ | ⟨j, x, h1, h2, h3, h4, h5⟩
  · have e : (.map ((putX k v c m).map (entryOf ek ev)).toArray (clkX k m c) : Obj) = .map ((m.map (entryOf ek ev)).toArray.push { key := vOf (ek k), val := vOf (ev v), born := c }) (c + 1) := by
      rw [putX_idx, h3, clkX, hasX, h1]
      simp [entryOf]
    rw [e]
    simp only [Instr.mapUpdate, Sem.run_bind, run_underlying ht, Result.andThen_ok, hg, hc, h2, MapKept.run_setObj_map _ hb]
  · have e : (.map ((putX k v c m).map (entryOf ek ev)).toArray (clkX k m c) : Obj) = .map ((m.map (entryOf ek ev)).toArray.modify j fun e => { e with key := vOf (ek k), val := vOf (ev v) }) c := by
      rw [putX_idx, h3, clkX, hasX, h1, modify_list]
      simp only [Option.isSome_some, if_true]
      congr 2
      apply List.ext_getElem?
      intro q
      rw [List.getElem?_map, List.getElem?_modify, List.getElem?_modify, List.getElem?_map]
      by_cases hq : j = q
      · subst hq; rw [h4]; simp [entryOf]
      · simp [hq]
    have hks : (Instr.keyThatStays (vOf (ek k)) (vOf (ek k))).run P w = .ok (vOf (ek k)) w := by simp [Instr.keyThatStays, K.same k]
    have hkk : (((m.map (entryOf ek ev)).toArray[j]?).map (·.key)).getD (vOf (ek k)) = vOf (ek k) := by simp [h4, entryOf, h5]
    rw [e]
    simp only [Instr.mapUpdate, Sem.run_bind, run_underlying ht, Result.andThen_ok, hg, hc, h2, hkk, hks, MapKept.run_setObj_map _ hb]
theorem mp_put (K : KeyT P kt ek) (hv : ∀ x, closedD (ev x) = true) (ht : P.underlying t = some (.map kt et)) (k : κ) (v : ν) (hi : L[i]? = some (mapO ek ev m c)) :
    Does P (.mapUpdate t mx kx vx) ty L n [.mp i, .d (ek k), .d (ev v)] ⟨[i], [(i, mapO ek ev (putX k v c m) (clkX k m c))], []⟩ .any := by
  intro o H F ρ w ev' ho _ En hrs hn hx
  obtain ⟨u, q, r, e', hu, hq, hr⟩ := hx.three_out
  simp [Op.operands] at e'
  have hi' : H i = some (mapO ek ev m c) := by rw [hrs i (by simp)]; exact hi
  obtain ⟨b, rfl, e1, e2⟩ := En.mapAt hi' hu
  have := FlatW.eq (.d (closed_flat (K.cl k))) hq
  subst this
  have := FlatW.eq (.d (closed_flat (hv v))) hr
  subst this
  have g4 := run_put ht K e2 k v
  have hrun : (execOp ev' o).run P w = .ok .skip { w with heap := w.heap.setIfInBounds b (.map ((putX k v c m).map (entryOf ek ev)).toArray (clkX k m c)) } := by simp only [execOp, ho, e'.1, e'.2.1, e'.2.2, Sem.run_bind, g4, Result.andThen_ok]; rfl
  rw [hrun]
  obtain ⟨S1, E1⟩ := En.upd (o' := mapO ek ev (putX k v c m) (clkX k m c)) hi' rfl e1 (grown_mp e2) ⟨b, _, .inr rfl, (MapKept.heap_set e2).1, rfl⟩
  exact ⟨F, ρ, S1, Keep.refl _, E1, .any _⟩
theorem mp_del {kt' : TypeId} (K : KeyT P kt ek) (ht : P.underlying t = some (.map kt et)) (k : κ) (hi : L[i]? = some (mapO ek ev m c)) :
    Does P (.call { callee := .builtin .delete, args := #[mx, kx], argTypes := #[t, kt'] }) ty L n [.mp i, .d (ek k)] ⟨[i], [(i, mapO ek ev (delX k m) c)], []⟩ (.tup []) := by
  intro o H F ρ w ev' ho _ En hrs hn hx
  have hops : (Op.operands (.call { callee := .builtin .delete, args := #[mx, kx], argTypes := #[t, kt'] })).toList = [mx, kx] := by simp [Op.operands, Call.operands]
  rw [hops] at hx
  obtain ⟨u, q, e', hu, hq⟩ := hx.two_out
  simp at e'
  have hi' : H i = some (mapO ek ev m c) := by rw [hrs i (by simp)]; exact hi
  obtain ⟨b, rfl, e1, e2⟩ := En.mapAt hi' hu
  have := FlatW.eq (.d (closed_flat (K.cl k))) hq
  subst this
  have hg := MapKept.run_getObj_map (P := P) e2
  have hc := fun b => K.chk b k w
  have g4 : (Builtin.delete_ #[t, kt'] o.type #[.map (some b), vOf (ek k)]).run P w = .ok (.tuple #[]) { w with heap := w.heap.setIfInBounds b (.map ((delX k m).map (entryOf ek ev)).toArray c) } := by
    rcases run_found (ev := ev) K m k w with ⟨h1, h2, h3⟩ | ⟨j, x, h1, h2, h3, h4, h5⟩
    · rw [delX_idx, h3]
      simp [Builtin.delete_, run_underlying ht, hg, hc, h2, MapKept.run_setObj_map _ e2]
    · have hj := (List.getElem?_eq_some_iff.1 h4).1
      have e : ((delX k m).map (entryOf ek ev)).toArray = (m.map (entryOf ek ev)).toArray.eraseIdxIfInBounds j := by
        rw [delX_idx, h3]
        unfold Array.eraseIdxIfInBounds
        rw [dif_pos (by simpa using hj)]
        apply Array.ext'
        simp [eraseIdx_map']
      rw [e]
      simp [Builtin.delete_, run_underlying ht, hg, hc, h2, MapKept.run_setObj_map _ e2]
  have hrun : (execOp ev' o).run P w = .ok (.value (.tuple #[])) { w with heap := w.heap.setIfInBounds b (.map ((delX k m).map (entryOf ek ev)).toArray c) } := by simp [execOp, ho, resolve, invoke, builtin, e'.1, e'.2, g4]
  rw [hrun]
  obtain ⟨S1, E1⟩ := En.upd (o' := mapO ek ev (delX k m) c) hi' rfl e1 (grown_mp e2) ⟨b, _, .inr rfl, (MapKept.heap_set e2).1, rfl⟩
  exact ⟨F, ρ, S1, Keep.refl _, E1, .tup .nil⟩
theorem mp_len (ht : P.underlying t = some (.map kt et)) (hi : L[i]? = some (mapO ek ev m c)) :
    Does P (.call { callee := .builtin .len, args := #[mx], argTypes := #[t] }) ty L n [.mp i] ⟨[i], [], []⟩ (.d (.v (.int .i64 m.length))) := by
  intro o H F ρ w ev' ho _ En hrs hn hx
  have hops : (Op.operands (.call { callee := .builtin .len, args := #[mx], argTypes := #[t] })).toList = [mx] := by simp [Op.operands, Call.operands]
  rw [hops] at hx
  obtain ⟨u, e', hu⟩ := hx.one_out
  simp at e'
  have hi' : H i = some (mapO ek ev m c) := by rw [hrs i (by simp)]; exact hi
  obtain ⟨b, rfl, e1, e2⟩ := En.mapAt hi' hu
  have hg := MapKept.run_getObj_map (P := P) e2
  have hrun : (execOp ev' o).run P w = .ok (.value (.int .i64 m.length)) w := by simp [execOp, ho, resolve, invoke, builtin, e', Builtin.len_, run_underlying ht, hg, goInt]
  rw [hrun]
  exact Post.same En (.d (.v _))
end
/-! ### kinds of keys -/
section
variable {P : Program} {κ : Type} [DecidableEq κ] {kt : TypeId}
theorem findNow_list {d : TypeDesc} {kv : Value} {f : κ → Value} {k : κ} (hs : ∀ x, Instr.sameNow d kv (f x) = some (decide (x = k))) : ∀ (ks : List κ) (es : List MapEntry) (i : Nat), es.map (·.key) = ks.map f → Instr.findNow d kv es i = some ((ks.findIdx? fun x => decide (x = k)).bind fun j => (es[j]?).map fun e => (i + j, e.val))
  | [], es, i, h => by
    have : es = [] := by simpa using h
    subst this; rfl
  | x :: ks, [], i, h => by simp at h
  | x :: ks, e :: es, i, h => by
    simp only [List.map_cons, List.cons.injEq] at h
    rw [Instr.findNow, h.1, hs x, List.findIdx?_cons]
    by_cases hk : x = k
    · simp [hk]
    · simp only [hk, decide_false, Bool.false_eq_true, if_false]
      rw [findNow_list hs ks es (i + 1) h.2]
      cases ks.findIdx? fun x => decide (x = k) with
      | none => rfl
      | some j => simp; congr 1; funext e; congr 1; omega
theorem findAsk_list {kv : Value} {f : κ → Value} {k : κ} {w : World} (hs : ∀ x, (Op.equal kt kv (f x)).run P w = .ok (decide (x = k)) w) : ∀ (ks : List κ) (es : List MapEntry) (i : Nat), es.map (·.key) = ks.map f → (Instr.findAsking kt kv es i).run P w = .ok ((ks.findIdx? fun x => decide (x = k)).bind fun j => (es[j]?).map fun e => (i + j, e.val)) w
  | [], es, i, h => by
    have : es = [] := by simpa using h
    subst this; simp [Instr.findAsking]
  | x :: ks, [], i, h => by simp at h
  | x :: ks, e :: es, i, h => by
    simp only [List.map_cons, List.cons.injEq] at h
    rw [Instr.findAsking, h.1]
    simp only [Sem.run_bind, hs x, Result.andThen_ok, List.findIdx?_cons]
    by_cases hk : x = k
    · simp [hk]
    · simp only [hk, decide_false, Bool.false_eq_true, if_false]
      rw [findAsk_list hs ks es (i + 1) h.2]
      cases ks.findIdx? fun x => decide (x = k) with
      | none => rfl
      | some j => simp; congr 1; funext e; congr 1; omega
def intD (q : IntKind) (z : Int) : D := .v (.int q z)
theorem key_int {q : IntKind} (hk : P.underlying kt = some (.int q)) : KeyT P kt (intD q) where
  cl _ := rfl
  chk b k w := MapKept.run_checkKey hk (show MapKept.IsKey (.int q) (.int q k) from rfl) b 9999
  fnd k ks es w h := by
    have := findNow_list (d := .int q) (kv := .int q k) (f := fun k => vOf (intD q k)) (k := k) (fun x => by
      show (if q = q then some (k == x) else none) = _
      rw [if_pos rfl]
      congr 1
      rw [Bool.eq_iff_iff]
      simp only [beq_iff_eq, decide_eq_true_eq]
      exact eq_comm) ks es 0 h
    simp only [Nat.zero_add] at this
    exact MapKept.run_findKey hk this
  same k := by simp [vOf, intD, Instr.sameBits]
def strD (s : ByteArray) : D := .v (.string s)
theorem key_str [DecidableEq ByteArray] (hk : P.underlying kt = some .string) : KeyT P kt strD where
  cl _ := rfl
  chk b k w := MapKept.run_checkKey hk (by trivial) b 9999
  fnd k ks es w h := by
    have := findNow_list (d := .string) (kv := .string k) (f := fun k => vOf (strD k)) (k := k) (fun x => by
      simp only [Instr.sameNow, vOf, strD]
      congr 1
      rw [Bool.eq_iff_iff, MapKept.bytes_beq]
      simp [eq_comm]) ks es 0 h
    simp only [Nat.zero_add] at this
    exact MapKept.run_findKey hk this
  same k := by simp [vOf, strD, Instr.sameBits, MapKept.bytes_beq]
theorem check_flat {em : Bool} {n : Nat} {us : Array Value} {w : World} : ∀ {fs : List Field} {o : Nat} {ks : List Nat} {xs : List D}, flatGo P fs o ks = true → eqL ks xs xs ≠ none → (∀ j, j < xs.length → us[o + j]? = some (unD (xs.getD j (.v undef)))) →
    (forIn (m := Sem) fs PUnit.unit fun f _ => do
        if f.name ≠ "_" then Instr.checkKey em (n + 1) f.type (← part f.type us f.offset)
        pure (ForInStep.yield PUnit.unit)).run P w = .ok PUnit.unit w
  | [], _, _, _, _, _, _ => by simp
  | f :: fs, o, [], _, hg, _, _ => by simp [flatGo] at hg
  | f :: fs, o, k :: ks, xs, hg, h, hu => by
    obtain ⟨b, hb⟩ := Option.ne_none_iff_exists'.1 h
    obtain ⟨x, xs, y, ys, a, c, rfl, e2, ha, hc, _⟩ := eqL_cons hb
    injection e2 with e2 e3
    subst e2 e3
    simp only [flatGo, Bool.and_eq_true, bne_iff_ne, Nat.blt_eq] at hg
    obtain ⟨⟨⟨⟨h1, h2⟩, h3⟩, h4⟩, h5⟩ := hg
    have h2 := Nat.eq_of_beq_eq_true h2
    have h3 := Nat.eq_of_beq_eq_true h3
    have p1 := part_tag (w := w) h3 h4 (hu 0 (by simp))
    rw [Nat.add_zero, ← h2] at p1
    have p2 : (Instr.checkKey em (n + 1) f.type (unD ((x :: xs).getD 0 (.v undef)))).run P w = .ok () w := by
      have e1 : (x :: xs).getD 0 (.v undef) = x := rfl
      rw [e1]
      rcases eqV_out ha with ⟨rfl, q, a, c, rfl, _⟩ | ⟨rfl, a, c, rfl, _⟩ | ⟨rfl, a, c, rfl, _⟩
      · obtain ⟨k, hk⟩ := tagT_one h3
        simp [unD, Instr.checkKey, run_underlying hk]
      · simp [unD, Instr.checkKey, run_underlying (tagT_two h3)]
      · simp [unD, Instr.checkKey, run_underlying (tagT_three h3)]
    have ih := check_flat (em := em) (n := n) (us := us) (w := w) h5 (by rw [hc]; simp) (fun j hj => by have := hu (j + 1) (by simpa using hj); rw [show o + 1 + j = o + (j + 1) by omega, this]; rfl)
    simp only [List.forIn_cons, Sem.run_bind, h1, ne_eq, not_false_eq_true, if_true, Result.andThen_ok, p1, p2, Sem.run_pure]
    exact ih
theorem closed_unD {ks : List Nat} {xs : List D} (h : eqL ks xs xs ≠ none) : closedC xs = true ∧ xs = xs.map (fun x => .v (unD x)) ∧ Instr.sameBits 10000 (.agg (xs.map unD).toArray) (.agg (xs.map unD).toArray) = true := by
  obtain ⟨b, hb⟩ := Option.ne_none_iff_exists'.1 h
  have key : ∀ {ks : List Nat} {xs : List D} {b : Bool}, eqL ks xs xs = some b → closedC xs = true ∧ ((xs.map unD).zip (xs.map unD)).all (fun (x, y) => Instr.sameBits 9999 x y) = true := by
    intro ks
    induction ks with
    | nil => intro xs b h; obtain ⟨rfl, _, _⟩ := eqL_nil h; exact ⟨rfl, rfl⟩
    | cons k ks ih =>
      intro xs b h
      obtain ⟨x, xs, y, ys, a, c, rfl, e2, ha, hc, _⟩ := eqL_cons h
      injection e2 with e2 e3
      subst e2 e3
      obtain ⟨q1, q2⟩ := ih hc
      rcases eqV_out ha with ⟨rfl, q, a, c, rfl, _⟩ | ⟨rfl, a, c, rfl, _⟩ | ⟨rfl, a, c, rfl, _⟩
      · exact ⟨by simpa [closedC, Value.oneCell'] using q1, by simpa [unD, Instr.sameBits] using q2⟩
      · exact ⟨by simpa [closedC, Value.oneCell'] using q1, by simpa [unD, Instr.sameBits] using q2⟩
      · exact ⟨by simpa [closedC, Value.oneCell'] using q1, by simpa [unD, Instr.sameBits, MapKept.bytes_beq] using q2⟩
  obtain ⟨h1, h2⟩ := key hb
  exact ⟨h1, (eqL_unD hb).1, by simpa [Instr.sameBits] using h2⟩
/-- Structs of numbers, truth values and strings. -/
theorem key_flat (ks : List Nat) {f : κ → List D} (ht : flatB P kt ks = true) (h : ∀ a b, eqL ks (f a) (f b) = some (decide (b = a))) : KeyT P kt (fun k => .agg (f k)) where
  cl k := (closed_unD (by rw [h k k]; simp)).1
  chk b k w := by
    have ht' := ht
    unfold flatB at ht
    split at ht
    · rename_i fs hfs
      simp only [Bool.and_eq_true, Bool.not_eq_true'] at ht
      have := check_flat (em := b) (n := 9998) (us := ((f k).map unD).toArray) (w := w) ht.2 (xs := f k) (by rw [h k k]; simp) (fun j hj => by simp [hj, List.getD])
      rw [show vOf (.agg (f k)) = .agg ((f k).map unD).toArray from rfl, Instr.checkKey]
      simp only [Sem.run_bind, run_underlying hfs, Result.andThen_ok]
      rw [← Array.forIn_toList]
      simp at this ⊢
      rw [this]
      rfl
    · cases ht
  fnd k ks' es w he := by
    have hw : (Instr.findKey kt (vOf (.agg (f k))) es).run P w = (Instr.findAsking kt (vOf (.agg (f k))) es).run P w := by
      refine run_findKey_eq w ?_ _ _
      unfold flatB at ht
      split at ht
      · rename_i hfs; rw [hfs]
      · cases ht
    rw [hw]
    have := findAsk_list (P := P) (kt := kt) (kv := vOf (.agg (f k))) (f := fun k => vOf (.agg (f k))) (k := k) (w := w) (fun x => by
      have q : ∀ k, RA w (fun _ => False) (fun _ => none) (.d (.agg (f k))) (vOf (.agg (f k))) := fun k => FlatW.ra (.d (closed_flat (closed_unD (by rw [h k k]; simp)).1))
      obtain ⟨us, vs, e1, e2, _, hr⟩ := run_flat (P := P) (w := w) ht (h k x) (q k) (q x)
      exact hr) ks' es 0 he
    simpa using this
  same k := (closed_unD (by rw [h k k]; simp)).2.2
end
end Go.Proofs.Ytefidbifgilekaa
/- Ranges over maps of the call's own that nothing is put into meanwhile. No program is named here. -/
namespace Go.Proofs.Ytefidbifgilekaa
set_option linter.unusedSimpArgs false
set_option linter.unusedVariables false
open Go.RowKit
set_option linter.unusedSectionVars false
section
variable {P : Program} {w w' : World} {F F' : Nat → Prop} {ρ ρ' : Nat → Option Value} {H : Hp} {L : List AObj} {ty n : Nat} {κ ν : Type} [DecidableEq κ] {ek : κ → D} {ev : ν → D} {m : Es κ ν} {c : Nat} {t kt et : TypeId} {i j : Nat} {k : κ} {v : ν} {mx kx vx : Operand}
/-! ### ranges -/
/-- An iterator over the map i: entries laid before 'since' were there, those born at 'seen' have come, 'last' is the clock of the last step. -/
def itP (since : Nat) (seen : List Nat) (last : Nat) (u : Value) (o : Obj) : Prop := ∃ g, u = .map (some g) ∧ o = .mapIter (some g) since seen.toArray last
abbrev itO (i since : Nat) (seen : List Nat) (last : Nat) : AObj := .iter (.mp i) (itP since seen last)
theorem mp_range (ht : P.underlying t = some (.map kt et)) (hi : L[i]? = some (mapO ek ev m c)) : Does P (.range t mx) ty L n [.mp i] ⟨[i], [], [itO i c [] c]⟩ (.ptr n 0) := by
  intro o H F ρ w ev' ho _ En hrs hn hx
  obtain ⟨u, e', hu⟩ := hx.one_out
  simp [Op.operands] at e'
  have hi' : H i = some (mapO ek ev m c) := by rw [hrs i (by simp)]; exact hi
  have hn0 : H n = none := by simpa using hn 0 (by simp)
  obtain ⟨b, rfl, e1, e2⟩ := En.mapAt hi' hu
  have hg := MapKept.run_getObj_map (P := P) e2
  have hrun : (execOp ev' o).run P w = .ok (.value (.pointer (some ⟨w.heap.size, 0, none⟩))) (w.alloc (.mapIter (some b) c #[] c)) := by
    simp only [execOp, ho, e', Instr.range, Sem.run_bind, run_underlying ht, hg, Result.andThen_ok]
    rfl
  rw [hrun]
  have hkp := keep_upd (x := (.pointer (some ⟨w.heap.size, 0, none⟩) : Value)) (En.abs n hn0)
  obtain ⟨S1, K1, E1⟩ := En.new (n := n) (o' := itO i c [] c) (h := .pointer (some ⟨w.heap.size, 0, none⟩)) hn0 (World.grownBy_alloc w (.mapIter (some b) c #[] c) none) (fun b hb => by simp [blkOf] at hb; subst hb; exact ⟨Nat.le_refl _, alloc_lt _ _⟩)
    ⟨w.heap.size, .mapIter (some b) c #[] c, .map (some b), rfl, (MapKept.heap_alloc w _).1, .mp (hkp _ _ e1), b, rfl, rfl⟩
  exact ⟨F, _, S1, K1, E1, .ptr (updF_same _ _ _)⟩
/-- The iterator behind a handle, and its map. -/
theorem Env.itAt (E : Env F ρ H w) {since : Nat} {seen : List Nat} {last : Nat} (hj : H j = some (itO i since seen last)) (hi : H i = some (mapO ek ev m c)) {u : Value} (hu : RA w F ρ (.ptr j 0) u) :
    ∃ g b, u = .pointer (some ⟨g, 0, none⟩) ∧ ρ j = some (.pointer (some ⟨g, 0, none⟩)) ∧ w.heap[g]? = some (.mapIter (some b) since seen.toArray last) ∧ ρ i = some (.map (some b)) ∧ w.heap[b]? = some (.map (m.map (entryOf ek ev)).toArray c) := by
  cases hu with | ptr hρ =>
    rename_i g
    obtain ⟨hh, e1, ⟨g', o, v, hg, ho, hx, b, rfl, rfl⟩, e3⟩ := E.rep j _ hj rfl
    rw [hρ] at e1; injection e1 with e1; subst e1
    simp at hg; subst hg
    obtain ⟨b', q1, q2, q3⟩ := E.mapAt hi hx
    injection q1 with q1; injection q1 with q1; subst q1
    exact ⟨_, _, rfl, hρ, ho, q2, q3⟩
/-- The next step of a range over a map that nothing is put into: an entry that has not come, or the end. -/
def nextR (m : Es κ ν) (seen : List Nat) : Option (κ × ν × Nat) → Prop
  | none => ∀ p ∈ m, p.2.2 ∈ seen
  | some p => p ∈ m ∧ p.2.2 ∉ seen
def nextW (j i since : Nat) (seen : List Nat) (c : Nat) : Option (κ × ν × Nat) → List (Nat × AObj)
  | none => []
  | some p => [(j, itO i since (seen ++ [p.2.2]) c)]
def nextV (ek : κ → D) (ev : ν → D) : Option (κ × ν × Nat) → AV
  | none => .tup [.d (.v (.bool false))]
  | some p => .tup [.d (.v (.bool true)), .d (ek p.1), .d (ev p.2.1)]
/-- The next step of a range over a map that nothing is put into, as a run. -/
theorem run_next_mp {g b since : Nat} {seen : List Nat} {last : Nat} (q2 : w.heap[g]? = some (.mapIter (some b) since seen.toArray last)) (q4 : w.heap[b]? = some (.map (m.map (entryOf ek ev)).toArray c)) (h1 : ∀ p ∈ m, p.2.2 < since) (h2 : seen = [] ∨ ∀ p ∈ m, p.2.2 < last) :
    ∃ y w1, nextR m seen y ∧ (w1 = w ∨ w1 = w.drew) ∧ (Instr.next (.pointer (some ⟨g, 0, none⟩)) false ty).run P w = (match y with
      | none => .ok (.tuple #[.bool false]) w1
      | some p => .ok (.tuple #[.bool true, vOf (ek p.1), vOf (ev p.2.1)]) { w1 with heap := w1.heap.setIfInBounds g (.mapIter (some b) since (seen ++ [p.2.2]).toArray c) }) := by
  have hg1 : (getObj g).run P w = .ok (.mapIter (some b) since seen.toArray last) w := by simp [getObj, Sem.run, q2]
  have hg2 := MapKept.run_getObj_map (P := P) q4
  have hguard : (!seen.toArray.isEmpty && !(m.map (entryOf ek ev)).toArray.isEmpty && (m.map (entryOf ek ev)).toArray.all (·.born ≥ last)) = false := by
    rcases h2 with rfl | h2
    · simp
    · cases m with
      | nil => simp
      | cons p r =>
        have := h2 p (List.mem_cons_self ..)
        simp [entryOf]
        intro _ h; omega
  have hleft : ((m.map (entryOf ek ev)).toArray.filter fun e => !seen.toArray.contains e.born) = ((m.filter fun p => !seen.contains p.2.2).map (entryOf ek ev)).toArray := by
    apply Array.ext'
    simp only [List.filter_toArray, List.filter_map, Function.comp_def, entryOf, List.contains_toArray]
  generalize hml : (m.filter fun p => !seen.contains p.2.2) = ml at hleft
  have hmem : ∀ p, p ∈ ml ↔ p ∈ m ∧ p.2.2 ∉ seen := fun p => by rw [← hml]; simp
  have hold : ((ml.map (entryOf ek ev)).toArray.filter (·.born < since)) = (ml.map (entryOf ek ev)).toArray := by
    apply Array.ext'
    simp only [List.filter_toArray]
    rw [List.filter_eq_self]
    intro a ha
    obtain ⟨p, hp, rfl⟩ := List.mem_map.1 ha
    exact decide_eq_true (h1 p ((hmem p).1 hp).1)
  have hnew : ((ml.map (entryOf ek ev)).toArray.filter (·.born ≥ since)) = #[] := by
    apply Array.ext'
    simp only [List.filter_toArray]
    rw [List.filter_eq_nil_iff]
    intro a ha
    obtain ⟨p, hp, rfl⟩ := List.mem_map.1 ha
    have := h1 p ((hmem p).1 hp).1
    simpa [entryOf] using this
  have hrun : ∃ q w2, ((ml = [] ∧ q = some none) ∨ ∃ p ∈ ml, q = some (some (entryOf ek ev p))) ∧ (w2 = w ∨ w2 = w.drew) ∧ (Instr.next (.pointer (some ⟨g, 0, none⟩)) false ty).run P w = ((match q with
        | some (some e) => do
          setObj g (.mapIter (some b) since (seen.toArray.push e.born) c)
          pure (.tuple #[.bool true, e.key, e.val])
        | some none => pure (.tuple #[.bool false])
        | none => stuck "Next: no such candidate" : Sem Value)).run P w2 := by
    have hcand : ∀ x, ((if (ml.map (entryOf ek ev)).toArray.isEmpty then #[none] else #[]) ++ ((ml.map (entryOf ek ev)).toArray ++ #[]).map some : Array (Option MapEntry))[x]? = if ml = [] then (if x = 0 then some none else none) else (ml[x]?).map fun p => some (entryOf ek ev p) := by
      intro x
      by_cases h : ml = []
      · subst h
        cases x <;> simp
      · have : (ml.map (entryOf ek ev)).toArray.isEmpty = false := by simp [h]
        rw [this]
        simp [h]
        cases ml[x]? <;> rfl
    have hsize : ((if (ml.map (entryOf ek ev)).toArray.isEmpty then #[none] else #[]) ++ ((ml.map (entryOf ek ev)).toArray ++ #[]).map some : Array (Option MapEntry)).size = if ml = [] then 1 else ml.length := by
      by_cases h : ml = []
      · subst h; simp
      · have : (ml.map (entryOf ek ev)).toArray.isEmpty = false := by simp [h]
        rw [this]
        simp [h]
    have key : ∃ x w2, x < (if ml = [] then 1 else ml.length) ∧ (w2 = w ∨ w2 = w.drew) ∧ (choose (.mapNext (if ml = [] then 1 else ml.length))).run P w = .ok x w2 := by
      have hpos : 0 < (if ml = [] then 1 else ml.length) := by
        split
        · omega
        · rename_i h; exact List.length_pos_iff.2 h
      by_cases hf : (Question.mapNext (if ml = [] then 1 else ml.length)).forced = true
      · exact ⟨0, w, hpos, .inl rfl, by simp only [choose, Sem.run, hf, if_true]⟩
      · refine ⟨(Question.mapNext (if ml = [] then 1 else ml.length)).cut (w.tape w.drawn (.mapNext (if ml = [] then 1 else ml.length))), w.drew, Nat.mod_lt _ hpos, .inr rfl, ?_⟩
        simp only [choose, Sem.run, hf]
        rfl
    obtain ⟨x, w2, hx1, hx2, hx3⟩ := key
    refine ⟨((if (ml.map (entryOf ek ev)).toArray.isEmpty then #[none] else #[]) ++ ((ml.map (entryOf ek ev)).toArray ++ #[]).map some : Array (Option MapEntry))[x]?, w2, ?_, hx2, ?_⟩
    rotate_left
    · simp only [Instr.next, Sem.run_bind, hg1, hg2, Result.andThen_ok, hguard, Bool.false_eq_true, if_false, hleft, hold, hnew, hsize, hx3]
      rfl
    · rw [hcand]
      by_cases h : ml = []
      · rw [if_pos h] at hx1 ⊢
        exact .inl ⟨h, by simp; omega⟩
      · rw [if_neg h] at hx1 ⊢
        exact .inr ⟨ml[x], List.getElem_mem _, by simp [List.getElem?_eq_getElem hx1]⟩
  obtain ⟨q, w2, h3, h4, h5⟩ := hrun
  have q2' : w2.heap[g]? = some (.mapIter (some b) since seen.toArray last) := by rcases h4 with rfl | rfl <;> exact q2
  rcases h3 with ⟨hq, rfl⟩ | ⟨p, hp', rfl⟩
  · refine ⟨none, w2, fun p hp => Classical.byContradiction fun hn => ?_, h4, ?_⟩
    · have h6 := (hmem p).2 ⟨hp, hn⟩
      rw [hq] at h6
      simp at h6
    · rw [h5]; rfl
  · refine ⟨some p, w2, (hmem p).1 hp', h4, ?_⟩
    have hset : (setObj g (.mapIter (some b) since (seen.toArray.push (entryOf ek ev p).born) c)).run P w2 = .ok () { w2 with heap := w2.heap.setIfInBounds g (.mapIter (some b) since (seen.toArray.push (entryOf ek ev p).born) c) } := by simp [setObj, Sem.run, q2']
    have hpush : seen.toArray.push (entryOf ek ev p).born = (seen ++ [p.2.2]).toArray := by simp [entryOf]
    rw [h5]
    simp only [Sem.run_bind, hset, Sem.run_pure, Result.andThen_ok]
    rw [hpush]
    rfl
theorem mp_next {since : Nat} {seen : List Nat} {last : Nat} {it : Operand} (hk : ∀ k, closedD (ek k) = true) (hv : ∀ x, closedD (ev x) = true) (hj : L[j]? = some (itO i since seen last)) (hi : L[i]? = some (mapO ek ev m c)) (h1 : ∀ p ∈ m, p.2.2 < since) (h2 : seen = [] ∨ ∀ p ∈ m, p.2.2 < last) :
    DoesN P (.next it false) ty L [.ptr j 0] (nextR m seen) (nextW j i since seen c) (nextV ek ev) := by
  intro o F ρ w ev' ho _ En hx
  obtain ⟨u, e', hu⟩ := hx.one_out
  simp [Op.operands] at e'
  obtain ⟨g, b, rfl, q1, q2, q3, q4⟩ := En.itAt (H := hp L) hj hi hu
  obtain ⟨y, w2, hy, hw2, hr⟩ := run_next_mp (P := P) (ty := o.type) q2 q4 h1 h2
  refine ⟨y, hy, ?_⟩
  have hS : Step F ρ (hp L) w F ρ (hp L) w2 ∧ Env F ρ (hp L) w2 := by
    rcases hw2 with rfl | rfl
    · exact ⟨Step.refl _ _ _ _, En⟩
    · exact ⟨Step.drew _ _ _ _, En.drew⟩
  have q2' : w2.heap[g]? = some (.mapIter (some b) since seen.toArray last) := by rcases hw2 with rfl | rfl <;> exact q2
  have hrun : (execOp ev' o).run P w = ((Instr.next (.pointer (some ⟨g, 0, none⟩)) false o.type).run P w).andThen fun v w' => .ok (.value v) w' := by
    simp only [execOp, ho, e', Sem.run_bind]
    rfl
  rw [hrun, hr]
  cases y with
  | none => exact ⟨F, ρ, hS.1, Keep.refl _, hS.2, FlatW.ra (.tup (.cons (.d (.v _)) .nil))⟩
  | some p =>
    obtain ⟨S1, E1⟩ := hS.2.upd (i := j) (o' := itO i since (seen ++ [p.2.2]) c) hj rfl q1 (grown_mp (o' := .mapIter (some b) since (seen ++ [p.2.2]).toArray c) q2') ⟨g, _, .map (some b), rfl, (MapKept.heap_set q2').1, .mp q3, b, rfl, rfl⟩
    exact ⟨F, ρ, hS.1.trans S1, Keep.refl _, E1, FlatW.ra (.tup (.cons (.d (.v _)) (.cons (.d (closed_flat (hk _))) (.cons (.d (closed_flat (hv _))) .nil))))⟩
/-- What stands at the step. -/
theorem mp_entry {since : Nat} {seen : List Nat} {it : Operand} (hk : ∀ k, closedD (ek k) = true) (hv : ∀ x, closedD (ev x) = true) {p : κ × ν × Nat} (hp : (m.find? fun q => q.2.2 == p.2.2) = some p) (hj : L[j]? = some (itO i since (seen ++ [p.2.2]) c)) (hi : L[i]? = some (mapO ek ev m c)) :
    Does P (.entry it) ty L n [.ptr j 0] ⟨[i, j], [], []⟩ (.tup [.d (ek p.1), .d (ev p.2.1)]) := by
  intro o H F ρ w ev' ho _ En hrs hn hx
  obtain ⟨u, e', hu⟩ := hx.one_out
  simp [Op.operands] at e'
  have hi' : H i = some (mapO ek ev m c) := by rw [hrs i (by simp)]; exact hi
  have hj' : H j = some (itO i since (seen ++ [p.2.2]) c) := by rw [hrs j (by simp)]; exact hj
  obtain ⟨g, b, rfl, q1, q2, q3, q4⟩ := En.itAt hj' hi' hu
  have hg1 : (getObj g).run P w = .ok (.mapIter (some b) since (seen ++ [p.2.2]).toArray c) w := by simp [getObj, Sem.run, q2]
  have hg2 := MapKept.run_getObj_map (P := P) q4
  have hb : (seen ++ [p.2.2]).toArray.back? = some p.2.2 := by simp
  have hf : (m.map (entryOf ek ev)).toArray.find? (fun e => e.born == p.2.2) = some (entryOf ek ev p) := by
    rw [List.find?_toArray, List.find?_map]
    rw [show ((fun e : MapEntry => e.born == p.2.2) ∘ entryOf ek ev) = fun q => q.2.2 == p.2.2 from rfl, hp]
    rfl
  have hrun : (execOp ev' o).run P w = .ok (.value (.tuple #[vOf (ek p.1), vOf (ev p.2.1)])) w := by
    simp only [execOp, ho, e', Instr.entry, Sem.run_bind, hg1, hg2, Result.andThen_ok, hb, hf]
    simp [entryOf]
  rw [hrun]
  exact Post.same En (FlatW.ra (.tup (.cons (.d (closed_flat (hk _))) (.cons (.d (closed_flat (hv _))) .nil))))
end
end Go.Proofs.Ytefidbifgilekaa
/- ledger: the keys of a map, one after the other. -/
namespace Go.Proofs.Ytefidbifgilekaa
open Go.RowKit Go.Sort
set_option linter.unusedVariables false
set_option linter.unusedSimpArgs false
/-! ### operations of a range over a map, inside of a fence -/
section
variable {P : Program} {F : Fence} {n : Nat} {w : World} {ops : Array Oper} {rest : List Oper} {op : Oper} {a : Act} {Q : Exit → Act → World → Prop} {κ ν : Type} [DecidableEq κ] {ek : κ → D} {ev : ν → D} {m : Es κ ν} {c : Nat} {t kt et : TypeId}
theorem wpListIn_range_mp {b : Nat} {x : Operand} (hgd : op.guard = none) (ho : op.op = .range t x) (hx : a.eval x = .map (some b)) (ht : P.underlying t = some (.map kt et)) {es : Array MapEntry} (hb : w.heap[b]? = some (.map es c))
    (h : wpListIn F n P ops Q rest (a.put op.dst (.pointer (some ⟨w.heap.size, 0, none⟩))) (w.alloc (.mapIter (some b) c #[] c))) : wpListIn F n P ops Q (op :: rest) a w :=
  wpListIn_plain hgd fun _ hK => by
    refine ⟨fun f hf => by simp [Oper.about, ho] at hf, ?_⟩
    rw [Oper.semAt_eq _ _ _ (fun c h => by rw [ho] at h; cases h)]
    have hg := MapKept.run_getObj_map (P := P) hb
    have hr : (execOp a.eval op).run P w = .ok (.value (.pointer (some ⟨w.heap.size, 0, none⟩))) (w.alloc (.mapIter (some b) c #[] c)) := by
      simp only [execOp, ho, hx, Instr.range, Sem.run_bind, run_underlying ht, hg, Result.andThen_ok]
      rfl
    rw [hr]
    exact hK _ _ h
theorem wpListIn_next_mp {g b since last : Nat} {seen : List Nat} {it : Operand} (hgd : op.guard = none) (ho : op.op = .next it false) (hx : a.eval it = .pointer (some ⟨g, 0, none⟩)) (q2 : w.heap[g]? = some (.mapIter (some b) since seen.toArray last)) (q4 : w.heap[b]? = some (.map (m.map (entryOf ek ev)).toArray c)) (h1 : ∀ p ∈ m, p.2.2 < since) (h2 : seen = [] ∨ ∀ p ∈ m, p.2.2 < last)
    (h : ∀ w1, (w1 = w ∨ w1 = w.drew) → ((∀ p ∈ m, p.2.2 ∈ seen) → wpListIn F n P ops Q rest (a.put op.dst (.tuple #[.bool false])) w1) ∧
      ∀ p ∈ m, p.2.2 ∉ seen → wpListIn F n P ops Q rest (a.put op.dst (.tuple #[.bool true, vOf (ek p.1), vOf (ev p.2.1)])) { w1 with heap := w1.heap.setIfInBounds g (.mapIter (some b) since (seen ++ [p.2.2]).toArray c) }) : wpListIn F n P ops Q (op :: rest) a w :=
  wpListIn_plain hgd fun _ hK => by
    refine ⟨fun f hf => by simp [Oper.about, ho] at hf, ?_⟩
    rw [Oper.semAt_eq _ _ _ (fun c h => by rw [ho] at h; cases h)]
    obtain ⟨y, w1, hy, hw1, hr⟩ := run_next_mp (P := P) (ty := op.type) q2 q4 h1 h2
    have hrun : (execOp a.eval op).run P w = ((Instr.next (.pointer (some ⟨g, 0, none⟩)) false op.type).run P w).andThen fun v w' => .ok (.value v) w' := by
      simp only [execOp, ho, hx, Sem.run_bind]
      rfl
    rw [hrun, hr]
    cases y with
    | none => exact hK _ _ ((h w1 hw1).1 hy)
    | some p => exact hK _ _ ((h w1 hw1).2 p hy.1 hy.2)
theorem wpListIn_next_ok {it : Operand} {x v : Value} {w1 : World} (hgd : op.guard = none) (ho : op.op = .next it false) (hx : a.eval it = x) (hr : (Instr.next x false op.type).run P w = .ok v w1)
    (h : wpListIn F n P ops Q rest (a.put op.dst v) w1) : wpListIn F n P ops Q (op :: rest) a w :=
  wpListIn_plain hgd fun _ hK => by
    refine ⟨fun f hf => by simp [Oper.about, ho] at hf, ?_⟩
    rw [Oper.semAt_eq _ _ _ (fun c h => by rw [ho] at h; cases h)]
    have hrun : (execOp a.eval op).run P w = .ok (.value v) w1 := by
      simp only [execOp, ho, hx, Sem.run_bind, hr, Result.andThen_ok]
      rfl
    rw [hrun]
    exact hK _ _ h
omit [DecidableEq κ] in
theorem wpListIn_entry_mp {g b since : Nat} {seen : List Nat} {it : Operand} (hgd : op.guard = none) (ho : op.op = .entry it) (hx : a.eval it = .pointer (some ⟨g, 0, none⟩)) {p : κ × ν × Nat} (hp : (m.find? fun q => q.2.2 == p.2.2) = some p) (q2 : w.heap[g]? = some (.mapIter (some b) since (seen ++ [p.2.2]).toArray c)) (q4 : w.heap[b]? = some (.map (m.map (entryOf ek ev)).toArray c)) {vk vv : Value} (hvk : vOf (ek p.1) = vk) (hvv : vOf (ev p.2.1) = vv)
    (h : wpListIn F n P ops Q rest (a.put op.dst (.tuple #[vk, vv])) w) : wpListIn F n P ops Q (op :: rest) a w :=
  wpListIn_plain hgd fun _ hK => by
    subst hvk hvv
    refine ⟨fun f hf => by simp [Oper.about, ho] at hf, ?_⟩
    rw [Oper.semAt_eq _ _ _ (fun c h => by rw [ho] at h; cases h)]
    have hg1 : (getObj g).run P w = .ok (.mapIter (some b) since (seen ++ [p.2.2]).toArray c) w := by simp [getObj, Sem.run, q2]
    have hg2 := MapKept.run_getObj_map (P := P) q4
    have hb : (seen ++ [p.2.2]).toArray.back? = some p.2.2 := by simp
    have hf : (m.map (entryOf ek ev)).toArray.find? (fun e => e.born == p.2.2) = some (entryOf ek ev p) := by
      rw [List.find?_toArray, List.find?_map]
      rw [show ((fun e : MapEntry => e.born == p.2.2) ∘ entryOf ek ev) = fun q => q.2.2 == p.2.2 from rfl, hp]
      rfl
    have hrun : (execOp a.eval op).run P w = .ok (.value (.tuple #[vOf (ek p.1), vOf (ev p.2.1)])) w := by
      simp only [execOp, ho, hx, Instr.entry, Sem.run_bind, hg1, hg2, Result.andThen_ok, hb, hf]
      simp [entryOf]
    rw [hrun]
    exact hK _ _ h
end
/-! ### ids and verdicts -/
def eI (x : Id3) : D := .agg (idR x)
abbrev Ver := Int × Int
def eV (v : Ver) : D := .agg [iD v.1, iD v.2]
theorem eI_cl (x : Id3) : closedD (eI x) = true := rfl
theorem eV_cl (v : Ver) : closedD (eV v) = true := rfl
theorem keyI : KeyT Try.prog 31 eI := key_flat [1, 1, 1] (by kernel_rfl) fun a b => by
  obtain ⟨a1, a2, a3⟩ := a
  obtain ⟨b1, b2, b3⟩ := b
  show some (a1 == b1 && (a2 == b2 && a3 == b3)) = _
  congr 1
  rw [Bool.eq_iff_iff]
  simp only [Bool.and_eq_true, beq_iff_eq, decide_eq_true_eq, Prod.mk.injEq]
  constructor <;> (rintro ⟨h1, h2, h3⟩; exact ⟨h1.symm, h2.symm, h3.symm⟩)
abbrev Led := Es Id3 Ver
/-- A map's entries bear numbers of their own, below its clock. -/
def fresh (m : Led) (c : Nat) : Prop := (m.map (·.2.2)).Nodup ∧ ∀ p ∈ m, p.2.2 < c
theorem find_born {m : Led} {c : Nat} (h : fresh m c) {p : Id3 × Ver × Nat} (hp : p ∈ m) : (m.find? fun q => q.2.2 == p.2.2) = some p := by
  have hn := h.1
  clear h
  induction m with
  | nil => simp at hp
  | cons q m ih =>
    rw [List.map_cons, List.nodup_cons] at hn
    rw [List.find?_cons]
    rcases List.mem_cons.1 hp with e | e
    · subst e; simp
    · have : (q.2.2 == p.2.2) = false := by
        rw [beq_eq_false_iff_ne]
        intro e2
        exact hn.1 (by rw [e2]; exact List.mem_map.2 ⟨p, e, rfl⟩)
      rw [this]
      exact ih e hn.2
/-- What an iterator over a map sees. -/
def SeesM (m : Led) (c b bm : Nat) (w : World) : Prop := w.cell? ⟨b, 0, none⟩ = some (.map (some bm)) ∧ w.heap[bm]? = some (.map (m.map (entryOf eI eV)).toArray c)
theorem sees_map {m : Led} {c : Nat} {Lc : List AObj} {i j : Nat} (hi : Lc[i]? = some (.cells [.mp j])) (hj : Lc[j]? = some (mapO eI eV m c)) {us vs : List Value} {ρ0 : Nat → Option Value} {w : World}
    (h : ∃ F ρ H, Env F ρ H w ∧ (∀ (i : Nat) o, Lc[i]? = some o → o.live = true → H i = some o ∧ ∃ h, ρ0 i = some h ∧ ρ i = some h) ∧ RAs w F ρ [] us ∧ RAs w F ρ [.ptr i 0] vs) :
    us = [] ∧ ∃ b bm, vs = [.pointer (some ⟨b, 0, none⟩)] ∧ ρ0 j = some (.map (some bm)) ∧ SeesM m c b bm w := by
  obtain ⟨F, ρ, H, E, ho, h1, h2⟩ := h
  cases h1
  refine ⟨rfl, ?_⟩
  obtain ⟨v, rfl, hv⟩ := h2.one_out
  cases hv with | @ptr _ _ b hρ =>
  obtain ⟨hHi, hh, e1, e2⟩ := ho i _ hi rfl
  obtain ⟨h', e3, ⟨b', t, vs, rfl, hB, hR, _⟩, _⟩ := E.rep i _ hHi rfl
  rw [hρ] at e3; injection e3 with e3; injection e3 with e3; injection e3 with e3; injection e3 with e3
  subst e3
  obtain ⟨u, e4, hu⟩ := hR.one_out
  obtain ⟨hHj, hh2, e5, e6⟩ := ho j _ hj rfl
  obtain ⟨bm, rfl, q1, q2⟩ := E.mapAt hHj hu
  rw [q1] at e6; injection e6 with e6; subst e6
  refine ⟨b, bm, rfl, e5, ?_, q2⟩
  have := hB.cell 0
  rw [this, ← Array.getElem?_toList, e4]; rfl
def NxK (m : Led) (done : Led) (p : Id3 × Ver × Nat) (done' : Led) : Prop := p ∈ m ∧ p.2.2 ∉ done.map (·.2.2) ∧ done' = done ++ [p]
def FinK (m : Led) (done : Led) : Prop := ∀ p ∈ m, p.2.2 ∈ done.map (·.2.2)
def seenN (w : World) (g : Nat) : Nat := match w.heap[g]? with | some (.mapIter _ _ s _) => s.size | _ => 0
theorem within_len : ∀ (l k : List Nat), l.Nodup → (∀ x ∈ l, x ∈ k) → l.length ≤ k.length
  | [], _, _, _ => Nat.zero_le _
  | x :: l, k, hn, h => by
    have h1 := List.nodup_cons.1 hn
    have hx := h x (List.mem_cons_self ..)
    have := within_len l (k.erase x) h1.2 fun y hy => by
      have hne : y ≠ x := fun e => h1.1 (by rw [← e]; exact hy)
      exact (List.mem_erase_of_ne hne).2 (h y (List.mem_cons_of_mem _ hy))
    rw [List.length_erase_of_mem hx] at this
    have : 0 < k.length := List.length_pos_of_mem hx
    simp only [List.length_cons]; omega
theorem near_set {O : Nat → Prop} {w w1 : World} {g : Nat} {o : Obj} (h1 : w1 = w ∨ w1 = w.drew) (hg : ¬ O g) : Near O w { w1 with heap := w1.heap.setIfInBounds g o } := by
  have q : Near O w { w with heap := w.heap.setIfInBounds g o } := ⟨rfl, rfl, rfl, by simp, fun b hb => by
    have : g ≠ b := fun e => hg (by rw [e]; exact hb)
    simp [Array.getElem?_setIfInBounds, this]⟩
  rcases h1 with rfl | rfl
  · exact q
  · exact q
attribute [local go_sem] Oper.semAt_some
set_option maxHeartbeats 1000000 in
set_option maxRecDepth 100000 in
theorem keysIt {m : Led} {c : Nat} (hf : fresh m c) {Lc : List AObj} {i j : Nat} (hi : Lc[i]? = some (.cells [.mp j])) (hj : Lc[j]? = some (mapO eI eV m c)) :
    IterN Try.prog 54 [] [.ptr i 0] Lc ([] : Led) (fun y x y' => ∃ p, NxK m y p y' ∧ x = [.d (eI p.1)]) (FinK m) := by
  intro us vs lp ρ0
  refine ⟨fun y vals y' => ∃ p, NxK m y p y' ∧ vals = [vOf (eI p.1)], fun y vals y' h => ?_, ?_⟩
  · obtain ⟨p, h, rfl⟩ := h
    exact ⟨_, ⟨p, h, rfl⟩, fun w F ρ => .cons (FlatW.ra (.d (closed_flat (eI_cl _)))) .nil⟩
  intro J Jx hJ hN hNx hY O w h0
  obtain ⟨rfl, b, bm, rfl, hρ, hs0⟩ := sees_map hi hj (hJ [] O w h0).1
  have sees : ∀ k O w, J k O w → SeesM m c b bm w := fun k O w h => by
    obtain ⟨_, b', bm', e1, e2, h'⟩ := sees_map hi hj (hJ k O w h).1
    injection e1 with e1; injection e1 with e1; injection e1 with e1; injection e1 with e1
    rw [hρ] at e2
    injection e2 with e2; injection e2 with e2; injection e2 with e2
    subst e1 e2
    exact h'
  have HJ := hide hJ
  have HN := hide hN
  have HS := hide sees
  have HF := hide hf
  have c0 := hs0.1
  have m0 := hs0.2
  clear hJ hN sees hs0 hρ hNx hi hj hf
  refine (callsIn_wide (n := 1)).1 (callsIn_of_wp Try.func54 rfl trivial ?_ rfl)
  simp only [Try.ntmps54, List.size_toArray, List.length_cons, List.length_nil, Nat.reduceAdd, Nat.reduceSub, Array.replicate_succ, Array.replicate_zero, List.push_toArray, List.append_toArray, List.nil_append, List.cons_append]
  gi_wp2_with (refine wpListIn_range_mp rfl rfl rfl Try.underlying55 m0 ?_)
  have gO : ¬ O w.heap.size := fun h => Nat.lt_irrefl _ ((HJ.out [] O w h0).2 _ h)
  have hJ0 := HN.out [] O w (w.alloc (.mapIter (some bm) c #[] c)) h0 ⟨rfl, rfl, rfl, by simp, fun b hb => Below.heap_alloc _ _ _ ((HJ.out [] O w h0).2 b hb)⟩
  gi_loopw [3] (fun _ wr => ∃ (done : Led) (O : Nat → Prop), J done O wr ∧ wr.heap[w.heap.size]? = some (.mapIter (some bm) c (done.map (·.2.2)).toArray c) ∧ ¬ O w.heap.size ∧ (∀ q ∈ done, q ∈ m) ∧ (done.map (·.2.2)).Nodup) (fun _ wr => m.length - seenN wr w.heap.size)
  case atStart => exact ⟨[], O, hJ0, Array.getElem?_push_size, gO, fun q h => (by cases h), List.nodup_nil⟩
  case round =>
    obtain ⟨done, O1, hJk, q2, gO1, hsub, hnd⟩ := hrel
    have q4 := (HS.out done O1 wr hJk).2
    clear hJ0 gO h0 m0 c0
    obtain ⟨y, w1, hy, hw1, hr⟩ := run_next_mp (P := Try.prog) (ty := 0) q2 q4 HF.out.2 (.inr HF.out.2)
    cases y with
    | none =>
      have hJ1 : J done O1 w1 := HN.out done O1 wr w1 hJk (by rcases hw1 with rfl | rfl <;> exact ⟨rfl, rfl, rfl, Nat.le_refl _, fun b hb => rfl⟩)
      have HE := hide (show FinK m done from hy)
      have HR := hide hr
      simp only at hr
      clear hJk q2 q4 hw1 hsub hnd hy hr
      gi_wp2_with (refine wpListIn_next_ok rfl rfl rfl HR.out ?_)
      go_end0
      exact ⟨⟨_, rfl⟩, O1, .inl ⟨done, HE.out, hJ1⟩⟩
    | some p =>
      obtain ⟨hp, hn⟩ := hy
      have hsz : w.heap.size < wr.heap.size := (Array.getElem?_eq_some_iff.1 q2).1
      have hJ1 := HN.out done O1 wr { w1 with heap := w1.heap.setIfInBounds w.heap.size (.mapIter (some bm) c (done.map (·.2.2) ++ [p.2.2]).toArray c) } hJk (near_set hw1 gO1)
      have e2 : ({ w1 with heap := w1.heap.setIfInBounds w.heap.size (.mapIter (some bm) c (done.map (·.2.2) ++ [p.2.2]).toArray c) } : World).heap[w.heap.size]? = some (.mapIter (some bm) c (done.map (·.2.2) ++ [p.2.2]).toArray c) := by
        have : w1.heap = wr.heap := by rcases hw1 with rfl | rfl <;> rfl
        show (w1.heap.setIfInBounds _ _)[_]? = _
        rw [this, Array.getElem?_setIfInBounds_self_of_lt hsz]
      have hmu : m.length - (done.length + 1) < m.length - seenN wr w.heap.size := by
        have : seenN wr w.heap.size = done.length := by unfold seenN; rw [q2]; simp
        have l1 := within_len ((done ++ [p]).map (·.2.2)) (m.map (·.2.2)) (by
          rw [List.map_append, List.nodup_append]
          exact ⟨hnd, by simp, fun a ha b hb e => by simp at hb; subst hb e; exact hn ha⟩) (fun x hx => by
          obtain ⟨q, hq, rfl⟩ := List.mem_map.1 hx
          rcases List.mem_append.1 hq with h | h
          · exact List.mem_map.2 ⟨q, hsub q h, rfl⟩
          · rw [List.mem_singleton.1 h]; exact List.mem_map.2 ⟨p, hp, rfl⟩)
        simp at l1; omega
      simp only at hr
      clear hw1
      generalize ({ w1 with heap := w1.heap.setIfInBounds w.heap.size (.mapIter (some bm) c (done.map (·.2.2) ++ [p.2.2]).toArray c) } : World) = W2 at hr hJ1 e2
      have q5 := (HS.out done O1 W2 hJ1).2
      have hO := (HJ.out done O1 W2 hJ1).2
      have hk : vOf (eI p.1) = .agg #[.int .i64 p.1.1, .int .i64 p.1.2.1, .int .i64 p.1.2.2] := rfl
      rw [hk] at hr
      have hvv : vOf (eV p.2.1) = .agg #[.int .i64 p.2.1.1, .int .i64 p.2.1.2] := rfl
      rw [hvv] at hr
      have HK := hide hk
      have HV := hide hvv
      have hJ2 := HN.out done O1 W2 (W2.alloc (.cells #[.int .i64 p.1.1, .int .i64 p.1.2.1, .int .i64 p.1.2.2] 31)) hJ1 ⟨rfl, rfl, rfl, by simp, fun b hb => Below.heap_alloc _ _ _ (hO b hb)⟩
      have e3 : (W2.alloc (.cells #[.int .i64 p.1.1, .int .i64 p.1.2.1, .int .i64 p.1.2.2] 31)).heap[w.heap.size]? = some (.mapIter (some bm) c (done.map (·.2.2) ++ [p.2.2]).toArray c) := by
        rw [Below.heap_alloc _ _ _ (Array.getElem?_eq_some_iff.1 e2).1]; exact e2
      have hg3 : w.heap.size < (W2.alloc (.cells #[.int .i64 p.1.1, .int .i64 p.1.2.1, .int .i64 p.1.2.2] 31)).heap.size := (Array.getElem?_eq_some_iff.1 e3).1
      obtain ⟨fn, tmps, assign, body, hy, hR⟩ := hY done O1 _ [.agg #[.int .i64 p.1.1, .int .i64 p.1.2.1, .int .i64 p.1.2.2]] (done ++ [p]) ⟨p, ⟨hp, hn, rfl⟩, by rw [hk]⟩ hJ2
      have E3 := hide e3
      have G3 := hide hg3
      have HR := hide hr
      have HP := hide (find_born HF.out hp)
      have HX := hide (show NxK m done p (done ++ [p]) from ⟨hp, hn, rfl⟩)
      have HM := hide hmu
      have HD := hide hsub
      have HU := hide hnd
      clear hJk q2 q4 hsub hnd hr hp hn hmu hsz hk hvv hJ2 e3 hg3
      gi_wp2_with (first | refine wpListIn_next_ok rfl rfl rfl HR.out ?_ | refine wpListIn_entry_mp rfl rfl rfl HP.out e2 q5 HK.out HV.out ?_)
      refine hR.mono ?_
      rintro e W4 ⟨O', hfar, hO', ⟨rfl, hJ3⟩ | ⟨rfl, hJx3⟩⟩
      · have e4 := (hfar.2.2.2.2 _ G3.out gO1).trans E3.out
        have gO2 : ¬ O' w.heap.size := fun h => by
          rcases hO' _ h with h | h
          · exact gO1 h
          · have := G3.out; omega
        have E4 := hide e4
        have HO := hide gO2
        clear hR hy hfar hO' e4 gO2
        gi_wp2
        go_roundw
        case rel => exact ⟨done ++ [p], O', hJ3, by rw [E4.out]; simp, HO.out, fun q hq => by
                      rcases List.mem_append.1 hq with h | h
                      · exact HD.out q h
                      · rw [List.mem_singleton.1 h]; exact HX.out.1, by
                      rw [List.map_append, List.nodup_append]
                      exact ⟨HU.out, by simp, fun a ha b hb e => by simp at hb; subst hb e; exact HX.out.2.1 ha⟩⟩
        case measure =>
          have : seenN W4 w.heap.size = done.length + 1 := by unfold seenN; rw [E4.out]; simp
          rw [this]; exact HM.out
      · clear hR hy hfar
        gi_wp2
        refine bodyPost_ret (results_none rfl _ _ _) rfl ?_
        exact ⟨⟨_, rfl⟩, _, .inr hJx3⟩
end Go.Proofs.Ytefidbifgilekaa
/- A contract whose answer is one of several. No program is named here. -/
namespace Go.Proofs.Ytefidbifgilekaa
set_option linter.unusedSimpArgs false
set_option linter.unusedVariables false
open Go.RowKit
/-- Of such arguments, over such objects, comes one of these answers. -/
def SatN (P : Program) (g : FuncId) (args : List AV) (H : List AObj) {X : Type} (R : X → Prop) (r : X → AV) (H' : X → List AObj) : Prop :=
  ∀ (F : Nat → Prop) (ρ : Nat → Option Value) (w : World) (vals : List Value), Env F ρ (hp H) w → RAs w F ρ args vals →
    Calls P g vals.toArray w fun e w' => ∃ x, R x ∧ ∃ v, e = .returned v ∧ Post F ρ (hp H) w (hp (H' x)) (r x) v w'
section
variable {P : Program} {w w' : World} {F F' : Nat → Prop} {ρ ρ' : Nat → Option Value} {L L' : List AObj} {T : TypeId → TI} {E : Nat → Bool} {N : Nat} {tm tm' : Tm} {a : Act}
/-- .. to a contract whose answer is one of several. -/
theorem satN_of_vc {g : FuncId} {fn : Func} {c : Code} {args : List AV} {H : List AObj} {X : Type} {R : X → Prop} {r : X → AV} {H' : X → List AObj} (hf : P.funcs[g]? = some fn) (hb : fn.body = some c) (hT : T = tiOf P) (hE : ∀ g, E g = true → entersB P g = true) (hm : P.follows .mixedOrders = true)
    (hn : Nat.ble args.length fn.ntmps = true) (h : vcCode P T E fn.ntmps c H.length false (params 0 args) H (fun e tm L => ∃ x, R x ∧ retK T fn.results.toList H.length (r x) (H' x) e tm L)) : SatN P g args H R r H' := by
  intro F ρ w vals En hv
  have hl := hv.length
  have hn := Nat.le_of_ble_eq_true hn
  have hk0 : ∀ i v, ρ i = some v → i < H.length := fun i v hi => by
    rcases Nat.lt_or_ge i H.length with q | q
    · exact q
    · rw [En.abs i (List.getElem?_eq_none q)] at hi; cases hi
  refine (callsIn_wide (n := 0)).1 (callsIn_of_wp_marks hf hb trivial (wpIn_mono (vcCode_out hT hE hm c F ρ (hp H) w w.heap.size ρ H.length false none 0 hk0 (fun _ => ⟨rfl, Nat.le_refl _⟩) _ H _ _ w h ⟨F, ρ, Step.refl _ _ _ _, Keep.refl ρ, En, ⟨fun d => ?_, ?_⟩, Nat.le_refl _, Marks.nil⟩) fun e a' w' ⟨tm', L', ⟨x, hx, hq⟩, F', ρ', S1, K1, E1, Sl1, hle, hM⟩ => ?_))
  · rw [params_lk, if_pos (Nat.zero_le _), Nat.sub_zero]
    cases hd : args[d]? with
    | none => exact .any _
    | some x =>
      obtain ⟨v, h1, h2⟩ := hv.get hd
      have hlt := (List.getElem?_eq_some_iff.1 h1).1
      have : (vals.toArray ++ Array.replicate (fn.ntmps - vals.toArray.size) undef).getD d undef = v := by
        rw [Array.getD_eq_getD_getElem?, Array.getElem?_append_left (by simpa using hlt)]
        simp [h1]
      rw [this]; exact h2
  · simp; omega
  · have fin : (resK T L' fn.results.toList tm' fun l => fAV (oneOr l) fun y => ∃ sw, EndS H.length (r x) (H' x) y L' sw) →
        LeavesInM Fence.wide 0 P fn a'.tmps (fun e w' => ∃ x, R x ∧ ∃ v, e = .returned v ∧ Post F ρ (hp H) w (hp (H' x)) (r x) v w') a'.defers .returning w' := by
      intro h
      subst hT
      obtain ⟨rs, hd, hnd, hrs⟩ := hM
      rw [hd]
      refine leaves_marks (w := w') (fun w2 S2 E2 hF2 => ?_) rs w' hnd hrs S1 E1 fun _ _ => rfl
      obtain ⟨l, vs, h1, h2, h3⟩ := resK_out E2 (Sl1.others hF2) h
      obtain ⟨sw, h4⟩ := fAV_iff.1 h1
      obtain ⟨v, hrun, hv'⟩ := run_results h3
      obtain ⟨F2, ρ2, S3, K2, E3, R2⟩ := h4.out hle E2 (hv' _ _ _ h2)
      exact ⟨v, hrun, x, hx, v, rfl, _, _, S2.trans S3, fun i u hi => K2 i u (hk0 i u hi) (K1 i u hi), E3, R2⟩
    cases e with
    | normal => exact fin hq
    | ret => exact fin hq
    | _ => exact hq.elim
end
end Go.Proofs.Ytefidbifgilekaa
/- ledger: the ids of a ledger, sorted. -/
namespace Go.Proofs.Ytefidbifgilekaa
set_option linter.unusedSimpArgs false
set_option linter.unusedVariables false
open Go.RowKit Go.Sort
set_option maxRecDepth 100000
/-- All entries, in some order. -/
def AllOf (m done : Led) : Prop := (done.map (·.2.2)).Nodup ∧ (∀ q ∈ done, q ∈ m) ∧ FinK m done
abbrev idsR (l : Led) : List (List D) := l.map fun p => idR p.1
theorem appendSeq_any {m : Led} {c : Nat} (hf : fresh m c) (hm : m.length ≤ 1000000000) :
    SatN Try.prog 60 [.d (.v (.slice none 0 0)), .fn (.func 54) [] [.ptr 0 0]] [.cells [.mp 1], mapO eI eV m c] (AllOf m) (fun _ => .own 2) (fun done => [.cells [.mp 1], mapO eI eV m c, .sl 3 (idsR done)]) := by
  refine satN_of_vc (T := tiOf Try.prog) (E := E0) Try.func60 rfl rfl hE0 hm0 rfl ?_
  conv => whnf
  repeat (any_goals (first
    | exact True.intro
    | (refine Or.inl ?_; conv => whnf)
    | (refine And.intro (fun _ => ?_) tf; conv => whnf)
    | (refine And.intro ft (fun _ => ?_); conv => whnf)
    | (refine And.intro (by kernel_rfl) ?_; conv => whnf)
    | (refine And.intro (by decide) ?_; conv => whnf)
    | (refine And.intro (fun _ => ?_) (fun h => absurd h (by decide)); conv => whnf)
    | (refine And.intro (fun h => absurd h (by decide)) (fun _ => ?_); conv => whnf)
    | (refine And.intro (fun _ => ?_) (fun _ => ?_) <;> conv => whnf)))
  refine ⟨Led, Led, fun y z => z = y ∧ (y.map (·.2.2)).Nodup ∧ ∀ q ∈ y, q ∈ m, fun z => [.cells [.mp 1], mapO eI eV m c, .cells [.own 3], .sl 3 (idsR z)], [(6, .fn (.func 54) [] [.ptr 0 0]), (2, .ptr 2 0)], 3, _, _, _, [.cells [.mp 1], mapO eI eV m c], [], _, _, ⟨[], ⟨rfl, List.nodup_nil, fun q h => by cases h⟩, ?_⟩, rfl, by kernel_rfl, keysIt (i := 0) (j := 1) hf rfl rfl, ?_, ?_, ?_, ?_⟩
  · all_goals refine ⟨[], ?_⟩
    repeat (any_goals (first | exact True.intro | exact rfl | with_reducible_and_instances rfl | exact (by kernel_rfl) | refine And.intro ?_ ?_))
    all_goals conv => whnf
  · rintro y x y' ⟨p, _, rfl⟩; rfl
  · rintro y z _; exact ⟨⟨rfl, rfl, trivial⟩, Nat.le_add_left 3 1⟩
  · rintro y z x y' ⟨rfl, hn, hs⟩ ⟨p, ⟨hp, hpn, rfl⟩, rfl⟩
    conv => whnf
    have hl : z.length ≤ m.length := by
      have := within_len (z.map (·.2.2)) (m.map (·.2.2)) hn fun x hx => by
        obtain ⟨q, hq, rfl⟩ := List.mem_map.1 hx
        exact List.mem_map.2 ⟨q, hs q hq, rfl⟩
      simpa using this
    have hb : ((idsR z).length + 1) * 24 ≤ 140737488355328 := by rw [List.length_map]; omega
    repeat (any_goals (first
      | exact True.intro
      | (refine And.intro (fun _ => ?_) tf; conv => whnf)
      | (refine And.intro ft (fun _ => ?_); conv => whnf)
      | (refine And.intro (by kernel_rfl) ?_; conv => whnf)
      | (refine And.intro (by decide) ?_; conv => whnf)
      | (refine And.intro (fun _ => ?_) (fun h => absurd h (by decide)); conv => whnf)
      | (refine And.intro (fun h => absurd h (by decide)) (fun _ => ?_); conv => whnf)
      | (refine And.intro (fun _ => ?_) (fun _ => ?_) <;> conv => whnf)
      | (refine ⟨_, _, ap 3 24 (by kernel_rfl) rfl rfl hb, ?_⟩; conv => whnf)))
    refine ⟨z ++ [p], ⟨rfl, by
      rw [List.map_append, List.nodup_append]
      exact ⟨hn, by simp, fun a ha b hb e => by simp at hb; subst hb e; exact hpn ha⟩, fun q hq => by
      rcases List.mem_append.1 hq with h | h
      · exact hs q h
      · rw [List.mem_singleton.1 h]; exact hp⟩, ?_⟩
    have ea : idsR (z ++ [p]) = idsR z ++ [idR p.1] := by simp
    refine (show Weak 3 _ _ [] [.cells [.mp 1], mapO eI eV m c, .cells [.own 3], .sl 3 (idsR (z ++ [p]))] from ?_)
    rw [ea]
    all_goals refine ⟨[(3, 6)], ?_⟩
    repeat (any_goals (first | exact True.intro | exact rfl | with_reducible_and_instances rfl | exact (by kernel_rfl) | refine And.intro ?_ ?_))
    all_goals conv => whnf
  · rintro y z hF ⟨rfl, hn, hs⟩
    conv => whnf
    repeat (any_goals (first
      | exact True.intro
      | (refine Or.inl ?_; conv => whnf)
      | (refine And.intro (fun _ => ?_) tf; conv => whnf)
      | (refine And.intro ft (fun _ => ?_); conv => whnf)
      | (refine And.intro (by kernel_rfl) ?_; conv => whnf)
      | (refine And.intro (by decide) ?_; conv => whnf)
      | (refine And.intro (fun _ => ?_) (fun h => absurd h (by decide)); conv => whnf)
      | (refine And.intro (fun h => absurd h (by decide)) (fun _ => ?_); conv => whnf)
      | (refine And.intro (fun _ => ?_) (fun _ => ?_) <;> conv => whnf)))
    refine ⟨z, ⟨hn, hs, hF⟩, ?_⟩
    all_goals refine ⟨[(2, 3)], ?_⟩
    repeat (any_goals (first | exact True.intro | exact rfl | with_reducible_and_instances rfl | exact (by kernel_rfl) | refine And.intro ?_ ?_))
    all_goals conv => whnf
theorem fn_out {w : World} {F : Nat → Prop} {ρ : Nat → Option Value} {g : FuncId} {caps : List AV} {vals : List Value} (h : RAs w F ρ [.fn (.func g) [] caps] vals) : ∃ vs, vals = [.func (.func g) #[] vs.toArray] ∧ RAs w F ρ caps vs := by
  cases h with | cons h1 h2 =>
  cases h2
  cases h1 with | fn q1 q2 =>
  cases q1
  exact ⟨_, rfl, q2⟩
set_option maxHeartbeats 1000000 in
set_option maxRecDepth 100000 in
theorem collect_any {m : Led} {c : Nat} (hf : fresh m c) (hm : m.length ≤ 1000000000) :
    SatN Try.prog 52 [.fn (.func 54) [] [.ptr 0 0]] [.cells [.mp 1], mapO eI eV m c] (AllOf m) (fun _ => .own 2) (fun done => [.cells [.mp 1], mapO eI eV m c, .sl 3 (idsR done)]) := by
  intro F ρ w vals En hv
  have hA := appendSeq_any hf hm F ρ w (.slice none 0 0 :: vals) En (.cons (.d (.v _)) hv)
  obtain ⟨vs, rfl, hvs⟩ := fn_out hv
  clear hv hvs En
  generalize vs.toArray = us at hA
  have HA := hide hA
  clear hA
  go_enter Try.func52, Try.ntmps52
  go_wp2_with (go_at_call 60; refine HA.out.mono ?_; rintro e w' ⟨x, hx, v, rfl, hP⟩)
  go_ret
  exact ⟨x, hx, v, rfl, hP⟩
theorem sorted_pw {α : Type} {cf : α → α → Int} (h : SWO (ltOf cf)) (l : List α) : (sorted cf l).Pairwise fun x y => (!(ltOf cf) y x) = true :=
  List.pairwise_mergeSort (le := fun x y => !(ltOf cf) y x) (fun a b c h1 h2 => by
    simp only [Bool.not_eq_true'] at h1 h2 ⊢
    exact h.ntrans c b a h2 h1) (fun a b => by
    by_cases q : ltOf cf b a = true
    · have : ltOf cf a b = false := by
        by_cases r : ltOf cf a b = true
        · have := h.trans a b a r q
          rw [h.irrefl] at this; cases this
        · simpa using r
      simp [this]
    · simp at q; simp [q]) l
theorem sorted_of_perm {α : Type} {cf : α → α → Int} (h : SWO (ltOf cf)) (ht : ∀ x y, ltOf cf x y = false → ltOf cf y x = false → x = y) {l l' : List α} (hp : l.Perm l') : sorted cf l = sorted cf l' :=
  List.Perm.eq_of_pairwise (le := fun x y => (!(ltOf cf) y x) = true) (fun a b _ _ h1 h2 => ht a b (by simpa using h2) (by simpa using h1)) (sorted_pw h l) (sorted_pw h l') (((sorted_perm cf l).trans hp).trans (sorted_perm cf l').symm)
theorem all_perm {m x : Led} {c : Nat} (hf : fresh m c) (hx : AllOf m x) : x.Perm m := by
  have hinj : ∀ p ∈ m, ∀ q ∈ m, p.2.2 = q.2.2 → p = q := fun p hp q hq e => by
    have h1 := find_born hf hp
    have h2 := find_born hf hq
    rw [e, h2] at h1
    exact (Option.some.inj h1).symm
  have nd : ∀ l : Led, (l.map (·.2.2)).Nodup → l.Nodup := fun l h => by
    induction l with
    | nil => exact List.nodup_nil
    | cons a l ih =>
      rw [List.map_cons, List.nodup_cons] at h
      exact List.nodup_cons.2 ⟨fun ha => h.1 (List.mem_map.2 ⟨a, ha, rfl⟩), ih h.2⟩
  exact (List.perm_ext_iff_of_nodup (nd x hx.1) (nd m hf.1)).2 fun a => ⟨hx.2.1 a, fun ha => by
    obtain ⟨b, hb, e⟩ := List.mem_map.1 (hx.2.2 a ha)
    rw [← hinj b (hx.2.1 b hb) a ha e]; exact hb⟩
/-- Entries in any order have the same sorted ids. -/
theorem all_sorted {m x : Led} {c : Nat} (hf : fresh m c) (hx : AllOf m x) : sorted cmpI (x.map (·.1)) = sorted cmpI (m.map (·.1)) :=
  sorted_of_perm swoI totI ((all_perm hf hx).map _)
theorem fn2_out {w : World} {F : Nat → Prop} {ρ : Nat → Option Value} {g k : FuncId} {caps : List AV} {vals : List Value} (h : RAs w F ρ [.fn (.func g) [] caps, .fn (.func k) [] []] vals) : ∃ v, vals = [v, .func (.func k) #[] #[]] ∧ RAs w F ρ [.fn (.func g) [] caps] [v] := by
  cases h with | cons h1 h2 =>
  cases h2 with | cons h2 h3 =>
  cases h3
  cases h2 with | fn q1 q2 =>
  cases q1; cases q2
  exact ⟨_, rfl, .cons h1 .nil⟩
theorem appL2 (a b o o' : AObj) : appN 3 [] (appW [(2, o')] (hp [a, b, o])) = hp [a, b, o'] := by
  funext i
  match i with
  | 0 => rfl
  | 1 => rfl
  | 2 => rfl
  | i + 3 => rfl
set_option maxHeartbeats 1000000 in
set_option maxRecDepth 100000 in
theorem sortedFunc_sat {m : Led} {c : Nat} (hf : fresh m c) (hm : m.length ≤ 1000000000) :
    Sat Try.prog 43 [.fn (.func 54) [] [.ptr 0 0], .fn (.func 45) [] []] [.cells [.mp 1], mapO eI eV m c] (.own 2) [.cells [.mp 1], mapO eI eV m c, .sl 3 ((sorted cmpI (m.map (·.1))).map idR)] := by
  intro F ρ w vals En hv
  obtain ⟨v, rfl, hv1⟩ := fn2_out hv
  have HA := hide (collect_any hf hm F ρ w [v] En hv1)
  have HS := hide (fun (x : Led) (hx : AllOf m x) F' ρ' w' u E1 (R1 : RA w' F' ρ' (.own 2) u) => sortI_call (x.map (·.1)) (by
    have := within_len (x.map (·.2.2)) (m.map (·.2.2)) hx.1 fun y hy => by
        obtain ⟨q, hq, rfl⟩ := List.mem_map.1 hy
        exact List.mem_map.2 ⟨q, hx.2.1 q hq, rfl⟩
    simp at this ⊢; omega) (i := 2) (n := 3) (Lh := [.cells [.mp 1], mapO eI eV m c, .sl 3 (idsR x)]) (by simp) (hp [.cells [.mp 1], mapO eI eV m c, .sl 3 (idsR x)]) F' ρ' w' [u, .func (.func 45) #[] #[]] E1 (fun i hi => rfl) (fun k hk => by simp at hk) (.cons R1 (.cons (.fn .nil .nil) .nil)))
  have HF := hide hf
  clear hv hv1 En hf hm
  go_enter Try.func43, Try.ntmps43
  go_wp2_with (first | (go_at_call 52; refine HA.out.mono ?_; rintro e w' ⟨x, hx, v, rfl, F', ρ', S1, K1, E1, R1⟩) | (go_at_call 53; refine (HS.out x hx F' ρ' w' v E1 R1).mono ?_; rintro e w2 ⟨v2, rfl, F2, ρ2, S2, K2, E2, R2⟩))
  go_ret
  simp only [all_sorted HF.out hx, appL2] at S2 E2
  exact ⟨v, rfl, F2, ρ2, S1.trans S2, K1.trans K2, E2, S2.ra E1 K2 R1⟩
end Go.Proofs.Ytefidbifgilekaa
/- ledger: a copy of a ledger's map, and its ids sorted. -/
namespace Go.Proofs.Ytefidbifgilekaa
set_option linter.unusedSimpArgs false
set_option linter.unusedVariables false
open Go.RowKit Go.Sort
set_option maxRecDepth 100000
theorem rds3_at {w : World} {F : Nat → Prop} : ∀ {S : List Id3} {vs : List Value}, RDs w F (S.map idR).flatten vs → ∀ (k : Nat) e, S[k]? = some e → vs[k * 3]? = some (.int .i64 e.1) ∧ vs[k * 3 + 1]? = some (.int .i64 e.2.1) ∧ vs[k * 3 + 2]? = some (.int .i64 e.2.2) := by
  intro S
  induction S with
  | nil => intro vs _ k e h; cases h
  | cons x S ih =>
    intro vs h k e hk
    replace h : RDs w F (iD x.1 :: iD x.2.1 :: iD x.2.2 :: (S.map idR).flatten) vs := h
    cases h with | cons a1 _ h2 =>
    cases h2 with | cons a2 _ h3 =>
    cases h3 with | cons a3 _ h4 =>
    cases a1 with | v =>
    cases a2 with | v =>
    cases a3 with | v =>
    cases k with
    | zero =>
      have : x = e := Option.some.inj hk
      subst this
      exact ⟨rfl, rfl, rfl⟩
    | succ k =>
      have := ih h4 k e hk
      rw [show (k + 1) * 3 = k * 3 + 3 by omega]
      exact this
/-- A slice of these ids, in a block of its own. -/
def SeesI (S : List Id3) (A : Option Addr) (lo : Nat) (w : World) : Prop :=
  ∀ (k : Nat) e, S[k]? = some e → ∃ q off, A = some ⟨q, off, none⟩ ∧ lo ≤ q ∧ q < w.heap.size ∧ w.cell? ⟨q, off + k * 3, none⟩ = some (.int .i64 e.1) ∧ w.cell? ⟨q, off + k * 3 + 1, none⟩ = some (.int .i64 e.2.1) ∧ w.cell? ⟨q, off + k * 3 + 2, none⟩ = some (.int .i64 e.2.2)
def mapObj (m : Led) (c : Nat) : Obj := .map (m.map (entryOf eI eV)).toArray c
theorem env_two {m : Led} {c : Nat} {w : World} {g bm : Nat} {t : TypeId} (hg : Blk w g t #[.map (some bm)]) (hb : w.heap[bm]? = some (mapObj m c)) (hne : g ≠ bm) :
    Env (fun _ => False) (fun i => if i = 0 then some (.pointer (some ⟨g, 0, none⟩)) else if i = 1 then some (.map (some bm)) else none) (hp [.cells [.mp 1], mapO eI eV m c]) w := by
  refine ⟨fun b h => h.elim, fun i hi => ?_, fun i o hi hl => ?_, fun i j o o' h h' b e1 e2 l1 l2 r1 r2 b1 b2 => ?_⟩
  · match i, hi with
    | i + 2, _ => simp
  · match i, hi with
    | 0, hi =>
      have : o = .cells [.mp 1] := (Option.some.inj hi).symm
      subst this
      refine ⟨_, rfl, ⟨g, t, _, rfl, hg, .cons (.mp rfl) .nil, fun v hv => by simp at hv; subst hv; rfl⟩, fun b hb => ?_⟩
      injection hb with hb; subst hb
      exact ⟨hg.lt, fun h => h⟩
    | 1, hi =>
      have : o = mapO eI eV m c := (Option.some.inj hi).symm
      subst this
      refine ⟨_, rfl, ⟨bm, _, .inr rfl, hb, rfl⟩, fun b hb' => ?_⟩
      injection hb' with hb'; subst hb'
      exact ⟨(Array.getElem?_eq_some_iff.1 hb).1, fun h => h⟩
    | i + 2, hi => simp [hp] at hi
  · match i, j, e1, e2 with
    | 0, 0, _, _ => rfl
    | 1, 1, _, _ => rfl
    | 0, 1, _, _ =>
      simp at r1 r2; subst r1 r2
      injection b1 with b1; injection b2 with b2
      exact absurd (b1.trans b2.symm) hne
    | 1, 0, _, _ =>
      simp at r1 r2; subst r1 r2
      injection b1 with b1; injection b2 with b2
      exact absurd (b2.trans b1.symm) hne
    | i + 2, _, e1, _ => simp [hp] at e1
    | 0, j + 2, _, e2 => simp [hp] at e2
    | 1, j + 2, _, e2 => simp [hp] at e2
/-- A map's keys, sorted. -/
theorem sortedKeys_any {m : Led} {c : Nat} (hf : fresh m c) (hm : m.length ≤ 1000000000) (w : World) (g bm : Nat) (t : TypeId) (hg : Blk w g t #[.map (some bm)]) (hb : w.heap[bm]? = some (mapObj m c)) (hne : g ≠ bm) :
    Calls Try.prog 43 #[.func (.func 54) #[] #[.pointer (some ⟨g, 0, none⟩)], .func (.func 45) #[] #[]] w fun e w' =>
      ∃ A cc, e = .returned (.slice A m.length cc) ∧ (w'.os = w.os ∧ w'.tape = w.tape ∧ w'.output = w.output ∧ w.heap.size ≤ w'.heap.size) ∧ (∀ b, b < w.heap.size → b ≠ g → w'.heap[b]? = w.heap[b]?) ∧ SeesI (sorted cmpI (m.map (·.1))) A w.heap.size w' := by
  refine (sortedFunc_sat hf hm _ _ w [_, _] (env_two hg hb hne) (.cons (.fn .nil (.cons (.ptr rfl) .nil)) (.cons (.fn .nil .nil) .nil))).mono ?_
  rintro e w' ⟨v, rfl, F', ρ', S, K, E, R⟩
  have k0 : ρ' 0 = some (.pointer (some ⟨g, 0, none⟩)) := K 0 _ rfl
  have k1 : ρ' 1 = some (.map (some bm)) := K 1 _ rfl
  have hm' : w'.heap[bm]? = some (mapObj m c) := by
    obtain ⟨h', e1, ⟨b', o, _, h3, h4⟩, _⟩ := E.rep 1 (mapO eI eV m c) rfl rfl
    rw [k1] at e1; injection e1 with e1; subst e1
    rename_i h5
    rcases h5 with h5 | h5
    · cases h5
    · injection h5 with h5; injection h5 with h5; subst h5
      rw [h3]; exact congrArg some h4
  cases R with | @own _ A n cc hρ =>
  obtain ⟨h2, e2, ⟨vs, hOw, hRD, _⟩, hbk⟩ := E.rep 2 _ rfl rfl
  rw [hρ] at e2; injection e2 with e2; subst e2
  have hlen : ((sorted cmpI (m.map (·.1))).map idR).length = m.length := by rw [List.length_map, sorted_len, List.length_map]
  have hn : n = m.length := by
    rw [← hlen]
    rcases hOw.2 with ⟨q, q'⟩ | ⟨a, q, _, q'⟩ | ⟨g, off, cap, q, _⟩ <;> injection q with _ q _ <;> simp_all
  subst hn
  have lv : ∀ b, b ≠ g → b ≠ bm → ¬ Lv (fun i => if i = 0 then some (.pointer (some ⟨g, 0, none⟩)) else if i = 1 then some (.map (some bm)) else none) (hp [.cells [.mp 1], mapO eI eV m c]) b := by
    rintro b h1 h2 ⟨i, o, h, _, _, h3, h4⟩
    match i with
    | 0 => simp at h3; subst h3; injection h4 with h4; exact h1 h4.symm
    | 1 => simp at h3; subst h3; injection h4 with h4; exact h2 h4.symm
    | i + 2 => simp at h3
  refine ⟨A, cc, rfl, ⟨S.os, S.tape, S.output, S.size⟩, fun b h1 h2 => ?_, fun k e hk => ?_⟩
  · by_cases h3 : b = bm
    · subst h3; rw [hm', hb]
    · exact S.unch b h1 (lv b h2 h3)
  · have hlt := (List.getElem?_eq_some_iff.1 hk).1
    have hl := hOw.1
    obtain ⟨r1, r2, r3⟩ := rds3_at hRD k e hk
    have hpos : 0 < m.length := by rw [← hlen, List.length_map]; omega
    rcases hOw.2 with ⟨q, q'⟩ | ⟨a, q, _, q'⟩ | ⟨g', off, cap, q, _, hg', _, _, _, hread⟩
    · omega
    · omega
    · injection q with q1 q2 q3
      obtain ⟨g1, s1⟩ := List.getElem?_eq_some_iff.1 r1
      obtain ⟨g2, s2⟩ := List.getElem?_eq_some_iff.1 r2
      obtain ⟨g3, s3⟩ := List.getElem?_eq_some_iff.1 r3
      refine ⟨g', off, q1, ?_, hg', ?_, ?_, ?_⟩
      · subst q1
        have hlv : Lv ρ' (hp [.cells [.mp 1], mapO eI eV m c, .sl 3 ((sorted cmpI (m.map (·.1))).map idR)]) g' := ⟨2, _, _, rfl, rfl, hρ, rfl⟩
        rcases S.lsrc g' hlv with h | h
        · exact h
        · by_cases h1 : g' = g
          · subst h1
            have := E.inj 2 0 _ _ _ _ g' rfl rfl rfl rfl hρ k0 rfl rfl
            cases this
          · by_cases h2 : g' = bm
            · subst h2
              have := E.inj 2 1 _ _ _ _ g' rfl rfl rfl rfl hρ k1 rfl rfl
              cases this
            · exact absurd h (lv g' h1 h2)
      · rw [hread _ g1, s1]
      · have := hread _ g2
        rw [s2] at this
        exact this
      · have := hread _ g3
        rw [s3] at this
        exact this
set_option maxHeartbeats 2000000 in
theorem clone_any (b : Nat) (es : Array MapEntry) (clock : Nat) (w : World) (hb : w.heap[b]? = some (.map es clock)) :
    Calls Try.prog 42 #[.map (some b)] w fun e w' => e = .returned (.map (some w.heap.size)) ∧ w' = w.alloc (.map es clock) := by
  have hu := Try.underlying55
  have hq := fun w => run_eql_map_nil_sl (P := Try.prog) w 55 _ _ (some b) hu
  go_enter Try.func42, Try.ntmps42
  go_wp2
  rw [run_callFunc_extern Try.func51 (by kernel_rfl) (by kernel_rfl) (by kernel_rfl) (e := Extern.MapsClone.clone) (by kernel_rfl), run_maps_clone_sl w _ hb]
  simp only [Result.andThen]
  rw [Oper.upon_value]
  go_wp2
  rw [run_typeAssert_map_sl _ _ _ _ _ _ hu]
  simp only [Result.andThen]
  rw [Oper.upon_value]
  go_wp2
  go_ret
  exact ⟨rfl, rfl⟩
end Go.Proofs.Ytefidbifgilekaa
/- ledger: the iterator over a ledger's ids, in order, with their verdicts. -/
namespace Go.Proofs.Ytefidbifgilekaa
open Go.RowKit Go.Sort
set_option linter.unusedVariables false
set_option linter.unusedSimpArgs false
/-- What an iterator over a ledger sees. -/
def SeesL (m : Led) (c b b2 bm : Nat) (w : World) : Prop := w.cell? ⟨b, 0, none⟩ = some (.pointer (some ⟨b2, 0, none⟩)) ∧ w.cell? ⟨b2, 0, none⟩ = some (.map (some bm)) ∧ w.heap[bm]? = some (mapObj m c)
theorem sees_led {m : Led} {c : Nat} {Lc : List AObj} {i j k : Nat} (hi : Lc[i]? = some (.cells [.ptr j 0])) (hj : Lc[j]? = some (.cells [.mp k])) (hk : Lc[k]? = some (mapO eI eV m c)) {us vs : List Value} {ρ0 : Nat → Option Value} {w : World}
    (h : ∃ F ρ H, Env F ρ H w ∧ (∀ (i : Nat) o, Lc[i]? = some o → o.live = true → H i = some o ∧ ∃ h, ρ0 i = some h ∧ ρ i = some h) ∧ RAs w F ρ [] us ∧ RAs w F ρ [.ptr i 0] vs) :
    us = [] ∧ ∃ b b2 bm, vs = [.pointer (some ⟨b, 0, none⟩)] ∧ SeesL m c b b2 bm w := by
  obtain ⟨F, ρ, H, E, ho, h1, h2⟩ := h
  cases h1
  refine ⟨rfl, ?_⟩
  obtain ⟨v, rfl, hv⟩ := h2.one_out
  cases hv with | @ptr _ _ b hρ =>
  obtain ⟨hHi, hh, e1, e2⟩ := ho i _ hi rfl
  obtain ⟨h', e3, ⟨b', t, vs, rfl, hB, hR, _⟩, _⟩ := E.rep i _ hHi rfl
  rw [hρ] at e3; injection e3 with e3; injection e3 with e3; injection e3 with e3; injection e3 with e3
  subst e3
  obtain ⟨u, e4, hu⟩ := hR.one_out
  cases hu with | @ptr _ _ b2 hρ2 =>
  obtain ⟨hHj, _, _, _⟩ := ho j _ hj rfl
  obtain ⟨h'', e5, ⟨b'', t2, vs2, rfl, hB2, hR2, _⟩, _⟩ := E.rep j _ hHj rfl
  rw [hρ2] at e5; injection e5 with e5; injection e5 with e5; injection e5 with e5; injection e5 with e5
  subst e5
  obtain ⟨u, e6, hu⟩ := hR2.one_out
  obtain ⟨hHk, hh2, e7, e8⟩ := ho k _ hk rfl
  obtain ⟨bm, rfl, q1, q2⟩ := E.mapAt hHk hu
  refine ⟨b, b2, bm, rfl, ?_, ?_, q2⟩
  · have := hB.cell 0
    rw [this, ← Array.getElem?_toList, e4]; rfl
  · have := hB2.cell 0
    rw [this, ← Array.getElem?_toList, e6]; rfl
/-- A ledger's entries, by their ids' order. -/
def idsL (m : Led) : List Id3 := sorted cmpI (m.map (·.1))
def verL (m : Led) (x : Id3) : Ver := (findX m x).getD (0, 0)
theorem idsL_len (m : Led) : (idsL m).length = m.length := by unfold idsL; rw [sorted_len, List.length_map]
def NxL (m : Led) (k : Nat) (x : Id3) (k' : Nat) : Prop := (idsL m)[k]? = some x ∧ k' = k + 1
theorem yield_two {e : Ending} {p q : Prop} (h : (e = .returned (.bool true) ∧ p) ∨ (e = .returned (.bool false) ∧ q)) : ∃ bb, e = .returned (.bool bb) ∧ (bb = true → p) ∧ (bb = false → q) := by
  rcases h with ⟨h1, h2⟩ | ⟨h1, h2⟩
  · exact ⟨true, h1, fun _ => h2, fun h => by cases h⟩
  · exact ⟨false, h1, fun h => (by cases h), fun _ => h2⟩
theorem keysFn_any (b : Nat) (w : World) : Calls Try.prog 44 #[.map (some b)] w fun e w' => e = .returned (.func (.func 54) #[] #[.pointer (some ⟨w.heap.size, 0, none⟩)]) ∧ w' = w.alloc (.cells #[.map (some b)] 55) := by
  go_enter Try.func44, Try.ntmps44
  go_wp2
  go_ret
  exact ⟨rfl, rfl⟩
attribute [local go_sem] Oper.semAt_some
set_option maxHeartbeats 1000000 in
set_option maxRecDepth 100000 in
theorem allIt {m : Led} {c : Nat} (hf : fresh m c) (hm : m.length ≤ 1000000) {Lc : List AObj} {i j k : Nat} (hi : Lc[i]? = some (.cells [.ptr j 0])) (hj : Lc[j]? = some (.cells [.mp k])) (hk : Lc[k]? = some (mapO eI eV m c)) :
    IterN Try.prog 41 [] [.ptr i 0] Lc 0 (fun y x y' => ∃ e, NxL m y e y' ∧ x = [.d (eI e), .d (eV (verL m e))]) (fun y => y = m.length) := by
  intro us vs lp ρ0
  refine ⟨fun y vals y' => ∃ e, NxL m y e y' ∧ vals = [vOf (eI e), vOf (eV (verL m e))], fun y vals y' h => ?_, ?_⟩
  · obtain ⟨e, h, rfl⟩ := h
    exact ⟨_, ⟨e, h, rfl⟩, fun w F ρ => .cons (FlatW.ra (.d (closed_flat (eI_cl _)))) (.cons (FlatW.ra (.d (closed_flat (eV_cl _)))) .nil)⟩
  intro J Jx hJ hN hNx hY O w h0
  obtain ⟨rfl, b, b2, bm, rfl, c1, c2, c3⟩ := sees_led hi hj hk (hJ 0 O w h0).1
  have hO0 := (hJ 0 O w h0).2
  have HJ := hide hJ
  have HN := hide hN
  have HF := hide hf
  have HM := hide hm
  have hK := fun W g bm' t (h1 : Blk W g t #[.map (some bm')]) (h2 : W.heap[bm']? = some (mapObj m c)) (h3 : g ≠ bm') => sortedKeys_any hf (Nat.le_trans hm (by decide)) W g bm' t h1 h2 h3
  have hC := clone_any bm _ c w c3
  have HK := hide hK
  have HC := hide hC
  clear hJ hN hi hj hk hf hNx hm hK hC
  refine (callsIn_wide (n := 1)).1 (callsIn_of_wp Try.func41 rfl trivial ?_ rfl)
  simp only [Try.ntmps41, List.size_toArray, List.length_cons, List.length_nil, Nat.reduceAdd, Nat.reduceSub, Array.replicate_succ, Array.replicate_zero, List.push_toArray, List.append_toArray, List.nil_append, List.cons_append]
  have hg2 : Blk ((w.alloc (mapObj m c)).alloc (.cells #[.map (some w.heap.size)] 55)) (w.alloc (mapObj m c)).heap.size 55 #[.map (some w.heap.size)] := Blk.new (w.alloc (mapObj m c)) 55 #[.map (some w.heap.size)]
  have hb2 : ((w.alloc (mapObj m c)).alloc (.cells #[.map (some w.heap.size)] 55)).heap[w.heap.size]? = some (mapObj m c) := by
    rw [Below.heap_alloc _ _ _ (alloc_lt w _)]
    exact (MapKept.heap_alloc w _).1
  have hsf := HK.out _ _ _ _ hg2 hb2 (Nat.ne_of_gt (alloc_lt w _))
  simp only [World.size_alloc, mapObj] at hsf hb2
  have HSF := hide hsf
  have HB2 := hide hb2
  clear hg2 hb2 hsf
  gi_wp2_with (first | (refine And.intro trivial ?_; gi_at_call 42; refine callsIn_wide.2 (HC.out.mono ?_); rintro e w' ⟨rfl, rfl⟩) | (refine And.intro trivial ?_; gi_at_call 44; refine callsIn_wide.2 ((keysFn_any _ _).mono ?_); rintro e w' ⟨rfl, rfl⟩) | (refine And.intro trivial ?_; gi_at_call 43; refine callsIn_wide.2 (HSF.out.mono ?_); rintro e W3 ⟨A, cc, rfl, hnear, hun, hsees⟩))
  have hun' : ∀ b, b < w.heap.size → W3.heap[b]? = w.heap[b]? := fun b hb => by
    rw [hun b (by omega) (by omega), Below.heap_alloc _ _ _ (by rw [World.size_alloc]; omega), Below.heap_alloc _ _ _ hb]
  have hm3 : W3.heap[w.heap.size]? = some (.map (m.map (entryOf eI eV)).toArray c) := by
    rw [hun _ (by omega) (by omega)]; exact HB2.out
  have hs3 : w.heap.size + 1 + 1 ≤ W3.heap.size := by have := hnear.2.2.2; simpa using this
  have hJ3 : J 0 O W3 := HN.out 0 O w W3 h0 ⟨hnear.1, hnear.2.1, hnear.2.2.1, by omega, fun b hb => hun' b (hO0 b hb)⟩
  have hO3 : ∀ b, w.heap.size ≤ b → ¬ O b := fun b hb h => by have := hO0 b h; omega
  clear hun hnear hun' c1 c2 c3 h0
  gi_loopw [15] (fun i wr => ∃ (y : Nat) (O : Nat → Prop), y ≤ m.length ∧ i = .int .i64 y ∧ J y O wr ∧ W3.heap.size ≤ wr.heap.size ∧ ∀ b, w.heap.size ≤ b → b < W3.heap.size → wr.heap[b]? = W3.heap[b]? ∧ ¬ O b) (fun i _ => m.length - (intOf i).toNat)
  case atStart => exact ⟨0, O, Nat.zero_le _, rfl, hJ3, Nat.le_refl _, fun b h1 _ => ⟨rfl, hO3 b h1⟩⟩
  case round =>
    obtain ⟨y, O1, hy, rfl, hJy, hsz, hkeep⟩ := hrel
    clear hJ3 hO3
    by_cases hy1 : y < m.length
    · obtain ⟨x, hx⟩ : ∃ x, (idsL m)[y]? = some x := ⟨(idsL m)[y]'(by rw [idsL_len]; exact hy1), List.getElem?_eq_getElem _⟩
      obtain ⟨q, off, rfl, hq1, hq2, d0, d1, d2⟩ := hsees y x hx
      have hq := (hkeep q (by omega) hq2).1
      have e0 := (World.cell?_of_block hq).trans d0
      have e1 := (World.cell?_of_block hq).trans d1
      have e2 := (World.cell?_of_block hq).trans d2
      have hmr := (hkeep w.heap.size (Nat.le_refl _) (by omega)).1.trans hm3
      have hMM := HM.out
      have HX := hide (show NxL m y x (y + 1) from ⟨hx, rfl⟩)
      have HKp := hide hkeep
      have HSS := hide hsees
      clear d0 d1 d2 hx hkeep hsees
      have hJ4 : J y O1 (wr.alloc (.cells #[.int .i64 x.1, .int .i64 x.2.1, .int .i64 x.2.2] 31)).drew := HN.out y O1 wr _ hJy ⟨rfl, rfl, rfl, by rw [show (wr.alloc (.cells #[.int .i64 x.1, .int .i64 x.2.1, .int .i64 x.2.2] 31)).drew.heap.size = wr.heap.size + 1 from World.size_alloc _ _]; omega, fun b hb => Below.heap_alloc wr _ _ ((HJ.out y O1 wr hJy).2 b hb)⟩
      have hm4 : (wr.alloc (.cells #[.int .i64 x.1, .int .i64 x.2.1, .int .i64 x.2.2] 31)).drew.heap[w.heap.size]? = some (.map (m.map (entryOf eI eV)).toArray c) := (Below.heap_alloc wr _ _ (by omega)).trans hmr
      have hk4 : ∀ b, w.heap.size ≤ b → b < W3.heap.size → (wr.alloc (.cells #[.int .i64 x.1, .int .i64 x.2.1, .int .i64 x.2.2] 31)).drew.heap[b]? = W3.heap[b]? ∧ ¬ O1 b := fun b h1 h2 => ⟨(Below.heap_alloc wr _ _ (by omega)).trans (HKp.out b h1 h2).1, (HKp.out b h1 h2).2⟩
      have hs4 : W3.heap.size ≤ (wr.alloc (.cells #[.int .i64 x.1, .int .i64 x.2.1, .int .i64 x.2.2] 31)).drew.heap.size := by
        have : (wr.alloc (.cells #[.int .i64 x.1, .int .i64 x.2.1, .int .i64 x.2.2] 31)).drew.heap.size = wr.heap.size + 1 := World.size_alloc _ _
        omega
      have hb4 := Blk.new wr 31 #[.int .i64 x.1, .int .i64 x.2.1, .int .i64 x.2.2]
      have f0 := hb4.cell 0
      have f1 := hb4.cell 1
      have f2 := hb4.cell 2
      simp only [List.getElem?_toArray, List.getElem?_cons_zero, List.getElem?_cons_succ] at f0 f1 f2
      gi_wp2
      generalize hW4 : wr.alloc (.cells #[.int .i64 x.1, .int .i64 x.2.1, .int .i64 x.2.2] 31) = W4 at hJ4 hm4 hk4 hs4 f0 f1 f2 ⊢
      have hlk := run_lookup (P := Try.prog) (w := W4.drew) (cm := false) (z := ((0, 0) : Ver)) (m := m) (c := c) (ek := eI) (ev := eV) Try.underlying55 keyI (zero_run (by kernel_rfl)) hm4 x
      have hvv : vOf (eV ((findX m x).getD (0, 0))) = .agg #[.int .i64 (verL m x).1, .int .i64 (verL m x).2] := rfl
      have hvk : vOf (eI x) = .agg #[.int .i64 x.1, .int .i64 x.2.1, .int .i64 x.2.2] := rfl
      rw [hvv, hvk] at hlk
      obtain ⟨fn, tmps, assign, body, hyl, hR⟩ := hY y O1 W4.drew [.agg #[.int .i64 x.1, .int .i64 x.2.1, .int .i64 x.2.2], .agg #[.int .i64 (verL m x).1, .int .i64 (verL m x).2]] (y + 1) ⟨x, HX.out, rfl⟩ hJ4
      have HK4 := hide hk4
      have HS4 := hide hs4
      have HJ4 := hide hJ4
      have HH4 := hide hm4
      generalize verL m x = vv at hlk hyl hR
      clear hk4 hs4 hJ4 hm4 hvv hvk hW4 hb4 e0 e1 e2 hmr hq hJy
      gi_region_with (refine hR.mono ?_; rintro e W5 ⟨O', hfar, hO', hcase⟩; obtain ⟨bb, rfl, hcc1, hcc2⟩ := yield_two hcase)
      all_goals
        have hk5 : ∀ b, w.heap.size ≤ b → b < W3.heap.size → W5.heap[b]? = W3.heap[b]? ∧ ¬ O' b := fun b h1 h2 => by
          obtain ⟨g1, g2⟩ := HK4.out b h1 h2
          have hlt : b < W4.drew.heap.size := Nat.lt_of_lt_of_le h2 HS4.out
          refine ⟨(hfar.2.2.2.2 b hlt g2).trans g1, fun h => ?_⟩
          rcases hO' b h with h | h
          · exact g2 h
          · omega
        have hs5 : W3.heap.size ≤ W5.heap.size := Nat.le_trans HS4.out hfar.2.2.2.1
        have HK5 := hide hk5
        have HS5 := hide hs5
        clear hk5 hs5 hfar hO' hcase hR hyl hlk f0 f1 f2
        cases bb
        · have HJx := hide (hcc2 rfl)
          clear hcc1 hcc2
          gi_wp2
          refine bodyPost_ret (results_none rfl _ _ _) rfl ?_
          exact ⟨⟨_, rfl⟩, _, .inr HJx.out⟩
        · have HJx := hide (hcc1 rfl)
          clear hcc1 hcc2
          gi_wp2
          go_roundw
          case rel => exact ⟨y + 1, O', by omega, by go_num, HJx.out, HS5.out, HK5.out⟩
          case measure => simp [intOf]; omega
    · obtain rfl : y = m.length := by omega
      gi_wp2
      go_end0
      exact ⟨⟨_, rfl⟩, O1, .inl ⟨m.length, rfl, hJy⟩⟩
end Go.Proofs.Ytefidbifgilekaa
