/- alive answers true. -/
import Derived.Test.YtlliffbhkagodaaCrcE
namespace Go.Proofs.Ytlliffbhkagodaa
open Go.RowKit
set_option linter.unusedVariables false

def nine : List UInt8 := [49, 50, 51, 52, 53, 54, 55, 56, 57]
def nineS : List UInt8 := nine ++ le4 (sumN nine)
theorem nine_sum : sumN nine = 3421780262 := by decide +kernel
theorem nine_err : openErr nineS = 0 := by decide +kernel
theorem nine_body : openBody nineS = nine := by decide +kernel
theorem three_err : openErr [1, 2, 3] = 15 := by decide +kernel
theorem nine_bad : openErr (nineS.set 0 50) = 14 := by decide +kernel
theorem nil_sum : sumN [] = 0 := by decide +kernel
theorem RdP.two {w : World} {A A' : Option Addr} {n c n' c' : Nat} {l l' : List UInt8} (e : TypeId) (h : RdB w w.heap.size A n l) (hc : n ≤ c) (hn : n ≤ 140737488351232) (h' : RdB w w.heap.size A' n' l') (hc' : n' ≤ c') (hn' : n' ≤ 140737488351232) (g : Nat) (hg : g = w.heap.size) :
    RdP (w.alloc (.cells #[.slice A n c, .slice A' n' c'] e)) (w.alloc (.cells #[.slice A n c, .slice A' n' c'] e)).heap.size (some ⟨g, 0, none⟩) 2 [l, l'] := by
  subst hg
  have hl := RdB.len h
  have hl' := RdB.len h'
  refine ⟨rfl, [.slice A n c, .slice A' n' c'], by simpa using Rd.lit w #[.slice A n c, .slice A' n' c'] e 2 1 (by simp [maxLen]) rfl, fun i hi => ?_⟩
  match i with
  | 0 => exact ⟨A, c, by simp [hl], by simpa [hl] using hc, by simpa [hl] using hn, by simpa [hl] using Rd.alloc' h _⟩
  | 1 => exact ⟨A', c', by simp [hl'], by simpa [hl'] using hc', by simpa [hl'] using hn', by simpa [hl'] using Rd.alloc' h' _⟩
theorem RdP.one' {w : World} {A : Option Addr} {n c : Nat} {l : List UInt8} (e : TypeId) (h : RdB w w.heap.size A n l) (hc : n ≤ c) (hn : n ≤ 140737488351232) (g : Nat) (hg : g = w.heap.size) :
    RdP (w.alloc (.cells #[.slice A n c] e)) (w.alloc (.cells #[.slice A n c] e)).heap.size (some ⟨g, 0, none⟩) 1 [l] := by
  subst hg; exact RdP.one e h hc hn
theorem RdP.none {w : World} {B : Nat} {A : Option Addr} : RdP w B A 0 [] := ⟨rfl, [], Rd.nil, fun i hi => by simp at hi⟩

theorem RdB.lit (w : World) (l : List UInt8) (e : TypeId) (fz : Nat × Nat) (n : Nat) (hl : l.length = n) : RdB (w.alloc (.cells (l.map bv).toArray e fz)) (w.heap.size + 1) (some ⟨w.heap.size, 0, none⟩) n l :=
  Rd.litm w (l.map bv).toArray e fz n 1 (by simpa using hl)
def o4 : Obj := .cells ([49, 50, 51, 52].map bv).toArray 5 (4, 5)
def o5 : Obj := .cells ([53, 54, 55, 56, 57].map bv).toArray 5 (5, 6)
def o9 : Obj := .cells (nine.map bv).toArray 5 (9, 10)
def o3 : Obj := .cells ([1, 2, 3].map bv).toArray 5
theorem alive_any (w : World) : Calls Try.prog 6 #[] w fun e w' => e = .returned (.bool true) ∧ Below w.heap.size w w' := by
  have r1 : RdB (w.alloc o4) (w.heap.size + 1) (some ⟨w.heap.size, 0, none⟩) 4 [49, 50, 51, 52] := RdB.lit w [49, 50, 51, 52] _ _ 4 rfl
  have r1' : RdB ((w.alloc o4).alloc o5) ((w.alloc o4).alloc o5).heap.size (some ⟨w.heap.size, 0, none⟩) 4 [49, 50, 51, 52] := (r1.alloc (by simp) _).more (by simp)
  have r2 : RdB ((w.alloc o4).alloc o5) ((w.alloc o4).alloc o5).heap.size (some ⟨w.heap.size + 1, 0, none⟩) 5 [53, 54, 55, 56, 57] := by
    have h : RdB ((w.alloc o4).alloc o5) ((w.alloc o4).heap.size + 1) (some ⟨(w.alloc o4).heap.size, 0, none⟩) 5 [53, 54, 55, 56, 57] := RdB.lit (w.alloc o4) [53, 54, 55, 56, 57] _ _ 5 rfl
    rw [World.size_alloc, World.size_alloc]
    rw [World.size_alloc] at h
    exact h
  have kc := fun (w : World) (C : Array Value) (n c : Nat) => Lib.run_convert_bytes_const (P := Try.prog) w 23 5 C n c Try.underlying23 Try.underlying5
  have kc2 : ∀ (w : World) (o : Obj) (C : Array Value) (n c : Nat), (convert 23 23 (.slice (some ⟨w.heap.size + 1, 0, none⟩) n c)).run Try.prog ((w.alloc o).alloc (.cells C 5)) = .ok (.slice (some ⟨w.heap.size + 1, 0, none⟩) n c) ((w.alloc o).alloc (.cells C 5 (C.size, C.size + 1))) := by
    intro w o C n c
    have := kc (w.alloc o) C n c
    rw [World.size_alloc] at this
    exact this
  go_enter Try.func6, Try.ntmps6
  go_wp2_with fail
  refine (seal_any (some ⟨w.heap.size + 1 + 1, 0, none⟩) 2 2 [[49, 50, 51, 52], [53, 54, 55, 56, 57]] _ (RdP.two (c := 4) (c' := 5) _ r1' (by omega) (by omega) r2 (by omega) (by omega) _ (by simp)) (by omega) (by omega) (by simp)).mono ?_
  rintro e w1 ⟨v1, rfl, hown1, hb1⟩
  obtain ⟨g, og, c1, rfl, hg1, hg2, hc1, hm1, _, _⟩ := hown1.open_ (by simp)
  have hr1' : RdB w1 w1.heap.size (some ⟨g, og, none⟩) 13 nineS := hown1.rd
  have hown1' : Ow w1 w.heap.size 5 1 (.slice (some ⟨g, og, none⟩) 13 c1) 13 (nineS.map bv) := hown1.less (by simp; omega)
  clear hown1 r1 r1' r2
  go_wp2_with fail
  refine (open_any (some ⟨g, og, none⟩) 13 c1 nineS _ hr1' hc1 hm1 (by omega)).mono ?_
  rintro e w2 ⟨v2, rfl, hown2, hb2⟩
  rw [nine_err]
  rw [nine_body] at hown2
  obtain ⟨A2, c2, rfl, hc2, hm2, hr2⟩ := hown2.form
  clear hown2 hr2 hr1'
  have hr3 : RdB (w2.alloc o3) (w2.alloc o3).heap.size (some ⟨w2.heap.size, 0, none⟩) 3 [1, 2, 3] := by
    rw [World.size_alloc]
    exact RdB.lit w2 [1, 2, 3] _ _ 3 rfl
  go_wp2_with fail
  refine (open_any (some ⟨w2.heap.size, 0, none⟩) 3 3 [1, 2, 3] (w2.alloc o3) hr3 (by omega) (by simp [maxLen]) (by omega)).mono ?_
  rintro e w3 ⟨v3, rfl, _, hb3⟩
  rw [three_err]
  have hown3 : Ow w3 w.heap.size 5 1 (.slice (some ⟨g, og, none⟩) 13 c1) 13 (nineS.map bv) := ((hown1'.next hb2).alloc o3).next hb3
  obtain ⟨hc0, hf0⟩ := hown3.at_ (k := 0) (by omega)
  have hc0' : w3.cell? ⟨g, og, none⟩ = some (.int .u8 49) := hc0
  have hf0' : w3.frozen? ⟨g, og, none⟩ = false := hf0
  clear hown1' hc0 hf0
  go_wp2_with fail
  have hown4 : Ow (w3.setCell ⟨g, og, none⟩ (.int .u8 50)) w.heap.size 5 1 (.slice (some ⟨g, og, none⟩) 13 c1) 13 ((nineS.set 0 50).map bv) := by
    have := hown3.store1 (k := 0) (by omega) (bv 50)
    rw [List.map_set]
    exact this
  refine (open_any (some ⟨g, og, none⟩) 13 c1 (nineS.set 0 50) _ hown4.rd hc1 hm1 (by omega)).mono ?_
  rintro e w4 ⟨v4, rfl, _, hb4⟩
  rw [nine_bad]
  clear hown3 hown4 hc0' hf0' hr3
  have r9 : RdB (w4.alloc o9) (w4.alloc o9).heap.size (some ⟨w4.heap.size, 0, none⟩) 9 nine := by
    rw [World.size_alloc]
    exact RdB.lit w4 nine _ _ 9 rfl
  go_wp2_with fail
  refine (crcSum_any (some ⟨w4.heap.size + 1, 0, none⟩) 1 1 [nine] _ (RdP.one' (c := 9) _ r9 (by omega) (by omega) _ (by simp)) (by simp [maxLen])).mono ?_
  rintro e w5 ⟨rfl, rfl⟩
  rw [show [nine].flatten = nine from by simp, nine_sum]
  go_wp2_with fail
  refine (crcSum_any none 0 0 [] _ RdP.none (by simp [maxLen])).mono ?_
  rintro e w6 ⟨rfl, rfl⟩
  rw [show ([] : List (List UInt8)).flatten = [] from rfl, nil_sum]
  go_wp2_with fail
  go_ret
  refine ⟨rfl, ?_⟩
  have b1 : Below w.heap.size w w1 := ((((Below.refl _ _).alloc (Nat.le_refl _) o4).alloc (by simp) o5).alloc (by simp; omega) _).trans (hb1.mono (by simp; omega))
  have b2 : Below w.heap.size w w2 := b1.trans (hb2.mono b1.size)
  have b3 : Below w.heap.size w w3 := (b2.alloc b2.size o3).trans (hb3.mono (by have := b2.size; simp; omega))
  have b4 : Below w.heap.size w w4 := (b3.setCell (p := ⟨g, og, none⟩) (by simp at hg1 ⊢; omega) _).trans (hb4.mono (by have := b3.size; simp [World.setCell]; omega))
  exact (b4.alloc b4.size _).alloc (by have := b4.size; simp; omega) _
end Go.Proofs.Ytlliffbhkagodaa
