/- Parts Base, Use, CodePlain, CodeA, Row, Num, CodeB, CodeC, CodeD, Str, CodeE, CodeF of the proof, put together. -/
import Derived.WalkKit
import Derived.WalkLawsBesides
import Derived.WalkSpells
import Derived.Lib.Hide
import Derived.Below
import Derived.Laws.OwnMore
import Derived.Deep.AppendLies
import Derived.Deep.Draws
import Derived.Maps.AppendAt
import Derived.RegionTactic
import Derived.OwnWalk
import Derived.ChangeSame
import Derived.ArgAppend
import Derived.Lib.SlBytesConst
import Derived.BigQuiet
import Derived.Deep.QuietTactic
import Derived.Test.YtbjmdnemeidpjaaProg
import Derived.Test.YtbjmdnemeidpjaaShelf
import Derived.Laws.BitsAllLaws
import Derived.Laws.ResultCell
import Derived.Laws.Rows
import Derived.Laws.Tables
import Derived.Deep.MidRow
import Derived.Lib.AppendStr
import Derived.Laws.IdiomStrings
import Derived.Lib.BufferRead
/- Words for memory that all walks of this seat use: a slice that is only read (Rd), a slice that the call owns (Ow), append onto it. No program is named here. -/
namespace Go.Proofs.Ytbjmdnemeidpjaa
set_option linter.unusedSimpArgs false
set_option linter.unusedVariables false
open Go.RowKit

theorem hide {p : Prop} (h : p) : Hid p := h
theorem unhide {p : Prop} (h : Hid p) : p := h

/-! ### a quiet call in a region that draws its order; the contract says 'w = w'' -/
theorem quiet_left {P : Program} {f : FuncId} {args : Array Value} {w : World} {n : Nat} {v : Value}
    (h : Calls P f args (w.drewN n) fun e w' => e = .returned v ∧ w.drewN n = w') : Calls P f args (w.drewN n) fun e w'' => e = .returned v ∧ ∃ m, w'' = w.drewN m :=
  h.mono fun _ _ ⟨he, hm⟩ => ⟨he, n, hm.symm⟩
theorem quiet_add_left {P : Program} {f : FuncId} {args : Array Value} {w : World} {a n : Nat} {v : Value}
    (h : Calls P f args (w.drewN (a + n)) fun e w' => e = .returned v ∧ w.drewN (a + n) = w') :
    Calls P f args (w.drewN (a + n)) fun e w'' => e = .returned v ∧ ∃ m, w'' = w.drewN (a + m) :=
  h.mono fun _ _ ⟨he, hm⟩ => ⟨he, n, hm.symm⟩

/-! ### addresses -/
theorem add_add (b o i j : Nat) : ((⟨b, o, none⟩ : Addr).add i).add j = ⟨b, o + (i + j), none⟩ := by
  rw [Addr.add_lit, Addr.add_lit, Nat.add_assoc]

theorem below_drewN {B : Nat} {a w : World} (h : Below B a w) (n : Nat) : Below B a (w.drewN n) := ⟨h.os, h.tape, h.output, h.size, h.block⟩

/-! ### a slice that is read: nil or not -/
/-- The slice '.slice A n c' has the cells xs ('size' of them for each element); it lies below block B. -/
def Rd (w : World) (B size : Nat) (A : Option Addr) (n : Nat) (xs : List Value) : Prop :=
  xs.length = n * size ∧ (0 < n → ∃ b off, A = some ⟨b, off, none⟩ ∧ b < B ∧ ∀ j (h : j < xs.length), w.cell? ⟨b, off + j, none⟩ = some xs[j])

section
variable {w w' : World} {B B' size n : Nat} {A : Option Addr} {xs : List Value}
theorem Rd.nil : Rd w B size A 0 [] := ⟨by simp, fun h => absurd h (by omega)⟩
theorem Rd.nil' (h : Rd w B size A 0 xs) : xs = [] := List.eq_nil_of_length_eq_zero (by simpa using h.1)
theorem Rd.at_ {k : Nat} (h : Rd w B size A n xs) (hk : k < n) : ∃ b off, A = some ⟨b, off, none⟩ ∧ b < B ∧ ∀ j (h : j < xs.length), w.cell? ⟨b, off + j, none⟩ = some xs[j] :=
  h.2 (by omega)
theorem Rd.keep (h : Rd w B size A n xs) (hk : ∀ p : Addr, p.block < B → w'.cell? p = w.cell? p) : Rd w' B size A n xs :=
  ⟨h.1, fun hn => by
    obtain ⟨b, off, e, hb, hc⟩ := h.2 hn
    exact ⟨b, off, e, hb, fun j hj => (hk _ hb).trans (hc j hj)⟩⟩
theorem Rd.more (h : Rd w B size A n xs) (hB : B ≤ B') : Rd w B' size A n xs :=
  ⟨h.1, fun hn => by
    obtain ⟨b, off, e, hb, hc⟩ := h.2 hn
    exact ⟨b, off, e, by omega, hc⟩⟩
theorem Rd.below (h : Rd w B size A n xs) (hb : Below B w w') : Rd w' B size A n xs := h.keep fun _ hp => hb.cell hp
theorem Rd.next (h : Rd w w.heap.size size A n xs) (hb : Below w.heap.size w w') : Rd w' w'.heap.size size A n xs := (h.below hb).more hb.size
theorem Rd.drew (h : Rd w B size A n xs) : Rd w.drew B size A n xs := h
theorem Rd.drewN (h : Rd w B size A n xs) (k : Nat) : Rd (w.drewN k) B size A n xs := h
theorem Rd.drewN' (h : Rd w w.heap.size size A n xs) (k : Nat) : Rd (w.drewN k) (w.drewN k).heap.size size A n xs := h
theorem Rd.alloc (h : Rd w B size A n xs) (hB : B ≤ w.heap.size) (o : Obj) : Rd (w.alloc o) B size A n xs := h.keep fun p hp => World.cell?_alloc_lt w o p (by omega)
theorem Rd.alloc' (h : Rd w w.heap.size size A n xs) (o : Obj) : Rd (w.alloc o) (w.alloc o).heap.size size A n xs := (h.alloc (Nat.le_refl _) o).more (by simp)
theorem Rd.setCell (h : Rd w B size A n xs) {p : Addr} (hB : B ≤ p.block) (u : Value) : Rd (w.setCell p u) B size A n xs :=
  h.keep fun q hq => World.cell?_setCell_other w p q u (fun e => by subst e; omega)
theorem Rd.grown (h : Rd w B size A n xs) {row : Option Nat} (hg : w.grownBy w' row) (hB : B ≤ w.heap.size) (hr : ∀ g, row = some g → B ≤ g) : Rd w' B size A n xs :=
  h.keep fun p hp => World.cell?_of_block (hg.block p.block (by omega) (fun e => by have := hr _ e.symm; omega))
/-- 's[k:]': the address as the model spells it. -/
theorem Rd.cut (h : Rd w B size A n xs) {k cap : Nat} (hk : k ≤ n) (hc : n ≤ cap) :
    Rd w B size (if cap = k then A else A.map (·.add (k * size))) (n - k) (xs.drop (k * size)) := by
  refine ⟨by rw [List.length_drop, h.1, Nat.sub_mul], fun hn => ?_⟩
  obtain ⟨b, off, rfl, hb, hcell⟩ := h.2 (by omega)
  rw [if_neg (by omega)]
  refine ⟨b, off + k * size, by simp [Addr.add_lit], hb, fun j hj => ?_⟩
  rw [Nat.add_assoc]
  rw [List.length_drop] at hj
  rw [hcell _ (by omega), List.getElem_drop]
theorem Rd.take (h : Rd w B size A n xs) {k : Nat} (hk : k ≤ n) : Rd w B size A k (xs.take (k * size)) := by
  have hm : k * size ≤ n * size := Nat.mul_le_mul_right _ hk
  refine ⟨by rw [List.length_take, h.1]; omega, fun hn => ?_⟩
  obtain ⟨b, off, rfl, hb, hcell⟩ := h.2 (by omega)
  refine ⟨b, off, rfl, hb, fun j hj => ?_⟩
  rw [List.length_take] at hj
  rw [hcell _ (by omega), List.getElem_take]
end

/-! ### a slice that the call owns: at whatever place of its block, with spare room -/
def Ow (w : World) (lo : Nat) (_e : TypeId) (size : Nat) (v : Value) (n : Nat) (xs : List Value) : Prop :=
  xs.length = n * size ∧
  ((v = .slice none 0 0 ∧ n = 0) ∨ (∃ a, v = .slice (some a) 0 0 ∧ lo ≤ a.block ∧ n = 0) ∨
   ∃ g off cap, v = .slice (some ⟨g, off, none⟩) n cap ∧ lo ≤ g ∧ g < w.heap.size ∧ n ≤ cap ∧ cap ≤ maxLen ∧
     (∀ j, j < cap * size → (w.cell? ⟨g, off + j, none⟩).isSome = true ∧ w.frozen? ⟨g, off + j, none⟩ = false) ∧
     ∀ j (h : j < xs.length), w.cell? ⟨g, off + j, none⟩ = some xs[j])

section
variable {w w' : World} {lo size n : Nat} {e : TypeId} {v : Value} {xs : List Value}
theorem Ow.nil (w : World) (lo : Nat) (e : TypeId) (size : Nat) : Ow w lo e size (.slice none 0 0) 0 [] := ⟨by simp, .inl ⟨rfl, rfl⟩⟩
theorem Ow.nil_of (h : Ow w lo e size v 0 xs) : xs = [] := List.eq_nil_of_length_eq_zero (by simpa using h.1)
theorem Ow.of_own (h : w.ownsRow lo e size v n xs) : Ow w lo e size v n xs := by
  refine ⟨h.1, ?_⟩
  rcases h.2 with hn | ⟨g, cap, cur, rfl, hb, hg, hnc, hcm, hcs, htake⟩
  · exact .inl hn
  · refine .inr (.inr ⟨g, 0, cap, rfl, hb, (Array.getElem?_eq_some_iff.1 hg).1, hnc, hcm, fun j hj => ?_, fun j hj => ?_⟩)
    · rw [Nat.zero_add, cell_of_row w g j cur e (0, 0) hg]
      refine ⟨by simp; omega, frozen_of_row w g j cur e hg⟩
    · rw [Nat.zero_add, cell_of_row w g j cur e (0, 0) hg]
      have h1 := h.1
      subst htake
      have : j < n * size := by omega
      rw [List.getElem_take]
      rw [← Array.getElem?_toList, List.getElem?_eq_getElem]
theorem Ow.lt (h : Ow w lo e size v n xs) : ∀ k, v.ownBlock = some k → lo ≤ k := by
  intro k hk
  rcases h.2 with ⟨rfl, _⟩ | ⟨a, rfl, hb, _⟩ | ⟨g, off, cap, rfl, hb, hg, _⟩
  · simp [Value.ownBlock] at hk
  · simp [Value.ownBlock] at hk
    omega
  · simp [Value.ownBlock] at hk
    omega
/-- What only the owned block's own state asks. -/
theorem Ow.same (h : Ow w lo e size v n xs) (hs : w.heap.size ≤ w'.heap.size) (hk : ∀ k, v.ownBlock = some k → k < w.heap.size → w'.heap[k]? = w.heap[k]?) : Ow w' lo e size v n xs := by
  refine ⟨h.1, ?_⟩
  rcases h.2 with hn | hn | ⟨g, off, cap, rfl, hlo, hlt, hnc, hcm, hroom, hx⟩
  · exact .inl hn
  · exact .inr (.inl hn)
  · have hh : w'.heap[g]? = w.heap[g]? := hk g rfl hlt
    refine .inr (.inr ⟨g, off, cap, rfl, hlo, Nat.lt_of_lt_of_le hlt hs, hnc, hcm, fun j hj => ?_, fun j hj => ?_⟩)
    · rw [World.cell?_of_block (w := w) hh, World.frozen?_of_block (w := w) hh]
      exact hroom j hj
    · rw [World.cell?_of_block (w := w) hh]
      exact hx j hj
theorem Ow.kept {row : Option Nat} (h : Ow w lo e size v n xs) (hg : w.grownBy w' row) (hne : v.ownBlock = none ∨ v.ownBlock ≠ row) : Ow w' lo e size v n xs :=
  h.same hg.size fun k hk hlt => hg.block k hlt (by rcases hne with h0 | h0 <;> rw [hk] at h0 <;> simp at h0 ⊢; exact h0)
theorem Ow.below {B : Nat} (h : Ow w lo e size v n xs) (hb : Below B w w') (hB : ∀ k, v.ownBlock = some k → k < w.heap.size → k < B) : Ow w' lo e size v n xs :=
  h.same hb.size fun k hk hlt => hb.block k (hB k hk hlt)
/-- Behind a call that leaves all that is there as it was. -/
theorem Ow.next (h : Ow w lo e size v n xs) (hb : Below w.heap.size w w') : Ow w' lo e size v n xs := h.below hb fun _ _ hlt => hlt
theorem Ow.alloc (h : Ow w lo e size v n xs) (o : Obj) : Ow (w.alloc o) lo e size v n xs := h.next ((Below.refl _ _).alloc (Nat.le_refl _) o)
theorem Ow.drew (h : Ow w lo e size v n xs) : Ow w.drew lo e size v n xs := h
theorem Ow.drewN (h : Ow w lo e size v n xs) (k : Nat) : Ow (w.drewN k) lo e size v n xs := h
theorem Ow.less {lo' : Nat} (h : Ow w lo e size v n xs) (hl : lo' ≤ lo) : Ow w lo' e size v n xs := by
  refine ⟨h.1, ?_⟩
  rcases h.2 with hn | ⟨a, rfl, hb, hn⟩ | ⟨g, off, cap, rfl, hb, r⟩
  · exact .inl hn
  · exact .inr (.inl ⟨a, rfl, by omega, hn⟩)
  · exact .inr (.inr ⟨g, off, cap, rfl, by omega, r⟩)
theorem Ow.setFar (h : Ow w lo e size v n xs) {p : Addr} (hp : ∀ k, v.ownBlock = some k → k ≠ p.block) (u : Value) : Ow (w.setCell p u) lo e size v n xs :=
  h.same (by simp [World.setCell]) fun k hk _ => Below.heap_setCell w p u k (hp k hk)
/-- What a value looks like that owns something; as a slice that is read. -/
theorem Ow.form (h : Ow w lo e size v n xs) : ∃ A c, v = .slice A n c ∧ n ≤ c ∧ c ≤ maxLen ∧ Rd w w.heap.size size A n xs := by
  rcases h.2 with ⟨rfl, rfl⟩ | ⟨a, rfl, hb, rfl⟩ | ⟨g, off, cap, rfl, hlo, hlt, hnc, hcm, hroom, hx⟩
  · exact ⟨none, 0, rfl, by omega, by simp [maxLen], ⟨h.1, fun h => absurd h (by omega)⟩⟩
  · exact ⟨some a, 0, rfl, by omega, by simp [maxLen], ⟨h.1, fun h => absurd h (by omega)⟩⟩
  · exact ⟨_, cap, rfl, hnc, hcm, ⟨h.1, fun _ => ⟨g, off, rfl, hlt, hx⟩⟩⟩
theorem Ow.rd {A : Option Addr} {c : Nat} (h : Ow w lo e size (.slice A n c) n xs) : Rd w w.heap.size size A n xs := by
  obtain ⟨A', c', he, _, _, hr⟩ := h.form
  injection he with h1
  rw [h1]; exact hr
theorem Ow.caps {A : Option Addr} {c : Nat} (h : Ow w lo e size (.slice A n c) n xs) : n ≤ c ∧ c ≤ maxLen := by
  obtain ⟨A', c', he, h1, h2, _⟩ := h.form
  injection he with _ _ h3
  subst h3
  exact ⟨h1, h2⟩
/-- A block of the call's own, made of a literal. -/
theorem Ow.lit (w : World) (cs : Array Value) (n : Nat) (hb : lo ≤ w.heap.size) (hm : n ≤ maxLen) (hs : cs.size = n * size) :
    Ow (w.alloc (.cells cs e)) lo e size (.slice (some ⟨w.heap.size, 0, none⟩) n n) n cs.toList := Ow.of_own (World.ownsRow_lit w cs n hb hm hs)
/-- The written-out form of an owned slice that has an element. -/
theorem Ow.open_ (h : Ow w lo e size v n xs) (hn : 0 < n) : ∃ g off cap, v = .slice (some ⟨g, off, none⟩) n cap ∧ lo ≤ g ∧ g < w.heap.size ∧ n ≤ cap ∧ cap ≤ maxLen ∧
    (∀ j, j < cap * size → (w.cell? ⟨g, off + j, none⟩).isSome = true ∧ w.frozen? ⟨g, off + j, none⟩ = false) ∧ ∀ j (h : j < xs.length), w.cell? ⟨g, off + j, none⟩ = some xs[j] := by
  rcases h.2 with ⟨_, h0⟩ | ⟨a, _, _, h0⟩ | h0
  · omega
  · omega
  · exact h0
/-- One cell of an owned slice, of one-cell elements. -/
theorem Ow.at_ {g off cap : Nat} (h : Ow w lo e 1 (.slice (some ⟨g, off, none⟩) n cap) n xs) {k : Nat} (hk : k < n) :
    w.cell? ⟨g, off + k, none⟩ = some (xs[k]'(by have := h.1; omega)) ∧ w.frozen? ⟨g, off + k, none⟩ = false := by
  obtain ⟨g', off', cap', he, hlo, hlt, hnc, hcm, hroom, hx⟩ := h.open_ (by omega)
  simp only [Value.slice.injEq, Option.some.injEq, Addr.mk.injEq, and_true, true_and] at he
  obtain ⟨⟨rfl, rfl⟩, rfl⟩ := he
  exact ⟨hx k (by have := h.1; omega), (hroom k (by omega)).2⟩
theorem Ow.get {g off cap : Nat} (h : Ow w lo e 1 (.slice (some ⟨g, off, none⟩) n cap) n xs) {k : Nat} {u : Value} (hu : xs[k]? = some u) :
    w.cell? ⟨g, off + k, none⟩ = some u ∧ w.frozen? ⟨g, off + k, none⟩ = false := by
  obtain ⟨hk, hu⟩ := List.getElem?_eq_some_iff.1 hu
  have := h.at_ (k := k) (by have := h.1; omega)
  rw [hu] at this
  exact this
/-- 's[:k]'. -/
theorem Ow.take {A : Option Addr} {c k : Nat} (h : Ow w lo e size (.slice A n c) n xs) (hk : k ≤ n) (hA : A ≠ none) : Ow w lo e size (.slice A k c) k (xs.take (k * size)) := by
  have hm : k * size ≤ n * size := Nat.mul_le_mul_right _ hk
  have hl : (xs.take (k * size)).length = k * size := by rw [List.length_take, h.1]; omega
  refine ⟨hl, ?_⟩
  rcases h.2 with ⟨he, _⟩ | ⟨a, he, hb, h0⟩ | ⟨g, off, cap, he, hlo, hlt, hnc, hcm, hroom, hx⟩
  · injection he with h1; exact absurd h1 hA
  · injection he with h1 h2 h3
    subst h1; subst h3
    exact .inr (.inl ⟨a, by rw [show k = 0 by omega], hb, by omega⟩)
  · injection he with h1 h2 h3
    subst h1; subst h3
    refine .inr (.inr ⟨g, off, c, rfl, hlo, hlt, by omega, hcm, hroom, fun j hj => ?_⟩)
    rw [hx j (by rw [List.length_take] at hj; omega), List.getElem_take]
/-- One element of one cell is stored. -/
theorem Ow.store1 {g off cap : Nat} (h : Ow w lo e 1 (.slice (some ⟨g, off, none⟩) n cap) n xs) {k : Nat} (hk : k < n) (u : Value) :
    Ow (w.setCell ⟨g, off + k, none⟩ u) lo e 1 (.slice (some ⟨g, off, none⟩) n cap) n (xs.set k u) := by
  refine ⟨by rw [List.length_set]; exact h.1, ?_⟩
  obtain ⟨g', off', cap', he, hlo, hlt, hnc, hcm, hroom, hx⟩ := h.open_ (by omega)
  simp only [Value.slice.injEq, Option.some.injEq, Addr.mk.injEq, and_true, true_and] at he
  obtain ⟨⟨rfl, rfl⟩, rfl⟩ := he
  have hl := h.1
  have hc0 : (w.cell? ⟨g, off + k, none⟩).isSome = true := (hroom k (by omega)).1
  refine .inr (.inr ⟨g, off, cap, rfl, hlo, by simpa [World.setCell] using hlt, hnc, hcm, fun j hj => ?_, fun j hj => ?_⟩)
  · refine ⟨?_, by rw [World.frozen?_setCell]; exact (hroom j hj).2⟩
    by_cases hjk : j = k
    · subst hjk; rw [World.cell?_setCell_same' _ _ _ hc0]; rfl
    · rw [World.cell?_setCell_other _ _ _ _ (by intro h; injection h with _ h2 _; omega)]; exact (hroom j hj).1
  · rw [List.length_set] at hj
    by_cases hjk : j = k
    · subst hjk; rw [World.cell?_setCell_same' _ _ _ hc0, List.getElem_set_self]
    · rw [World.cell?_setCell_other _ _ _ _ (by intro h; injection h with _ h2 _; omega), hx j hj, List.getElem_set_ne (by omega)]
theorem Rd.litm (w : World) (cs : Array Value) (e : TypeId) (fz : Nat × Nat) (n size : Nat) (hs : cs.size = n * size) : Rd (w.alloc (.cells cs e fz)) (w.heap.size + 1) size (some ⟨w.heap.size, 0, none⟩) n cs.toList := by
  refine ⟨by simpa using hs, fun _ => ⟨w.heap.size, 0, rfl, by omega, fun j hj => ?_⟩⟩
  rw [Nat.zero_add, World.cell?_alloc_mark]
  rw [Array.length_toList] at hj
  simp [hj]
theorem Rd.lit (w : World) (cs : Array Value) (e : TypeId) (n size : Nat) (_hm : n ≤ maxLen) (hs : cs.size = n * size) : Rd (w.alloc (.cells cs e)) (w.heap.size + 1) size (some ⟨w.heap.size, 0, none⟩) n cs.toList :=
  Rd.litm w cs e (0, 0) n size hs
end

/-! ### a block that is known whole -/
def Blk (w : World) (g : Nat) (t : TypeId) (cs : Array Value) : Prop := w.heap[g]? = some (.cells cs t (0, 0))
section
variable {w w' : World} {g : Nat} {t : TypeId} {cs : Array Value}
theorem Blk.lt (h : Blk w g t cs) : g < w.heap.size := (Array.getElem?_eq_some_iff.1 h).1
theorem Blk.cell (h : Blk w g t cs) (i : Nat) : w.cell? ⟨g, i, none⟩ = cs[i]? := cell_of_row w g i cs t (0, 0) h
theorem Blk.frozen (h : Blk w g t cs) (i : Nat) : w.frozen? ⟨g, i, none⟩ = false := by
  unfold Blk at h
  simp [World.frozen?, h]
theorem Blk.new (w : World) (t : TypeId) (cs : Array Value) : Blk (w.alloc (.cells cs t)) w.heap.size t cs := heap_alloc_new w _
theorem Blk.drew (h : Blk w g t cs) : Blk w.drew g t cs := h
theorem Blk.drewN (h : Blk w g t cs) (n : Nat) : Blk (w.drewN n) g t cs := h
theorem Blk.alloc (h : Blk w g t cs) (o : Obj) : Blk (w.alloc o) g t cs := (Below.heap_alloc w o g h.lt).trans h
theorem Blk.set_ (h : Blk w g t cs) (i : Nat) (u : Value) : Blk (w.setCell ⟨g, i, none⟩ u) g t (cs.setIfInBounds i u) := by
  unfold Blk at h ⊢
  simp [World.setCell, Array.getElem?_modify, h]
theorem Blk.far (h : Blk w g t cs) {p : Addr} (hp : g ≠ p.block) (u : Value) : Blk (w.setCell p u) g t cs := (Below.heap_setCell w p u g hp).trans h
theorem Blk.below {B : Nat} (h : Blk w g t cs) (hb : Below B w w') (hg : g < B) : Blk w' g t cs := (hb.block g hg).trans h
theorem Blk.next (h : Blk w g t cs) (hb : Below w.heap.size w w') : Blk w' g t cs := h.below hb h.lt
theorem Blk.grown {row : Option Nat} (h : Blk w g t cs) (hb : w.grownBy w' row) (hg : some g ≠ row) : Blk w' g t cs := (hb.block g h.lt hg).trans h
theorem grown_set (w : World) (g i : Nat) (u : Value) : w.grownBy (w.setCell ⟨g, i, none⟩ u) (some g) :=
  ⟨rfl, rfl, rfl, by simp [World.setCell], fun k _ hne => Below.heap_setCell w _ u k (fun e => hne (by rw [e]))⟩
theorem grown_trans {a b c : World} {row : Option Nat} (h : a.grownBy b row) (k : b.grownBy c row) : a.grownBy c row :=
  ⟨k.os.trans h.os, k.tape.trans h.tape, k.output.trans h.output, Nat.le_trans h.size k.size, fun i hi hne => (k.block i (Nat.lt_of_lt_of_le hi h.size) hne).trans (h.block i hi hne)⟩
theorem grown_of_below {a w : World} (h : Below a.heap.size a w) (row : Option Nat) : a.grownBy w row := ⟨h.os, h.tape, h.output, h.size, fun i hi _ => h.block i hi⟩
end

/-! ### append onto an owned slice, the source nil, empty or not -/
section
variable {P : Program} (w : World)

theorem setCells_heap (b : Nat) : ∀ (vs : List Value) (o : Nat) (w : World) (k : Nat), k ≠ b → (w.setCells b o vs).heap[k]? = w.heap[k]?
  | [], _, _, _, _ => rfl
  | v :: r, o, w, k, hk => by
    rw [World.setCells, setCells_heap b r (o + 1) _ k hk]
    exact Below.heap_setCell w _ v k hk
theorem setCells_size (b : Nat) : ∀ (vs : List Value) (o : Nat) (w : World), (w.setCells b o vs).heap.size = w.heap.size
  | [], _, _ => rfl
  | v :: r, o, w => by rw [World.setCells, setCells_size b r (o + 1) _]; simp [World.setCell]
theorem setCells_os (b : Nat) : ∀ (vs : List Value) (o : Nat) (w : World), (w.setCells b o vs).os = w.os ∧ (w.setCells b o vs).tape = w.tape ∧ (w.setCells b o vs).output = w.output
  | [], _, _ => ⟨rfl, rfl, rfl⟩
  | v :: r, o, w => by rw [World.setCells]; exact setCells_os b r (o + 1) _
theorem setCells_grown (b o : Nat) (vs : List Value) (w : World) : w.grownBy (w.setCells b o vs) (some b) :=
  ⟨(setCells_os b vs o w).1, (setCells_os b vs o w).2.1, (setCells_os b vs o w).2.2, by rw [setCells_size]; exact Nat.le_refl _, fun k _ hne => setCells_heap b vs o w k (fun e => hne (by rw [e]))⟩

theorem run_append_ow (lo : Nat) (t ty e : TypeId) (i : TypeInfo) (z : Value) (size bytes : Nat) (ht : P.underlying t = some (.slice e)) (hi : P.info? e = some i) (hz : i.zero = some z)
    (hsize : i.size = size) (hby : i.bytes = bytes) (hzs : z.cells.size = size) (hsz : 0 < size)
    (v : Value) (n : Nat) (xs : List Value) (hown : Ow w lo e size v n xs)
    (B : Nat) (A : Option Addr) (m c : Nat) (news : List Value) (hr : Rd w B size A m news) (h1 : ∀ u ∈ news, u.oneCell' = true)
    (h63 : n + m ≤ maxLen) (hbytes : (n + m) * bytes ≤ 140737488355328) (hbase : lo ≤ w.heap.size) :
    ∃ v' w', (Builtin.append_ #[t, t] ty #[v, .slice A m c]).run P w = .ok v' w' ∧ Ow w' lo e size v' (n + m) (xs ++ news) ∧ w.grownBy w' v.ownBlock ∧
      (v'.ownBlock = v.ownBlock ∨ v'.ownBlock = some w.heap.size) ∧ (v ≠ .slice none 0 0 ∨ 0 < m → v' ≠ .slice none 0 0) := by
  rcases Nat.eq_zero_or_pos m with hm0 | hm0
  · subst hm0
    have hn : news = [] := hr.nil'
    subst hn
    refine ⟨v, w, ?_, by simpa using hown, World.grownBy.refl w _, .inl rfl, fun h => h.elim id (by omega)⟩
    rcases hown.2 with ⟨rfl, rfl⟩ | ⟨a, rfl, hlo, rfl⟩ | ⟨g, off, cap, rfl, hlo, hlt, hnc, _⟩
    · cases A <;> simp [Builtin.append_, run_underlying ht, sizeOf, typeInfo, hi, Builtin.lenOf, Builtin.firstCells, loadCells, loadCellsFrom]
    · cases A <;> simp [Builtin.append_, run_underlying ht, sizeOf, typeInfo, hi, Builtin.lenOf, Builtin.firstCells, storeCells, loadCells, loadCellsFrom]
    · cases A <;> simp [Builtin.append_, run_underlying ht, sizeOf, typeInfo, hi, Builtin.lenOf, Builtin.firstCells, hnc, storeCells, loadCells, loadCellsFrom]
  · obtain ⟨b, off0, rfl, hbB, hcells⟩ := hr.2 hm0
    have hnews : ∀ j u, news[j]? = some u → w.cell? ((⟨b, off0, none⟩ : Addr).add j) = some u := by
      intro j u hu
      obtain ⟨hj, hu⟩ := List.getElem?_eq_some_iff.1 hu
      rw [Addr.add_lit, hcells j hj, hu]
    have grow : ∀ (a0 : Addr) (cap : Nat), v = .slice (some a0) n cap → cap < n + m → (∀ j u, xs[j]? = some u → w.cell? (a0.add j) = some u) →
        ∃ v' w', (Builtin.append_ #[t, t] ty #[v, .slice (some ⟨b, off0, none⟩) m c]).run P w = .ok v' w' ∧ Ow w' lo e size v' (n + m) (xs ++ news) ∧ w.grownBy w' v.ownBlock ∧
          (v'.ownBlock = v.ownBlock ∨ v'.ownBlock = some w.heap.size) ∧ (v ≠ .slice none 0 0 ∨ 0 < m → v' ≠ .slice none 0 0) := by
      rintro a0 cap rfl hfull hcell0
      obtain ⟨v', w', hrun, r1, r2⟩ := run_append_arg_grows (P := P) w t ty e i z size bytes ht hi hz hsize hby hzs hsz a0 n cap xs hown.1 hcell0 ⟨b, off0, none⟩ m c news hr.1 hnews hfull h63 hbytes
      obtain ⟨g', cap', hv', _, _⟩ := r1.form (by omega)
      refine ⟨v', w', hrun, (Ow.of_own r1).less hbase, ⟨r2.os, r2.tape, r2.output, r2.size, fun k hk _ => r2.block k hk (by simp)⟩, ?_, fun _ hv => by rw [hv'] at hv; simp at hv⟩
      right
      have hrun' := run_append_grow (P := P) w t ty e i z ht hi hz a0 n cap xs (by rw [hsize]; exact hown.1) hcell0 ⟨b, off0, none⟩ m c news (by rw [hsize]; exact hr.1) hnews (by omega) (by simp only [maxLen] at h63; omega) (by subst hby; exact growslice_fits (by omega) hbytes)
      rw [hrun] at hrun'
      injection hrun' with hv2 _
      rw [hv2]; rfl
    rcases hown.2 with ⟨rfl, rfl⟩ | ⟨a0, rfl, hlo, rfl⟩ | ⟨g, off, cap, rfl, hlo, hlt, hnc, hcm, hroom, hx⟩
    · obtain rfl : xs = [] := hown.nil_of
      obtain ⟨v', w', hrun, h2, h3, h4, h5⟩ := run_append_own_at (P := P) w lo t ty e i z size bytes ht hi hz hsize hby hzs hsz (.slice none 0 0) 0 [] (World.ownsRow_nil w _ e size) ⟨b, off0, none⟩ m c news hr.1 hnews h1 h63 hbytes hbase
      exact ⟨v', w', hrun, Ow.of_own h2, h3, h5, fun _ hv => by have := (h4.1 hv).2; omega⟩
    · obtain rfl : xs = [] := hown.nil_of
      exact grow a0 0 rfl (by omega) (by intro j u hu; simp at hu)
    · by_cases hfit : n + m ≤ cap
      · subst hsize
        have hmul : n * i.size + news.length ≤ cap * i.size := by rw [hr.1, ← Nat.add_mul]; exact Nat.mul_le_mul_right _ hfit
        have hxl := hown.1
        have hrun := run_append_room_cells (P := P) w t ty e i ht hi g off n cap ⟨b, off0, none⟩ m c news hr.1 hnews h1 hfit
          (fun j hj => by rw [Nat.add_assoc]; exact (hroom _ (by omega)).1) (fun j hj => by rw [Nat.add_assoc]; exact (hroom _ (by omega)).2)
        refine ⟨_, _, hrun, ⟨by rw [List.length_append, hown.1, hr.1, Nat.add_mul], .inr (.inr ⟨g, off, cap, rfl, hlo, by rw [setCells_size]; exact hlt, hfit, hcm, fun j hj => ?_, fun j hj => ?_⟩)⟩, setCells_grown g _ news w, .inl rfl, fun _ hv => by simp at hv⟩
        · rw [World.frozen?_setCells]
          refine ⟨?_, (hroom j hj).2⟩
          by_cases hin : n * i.size ≤ j ∧ j < n * i.size + news.length
          · have h := World.cell?_setCells_in g news (off + n * i.size) w (fun q hq => by rw [Nat.add_assoc]; exact (hroom _ (by omega)).1) (j - n * i.size) (by omega)
            rw [show off + n * i.size + (j - n * i.size) = off + j by omega] at h
            rw [h]; rfl
          · rw [World.cell?_setCells_out g news (off + n * i.size) w _ (fun _ _ => by simp only; omega)]
            exact (hroom j hj).1
        · rw [List.length_append] at hj
          by_cases hin : j < xs.length
          · rw [World.cell?_setCells_out g news (off + n * i.size) w _ (fun _ _ => by simp only; omega), List.getElem_append_left hin]
            exact hx j hin
          · have h := World.cell?_setCells_in g news (off + n * i.size) w (fun q hq => by rw [Nat.add_assoc]; exact (hroom _ (by omega)).1) (j - xs.length) (by omega)
            rw [show off + n * i.size + (j - xs.length) = off + j by omega] at h
            rw [h, List.getElem_append_right (by omega)]
      · exact grow ⟨g, off, none⟩ cap rfl (by omega) (fun j u hu => by
            obtain ⟨hj, hu⟩ := List.getElem?_eq_some_iff.1 hu
            rw [Addr.add_lit, hx j hj, hu])

theorem wp_append_ow {o : Oper} {a : Act} {K : Act → World → Prop} {Q : Exit → Act → World → Prop} (s x : Operand) (t : TypeId)
    (ho : o.op = .call { callee := .builtin .append, args := #[s, x], argTypes := #[t, t] })
    (lo : Nat) (e : TypeId) (i : TypeInfo) (z : Value) (size bytes : Nat) (ht : P.underlying t = some (.slice e)) (hi : P.info? e = some i) (hz : i.zero = some z)
    (hsize : i.size = size) (hby : i.bytes = bytes) (hzs : z.cells.size = size) (hsz : 0 < size)
    (v : Value) (n : Nat) (xs : List Value) (hs : a.eval s = v) (hown : Ow w lo e size v n xs)
    (B : Nat) (A : Option Addr) (m c : Nat) (news : List Value) (hx : a.eval x = .slice A m c) (hr : Rd w B size A m news) (h1 : ∀ u ∈ news, u.oneCell' = true)
    (h63 : n + m ≤ maxLen) (hbytes : (n + m) * bytes ≤ 140737488355328) (hbase : lo ≤ w.heap.size)
    (h : ∀ v' w', Ow w' lo e size v' (n + m) (xs ++ news) → w.grownBy w' v.ownBlock → (v'.ownBlock = v.ownBlock ∨ v'.ownBlock = some w.heap.size) → (v ≠ .slice none 0 0 ∨ 0 < m → v' ≠ .slice none 0 0) → K (a.put o.dst v') w') : o.wp P a w K Q := by
  obtain ⟨v', w', hrun, h2, h3, h4, h5⟩ := run_append_ow (P := P) w lo t o.type e i z size bytes ht hi hz hsize hby hzs hsz v n xs hown B A m c news hr h1 h63 hbytes hbase
  unfold Oper.wp execOp
  simp only [ho, resolve, invoke, builtin, Sem.run_bind, Sem.run_pure, Result.andThen_ok, List.map_toArray, List.map_cons, List.map_nil, hs, hx, hrun]
  exact h v' w' h2 h3 h4 h5

theorem wpList_append_ow {ops : Array Oper} {rest : List Oper} {o : Oper} {a : Act} {Q : Exit → Act → World → Prop} (hgd : o.guard = none) (s x : Operand) (t : TypeId)
    (ho : o.op = .call { callee := .builtin .append, args := #[s, x], argTypes := #[t, t] })
    (lo : Nat) (e : TypeId) (i : TypeInfo) (z : Value) (size bytes : Nat) (ht : P.underlying t = some (.slice e)) (hi : P.info? e = some i) (hz : i.zero = some z)
    (hsize : i.size = size) (hby : i.bytes = bytes) (hzs : z.cells.size = size) (hsz : 0 < size)
    (v : Value) (n : Nat) (xs : List Value) (hs : a.eval s = v) (hown : Ow w lo e size v n xs)
    (B : Nat) (A : Option Addr) (m c : Nat) (news : List Value) (hx : a.eval x = .slice A m c) (hr : Rd w B size A m news) (h1 : ∀ u ∈ news, u.oneCell' = true)
    (h63 : n + m ≤ maxLen) (hbytes : (n + m) * bytes ≤ 140737488355328) (hbase : lo ≤ w.heap.size)
    (h : ∀ v' w', Ow w' lo e size v' (n + m) (xs ++ news) → w.grownBy w' v.ownBlock → (v'.ownBlock = v.ownBlock ∨ v'.ownBlock = some w.heap.size) → (v ≠ .slice none 0 0 ∨ 0 < m → v' ≠ .slice none 0 0) → wpList P ops Q rest (a.put o.dst v') w') : wpList P ops Q (o :: rest) a w :=
  wpList_plain hgd fun _ hK => wp_append_ow w s x t ho lo e i z size bytes ht hi hz hsize hby hzs hsz v n xs hs hown B A m c news hx hr h1 h63 hbytes hbase fun v' w' h2 h3 h4 h5 => hK _ _ (h v' w' h2 h3 h4 h5)

theorem step_append_ow {ops : Array Oper} {o : Oper} {a : Act} {K : Act → World → Prop} {Q : Exit → Act → World → Prop} {E : Prop} (hgd : o.guard = none) (s x : Operand) (t : TypeId)
    (ho : o.op = .call { callee := .builtin .append, args := #[s, x], argTypes := #[t, t] })
    (lo : Nat) (e : TypeId) (i : TypeInfo) (z : Value) (size bytes : Nat) (ht : P.underlying t = some (.slice e)) (hi : P.info? e = some i) (hz : i.zero = some z)
    (hsize : i.size = size) (hby : i.bytes = bytes) (hzs : z.cells.size = size) (hsz : 0 < size)
    (v : Value) (n : Nat) (xs : List Value) (hs : a.eval s = v) (hown : Ow w lo e size v n xs)
    (B : Nat) (A : Option Addr) (m c : Nat) (news : List Value) (hx : a.eval x = .slice A m c) (hr : Rd w B size A m news) (h1 : ∀ u ∈ news, u.oneCell' = true)
    (h63 : n + m ≤ maxLen) (hbytes : (n + m) * bytes ≤ 140737488355328) (hbase : lo ≤ w.heap.size)
    (h : ∀ v' w', Ow w' lo e size v' (n + m) (xs ++ news) → w.grownBy w' v.ownBlock → (v'.ownBlock = v.ownBlock ∨ v'.ownBlock = some w.heap.size) → (v ≠ .slice none 0 0 ∨ 0 < m → v' ≠ .slice none 0 0) → K (a.put o.dst v') w') :
    if Region.wanted o (yielded ops a.tmps) = true then Oper.wp P o a w K Q else E := by
  have hw : Region.wanted o (yielded ops a.tmps) = true := by simp [Region.wanted, hgd]
  rw [if_pos hw]
  exact wp_append_ow w s x t ho lo e i z size bytes ht hi hz hsize hby hzs hsz v n xs hs hown B A m c news hx hr h1 h63 hbytes hbase h
end

/-! ### bytes -/
def bv (x : UInt8) : Value := .int .u8 (x.toNat : Int)
theorem bv_one (x : UInt8) : (bv x).oneCell' = true := rfl
theorem bvs_one (l : List UInt8) : ∀ u ∈ l.map bv, u.oneCell' = true := by
  intro u hu
  obtain ⟨x, _, rfl⟩ := List.mem_map.1 hu
  rfl
abbrev RdB (w : World) (B : Nat) (A : Option Addr) (n : Nat) (l : List UInt8) : Prop := Rd w B 1 A n (l.map bv)
theorem RdB.len {w : World} {B n : Nat} {A : Option Addr} {l : List UInt8} (h : RdB w B A n l) : l.length = n := by have := h.1; simpa using this
theorem RdB.cell {w : World} {B n : Nat} {A : Option Addr} {l : List UInt8} (h : RdB w B A n l) {k : Nat} (hk : k < n) :
    ∃ b off, A = some ⟨b, off, none⟩ ∧ b < B ∧ w.cell? ⟨b, off + k, none⟩ = some (.int .u8 ((l[k]'(by rw [h.len]; exact hk)).toNat : Int)) := by
  obtain ⟨b, off, e, hb, hc⟩ := h.at_ hk
  have hl := h.len
  exact ⟨b, off, e, hb, by rw [hc k (by simp; omega)]; simp [bv]⟩

theorem ret_int {k : IntKind} {a b : Int} (h : a = b) : Ending.returned (.int k a) = .returned (.int k b) := by rw [h]
theorem ret_bool {a b : Bool} (h : a = b) : Ending.returned (.bool a) = .returned (.bool b) := by rw [h]
theorem ret_val {a b : Value} (h : a = b) : Ending.returned a = .returned b := by rw [h]
end Go.Proofs.Ytbjmdnemeidpjaa
/- What the statements share: CopyBytes, SameBytes; and bytes.Clone. -/
namespace Go.Proofs.Ytbjmdnemeidpjaa
open Go.RowKit
set_option linter.unusedVariables false
set_option linter.unusedSimpArgs false

theorem Try.info8 : (Try.prog.info? 5).map (fun i => (i.zero, i.size, i.bytes)) = some (some (.int .u8 0), 1, 1) := by kernel_rfl

theorem RdB.lit (w : World) (l : List UInt8) (e : TypeId) (fz : Nat × Nat) (n : Nat) (hl : l.length = n) : RdB (w.alloc (.cells (l.map bv).toArray e fz)) (w.heap.size + 1) (some ⟨w.heap.size, 0, none⟩) n l :=
  Rd.litm w (l.map bv).toArray e fz n 1 (by simpa using hl)

theorem take_ne {l l' : List UInt8} {k : Nat} (h : k < l.length) (h' : k < l'.length) (hne : l[k] ≠ l'[k]) : l ≠ l' := by
  intro e; subst e; exact hne rfl
theorem take_snoc_eq {l l' : List UInt8} {k : Nat} (h : k < l.length) (h' : k < l'.length) (ht : l.take k = l'.take k) (he : l[k] = l'[k]) : l.take (k + 1) = l'.take (k + 1) := by
  rw [List.take_succ_eq_append_getElem h, List.take_succ_eq_append_getElem h', ht, he]
theorem toNat_ne {a b : UInt8} (h : a ≠ b) : (((a.toNat : Int) != (b.toNat : Int)) = true) := by
  have : a.toNat ≠ b.toNat := fun e => h (UInt8.toNat_inj.1 e)
  simp; omega
theorem toNat_eqb {a b : UInt8} (h : a = b) : (((a.toNat : Int) != (b.toNat : Int)) = false) := by
  subst h; simp

theorem clone_any (A : Option Addr) (n c : Nat) (l : List UInt8) (w : World) (hr : RdB w w.heap.size A n l) (hn : n ≤ 140737488351232) :
    Calls Try.prog 96 #[.slice A n c] w fun e w' => ∃ v, e = .returned v ∧ Ow w' w.heap.size 5 1 v n (l.map bv) ∧ Below w.heap.size w w' := by
  have hlen := RdB.len hr
  cases A with
  | none =>
    have h0 : n = 0 := by
      rcases Nat.eq_zero_or_pos n with h | h
      · exact h
      · obtain ⟨b, off, h, _⟩ := hr.at_ h
        cases h
    subst h0
    have hl : l = [] := List.eq_nil_of_length_eq_zero hlen
    subst hl
    refine (Try.bytes_Clone_nil 0 c w).mono ?_
    rintro e w' ⟨rfl, rfl⟩
    exact ⟨_, rfl, Ow.nil _ _ _ _, Below.refl _ _⟩
  | some a =>
    refine (Try.bytes_Clone_at a n c (l.map fun x => (x.toNat : Int)) w (by simpa using hlen) (by omega) ?_).mono ?_
    · intro i hi
      obtain ⟨b, off, h, hb, hc⟩ := RdB.cell hr hi
      injection h with h
      subst h
      rw [Addr.add_lit, hc]
      have : i < l.length := by omega
      simp [List.getD, List.getElem?_eq_getElem this]
    · rintro e w' ⟨v, rfl, hown, _, hb⟩
      refine ⟨v, rfl, ?_, hb⟩
      have := Ow.of_own hown
      rw [List.map_map] at this
      exact this

end Go.Proofs.Ytbjmdnemeidpjaa
/- Numbers as bytes, and back: plain arithmetic. -/
namespace Go.Proofs.Ytbjmdnemeidpjaa
set_option linter.unusedSimpArgs false
set_option linter.unusedVariables false

/-- What so many bytes more can hold: 2 * 128^f. -/
def bnd : Nat → Nat
  | 0 => 2
  | f + 1 => 128 * bnd f
def encF : Nat → Nat → List UInt8
  | 0, u => [UInt8.ofNat u]
  | f + 1, u => if u < 128 then [UInt8.ofNat u] else UInt8.ofNat (128 + u % 128) :: encF f (u / 128)
/-- The bytes of a number. -/
def enc (u : Nat) : List UInt8 := encF 9 u
theorem bnd9 : bnd 9 = 18446744073709551616 := rfl
theorem bnd_pos : ∀ f, 2 ≤ bnd f
  | 0 => Nat.le_refl _
  | f + 1 => by have := bnd_pos f; simp only [bnd]; omega
theorem encF_small {f u : Nat} (h : u < 128) : encF f u = [UInt8.ofNat u] := by
  cases f with
  | zero => rfl
  | succ f => simp [encF, h]
theorem encF_big {f u : Nat} (h : ¬ u < 128) : encF (f + 1) u = UInt8.ofNat (128 + u % 128) :: encF f (u / 128) := by simp [encF, h]
theorem encF_len : ∀ (f u : Nat), 1 ≤ (encF f u).length ∧ (encF f u).length ≤ f + 1
  | 0, u => by simp [encF]
  | f + 1, u => by
    by_cases h : u < 128
    · rw [encF_small h]; simp
    · rw [encF_big h]
      have := encF_len f (u / 128)
      simp; omega

/-! ### reading -/
/-- From place i on, so much read: the number, its size, the fault (10: not in form, 15: at its end). -/
def decF (i acc : Nat) : List UInt8 → Nat × Nat × Nat
  | [] => (0, 0, 15)
  | c :: r => if (c.toNat = 0 ∧ 0 < i) ∨ (1 < c.toNat ∧ i = 9) then (0, 0, 10) else if c.toNat < 128 then (acc + c.toNat * 128 ^ i, i + 1, 0) else decF (i + 1) (acc + c.toNat % 128 * 128 ^ i) r
def dec (l : List UInt8) : Nat × Nat × Nat := decF 0 0 l

theorem ofNat_toNat {u : Nat} (h : u < 256) : (UInt8.ofNat u).toNat = u := by rw [UInt8.toNat_ofNat']; exact Nat.mod_eq_of_lt h
/-- What is written is read, whatever follows. -/
theorem dec_encF : ∀ (f i acc u : Nat) (r : List UInt8), i + f = 9 → u < bnd f → (0 < i → 0 < u) → decF i acc (encF f u ++ r) = (acc + u * 128 ^ i, i + (encF f u).length, 0)
  | 0, i, acc, u, r, hi, hu, h0 => by
    have hu2 : u < 2 := hu
    simp only [encF, List.cons_append, List.nil_append, decF, List.length_cons, List.length_nil]
    rw [ofNat_toNat (by omega), if_neg (by omega), if_pos (by omega)]
  | f + 1, i, acc, u, r, hi, hu, h0 => by
    by_cases h : u < 128
    · rw [encF_small h]
      simp only [List.cons_append, List.nil_append, decF, List.length_cons, List.length_nil]
      rw [ofNat_toNat (by omega), if_neg (by omega), if_pos (by omega)]
    · rw [encF_big h]
      simp only [List.cons_append, decF, List.length_cons]
      rw [ofNat_toNat (by omega), if_neg (by omega), if_neg (by omega), dec_encF f (i + 1) _ (u / 128) r (by omega) (by simp only [bnd] at hu; omega) (by omega)]
      have e1 : (128 + u % 128) % 128 = u % 128 := by omega
      rw [e1, Nat.add_assoc acc, Nat.pow_succ]
      have e2 : u % 128 * 128 ^ i + u / 128 * (128 ^ i * 128) = u * 128 ^ i := by
        rw [Nat.mul_comm (128 ^ i) 128, ← Nat.mul_assoc, ← Nat.add_mul, Nat.mod_add_div' u 128]
      rw [e2]
      simp only [Prod.mk.injEq, and_true, true_and]
      omega
theorem dec_enc {u : Nat} (h : u < 18446744073709551616) (r : List UInt8) : dec (enc u ++ r) = (u, (enc u).length, 0) := by
  have := dec_encF 9 0 0 u r rfl (by rw [bnd9]; exact h) (by omega)
  simpa [dec, enc] using this

/-- What is read is just what is written of it. -/
theorem enc_of_dec : ∀ (l : List UInt8) (i acc v s : Nat), i ≤ 9 → decF i acc l = (v, s, 0) →
    ∃ u, v = acc + u * 128 ^ i ∧ i < s ∧ s ≤ i + l.length ∧ s ≤ 10 ∧ encF (9 - i) u = l.take (s - i) ∧ u < bnd (9 - i) ∧ (0 < i → 0 < u)
  | [], i, acc, v, s, hi, h => by simp [decF] at h
  | c :: r, i, acc, v, s, hi, h => by
    have hc := c.toNat_lt
    simp only [decF] at h
    by_cases h1 : (c.toNat = 0 ∧ 0 < i) ∨ (1 < c.toNat ∧ i = 9)
    · rw [if_pos h1] at h; simp at h
    · rw [if_neg h1] at h
      by_cases h2 : c.toNat < 128
      · rw [if_pos h2] at h
        simp only [Prod.mk.injEq, and_true] at h
        obtain ⟨rfl, rfl⟩ := h
        refine ⟨c.toNat, rfl, by omega, by simp, by omega, ?_, ?_, by omega⟩
        · rw [encF_small h2]; simp
        · rcases Nat.eq_or_lt_of_le hi with h9 | h9
          · subst h9; simp only [Nat.sub_self, bnd]; omega
          · obtain ⟨q, hq⟩ : ∃ q, 9 - i = q + 1 := ⟨9 - i - 1, by omega⟩
            rw [hq]; have := bnd_pos q; simp only [bnd]; omega
      · rw [if_neg h2] at h
        have h9 : i ≠ 9 := by omega
        obtain ⟨u, hv, h3, h4, h5, h6, h7, h8⟩ := enc_of_dec r (i + 1) _ v s (by omega) h
        obtain ⟨q, hq⟩ : ∃ q, 9 - i = q + 1 := ⟨9 - i - 1, by omega⟩
        have hq2 : 9 - (i + 1) = q := by omega
        rw [hq2] at h6 h7
        have hu := h8 (by omega)
        refine ⟨c.toNat % 128 + 128 * u, ?_, by omega, by simp only [List.length_cons]; omega, h5, ?_, ?_, by omega⟩
        · rw [hv, Nat.add_assoc]
          congr 1
          rw [Nat.add_mul, Nat.pow_succ, Nat.mul_comm 128 u, Nat.mul_assoc, Nat.mul_comm 128]
        · rw [hq, encF_big (by omega)]
          have e1 : (c.toNat % 128 + 128 * u) / 128 = u := by omega
          have e2 : 128 + (c.toNat % 128 + 128 * u) % 128 = c.toNat := by omega
          rw [e1, e2, h6]
          have e3 : s - i = (s - (i + 1)) + 1 := by omega
          rw [e3, List.take_succ_cons]
          congr 1
          simp
        · rw [hq]; simp only [bnd]; omega
/-- A part of what is written, cut off ahead of its end, is read as such. -/
theorem dec_cut : ∀ (f i acc u k : Nat), i + f = 9 → u < bnd f → (0 < i → 0 < u) → k < (encF f u).length → decF i acc ((encF f u).take k) = (0, 0, 15)
  | f, i, acc, u, 0, _, _, _, _ => by simp [decF]
  | 0, i, acc, u, k + 1, _, _, _, hk => by simp [encF] at hk
  | f + 1, i, acc, u, k + 1, hi, hu, h0, hk => by
    by_cases h : u < 128
    · rw [encF_small h] at hk; simp at hk
    · rw [encF_big h] at hk ⊢
      simp only [List.take_succ_cons, decF]
      rw [ofNat_toNat (by omega), if_neg (by omega), if_neg (by omega)]
      exact dec_cut f (i + 1) _ (u / 128) k (by omega) (by simp only [bnd] at hu; omega) (by omega) (by simpa using hk)
theorem dec_bounds : ∀ (l : List UInt8) (i acc v s e : Nat), i ≤ 9 → acc < 128 ^ i → decF i acc l = (v, s, e) → v < 18446744073709551616 ∧ s ≤ i + l.length ∧ (e = 0 ∨ e = 10 ∨ e = 15) ∧ (e ≠ 0 → v = 0 ∧ s = 0) ∧ s ≤ 10
  | [], i, acc, v, s, e, hi, ha, h => by
    simp only [decF, Prod.mk.injEq] at h
    obtain ⟨rfl, rfl, rfl⟩ := h
    simp
  | c :: r, i, acc, v, s, e, hi, ha, h => by
    have hc := c.toNat_lt
    simp only [decF] at h
    by_cases h1 : (c.toNat = 0 ∧ 0 < i) ∨ (1 < c.toNat ∧ i = 9)
    · rw [if_pos h1] at h
      simp only [Prod.mk.injEq] at h
      obtain ⟨rfl, rfl, rfl⟩ := h
      simp
    · rw [if_neg h1] at h
      by_cases h2 : c.toNat < 128
      · rw [if_pos h2] at h
        simp only [Prod.mk.injEq] at h
        obtain ⟨rfl, rfl, rfl⟩ := h
        refine ⟨?_, by simp, by simp, by simp, by omega⟩
        have hp : 128 ^ i ≤ 128 ^ 9 := Nat.pow_le_pow_right (by omega) hi
        rcases Nat.eq_or_lt_of_le hi with h9 | h9
        · subst h9
          have : c.toNat ≤ 1 := by omega
          have h3 : c.toNat * 128 ^ 9 ≤ 1 * 128 ^ 9 := Nat.mul_le_mul_right _ this
          have h4 : (128 : Nat) ^ 9 = 9223372036854775808 := rfl
          omega
        · have hp : 128 ^ i ≤ 128 ^ 8 := Nat.pow_le_pow_right (by omega) (by omega)
          have h3 : c.toNat * 128 ^ i ≤ 127 * 128 ^ 8 := Nat.mul_le_mul (by omega) hp
          have h4 : (128 : Nat) ^ 8 = 72057594037927936 := rfl
          omega
      · rw [if_neg h2] at h
        have h9 : i ≠ 9 := by omega
        have ha' : acc + c.toNat % 128 * 128 ^ i < 128 ^ (i + 1) := by
          rw [Nat.pow_succ]
          have h3 : c.toNat % 128 * 128 ^ i ≤ 127 * 128 ^ i := Nat.mul_le_mul_right _ (by omega)
          omega
        have := dec_bounds r (i + 1) _ v s e (by omega) ha' h
        simp only [List.length_cons]
        omega
end Go.Proofs.Ytbjmdnemeidpjaa
/- code.put, code.first, code.count. -/
namespace Go.Proofs.Ytbjmdnemeidpjaa
open Go.RowKit
set_option linter.unusedVariables false
set_option linter.unusedSimpArgs false

theorem or128 : ∀ n : Nat, n < 256 → n ||| 128 = 128 + n % 128 := by decide +kernel
theorem spell_more (u : Nat) : bits BinOp.or IntKind.u8 ((u : Int) % 256) 128 = (((UInt8.ofNat (128 + u % 128)).toNat : Nat) : Int) := by
  have h := u8_or_nat (u % 256) 128 (by omega) (by omega)
  rw [or128 _ (by omega)] at h
  have e : (((u % 256 : Nat)) : Int) = (u : Int) % 256 := by omega
  rw [e] at h
  rw [UInt8.toNat_ofNat', Nat.mod_eq_of_lt (by omega)]
  rw [show 128 + u % 128 = 128 + u % 256 % 128 from by omega]
  exact h
theorem spell_last (u : Nat) (h : u < 128) : (u : Int) = (((UInt8.ofNat u).toNat : Nat) : Int) := by rw [ofNat_toNat (by omega)]
set_option maxRecDepth 100000 in
theorem put_any (v : Value) (n : Nat) (l : List UInt8) (u lo : Nat) (w : World) (hown : Ow w lo 5 1 v n (l.map bv)) (hlo : lo ≤ w.heap.size) (hu : u < 18446744073709551616) (hn : n ≤ 70368744175616) :
    Calls Try.prog 101 #[v, .int .u64 u] w fun e w' => ∃ v', e = .returned v' ∧ Ow w' lo 5 1 v' (n + (enc u).length) ((l ++ enc u).map bv) ∧ Below lo w w' := by
  obtain ⟨i0, hi0, hz0, hz1, hz2⟩ := info_parts Try.info8
  have hl := hown.1
  simp only [List.length_map, Nat.mul_one] at hl
  have HU := hide hu
  clear hu
  go_enter Try.func101, Try.ntmps101
  go_wp2
  go_loopw [0, 1] (fun v x wr => ∃ (f q m : Nat) (acc : List UInt8), x = .int .u64 q ∧ q < bnd f ∧ f ≤ 9 ∧ m + f + 1 ≤ n + 10 ∧ Ow wr lo 5 1 v m (acc.map bv) ∧ Hid (acc ++ encF f q = l ++ enc u) ∧ Below lo w wr) (fun _ x _ => (intOf x).toNat)
  case atStart => exact ⟨9, u, n, l, rfl, by rw [bnd9]; exact HU.out, by omega, by omega, hown, hide rfl, Below.refl _ _⟩
  case round =>
    obtain ⟨f, q, m, acc, rfl, hq, hf, hm, own, HE, hb⟩ := hrel
    by_cases h : q < 128
    · have he := HE.out
      rw [encF_small h] at he
      have HE2 := hide he
      clear he
      have hsp := spell_last q h
      have HS := hide hsp
      clear hsp
      have hcell : Rd (wr.alloc (.cells #[.int .u8 q] 5)) (wr.heap.size + 1) 1 (some ⟨wr.heap.size, 0, none⟩) 1 ([UInt8.ofNat q].map bv) := by
        rw [HS.out]
        exact RdB.lit wr [UInt8.ofNat q] 5 (0, 0) 1 rfl
      go_wp2_with (at_builtin; refine wpList_append_ow _ rfl (.tmp 15) (.tmp 18) _ rfl lo 5 i0 _ 1 1 Try.underlying67 hi0 hz0 hz1 hz2 rfl (by omega) _ m (acc.map bv) rfl (own.alloc _) (wr.heap.size + 1) (some ⟨wr.heap.size, 0, none⟩) 1 1 _ rfl hcell (bvs_one _) (by simp only [maxLen]; omega) (by omega) (by have := hb.size; simp; omega) ?_; intro v1 w1 hown1 hg1 hat1 hnn1)
      go_ret
      have hsum : m + 1 = n + (enc u).length := by
        have h1 := congrArg List.length HE2.out
        have h2 := own.1
        simp only [List.length_append, List.length_cons, List.length_nil, List.length_map, Nat.mul_one] at h1 h2
        omega
      refine ⟨_, rfl, ?_, (hb.alloc (by have := hb.size; omega) _).grown hg1 (by have := hb.size; simp; omega) (fun k hk => own.lt k hk)⟩
      rw [← HE2.out, ← hsum, List.map_append]
      exact hown1
    · match f with
      | 0 => simp only [bnd] at hq; omega
      | f + 1 =>
        have he := HE.out
        rw [encF_big h] at he
        have HE2 := hide he
        clear he HE
        have HQ := hide hq
        clear hq
        have hsp := spell_more q
        have hcell : Rd (wr.alloc (.cells #[.int .u8 ((UInt8.ofNat (128 + q % 128)).toNat : Nat)] 5)) (wr.heap.size + 1) 1 (some ⟨wr.heap.size, 0, none⟩) 1 ([UInt8.ofNat (128 + q % 128)].map bv) :=
          RdB.lit wr [UInt8.ofNat (128 + q % 128)] 5 (0, 0) 1 rfl
        generalize UInt8.ofNat (128 + q % 128) = y at hsp hcell HE2
        go_wp2_with (at_builtin; refine wpList_append_ow _ rfl (.tmp 9) (.tmp 13) _ rfl lo 5 i0 _ 1 1 Try.underlying67 hi0 hz0 hz1 hz2 rfl (by omega) _ m (acc.map bv) rfl (own.alloc _) (wr.heap.size + 1) (some ⟨wr.heap.size, 0, none⟩) 1 1 _ rfl hcell (bvs_one _) (by simp only [maxLen]; omega) (by omega) (by have := hb.size; simp; omega) ?_; intro v1 w1 hown1 hg1 hat1 hnn1)
        go_roundw
        case rel => exact ⟨f, q / 128, m + 1, acc ++ [y], by go_num, by have := HQ.out; simp only [bnd] at this; omega, by omega, by omega, by rw [List.map_append]; exact hown1, hide (by rw [List.append_assoc]; exact HE2.out), (hb.alloc (by have := hb.size; omega) _).grown hg1 (by have := hb.size; simp; omega) (fun k hk => own.lt k hk)⟩
        case measure => simp [intOf]; omega
end Go.Proofs.Ytbjmdnemeidpjaa
/- Whole arrays and structs, by value, out of and into blocks that are known whole. No program is named here. -/
namespace Go.Proofs.Ytbjmdnemeidpjaa
set_option linter.unusedSimpArgs false
set_option linter.unusedVariables false
open Go.RowKit
section
variable {P : Program} {w : World}
theorem run_load_blk {b : Nat} {t : TypeId} {cs : Array Value} {d : TypeDesc} (hB : Blk w b t cs) (hu : P.underlying t = some d) (hd : d.isRow = true) (hi : (P.info? t).map (·.size) = some cs.size) :
    (loadVar t ⟨b, 0, none⟩).run P w = .ok (.agg cs) w := run_loadVar_row w b t t cs (0, 0) d hB hu (by cases d <;> simp_all) hi
theorem wpList_load_blk {ops : Array Oper} {rest : List Oper} {op : Oper} {a : Act} {Q : Exit → Act → World → Prop} (hgd : op.guard = none) (t : TypeId) (x : Operand) (ho : op.op = .load t x)
    (b : Nat) (hx : a.eval x = .pointer (some ⟨b, 0, none⟩)) (cs : Array Value) (d : TypeDesc) (hB : Blk w b t cs)
    (hu : P.underlying t = some d) (hd : d.isRow = true) (hi : (P.info? t).map (·.size) = some cs.size)
    (h : wpList P ops Q rest (a.put op.dst (.agg cs)) w) : wpList P ops Q (op :: rest) a w :=
  wpList_plain hgd fun _ hK => by
    unfold Oper.wp execOp
    simp only [ho, hx, Instr.loadAt, Instr.sureAddr, Sem.run_bind, Sem.run_pure, Result.andThen_ok, run_load_blk hB hu hd hi]
    exact hK _ _ h
theorem heap_setRow (w : World) (g : Nat) (cs : Array Value) (k : Nat) (hk : k ≠ g) : (w.setRow g cs).heap[k]? = w.heap[k]? := by
  simp only [World.setRow]
  rw [Array.getElem?_modify]
  rw [if_neg (fun e => hk e.symm)]
theorem Blk.setRow {b : Nat} {t : TypeId} {cs : Array Value} (h : Blk w b t cs) (cs' : Array Value) : Blk (w.setRow b cs') b t cs' := by
  unfold Blk at h ⊢
  simp only [World.setRow]
  rw [Array.getElem?_modify, if_pos rfl, h]
  rfl
theorem Blk.setRow_far {b g : Nat} {t : TypeId} {cs : Array Value} (h : Blk w b t cs) (hg : b ≠ g) (cs' : Array Value) : Blk (w.setRow g cs') b t cs := (heap_setRow w g cs' b hg).trans h
theorem size_setRow (w : World) (g : Nat) (cs : Array Value) : (w.setRow g cs).heap.size = w.heap.size := by simp [World.setRow]
theorem grown_setRow (w : World) (g : Nat) (cs : Array Value) : w.grownBy (w.setRow g cs) (some g) :=
  ⟨rfl, rfl, rfl, by rw [size_setRow]; exact Nat.le_refl _, fun i hi hg => heap_setRow w g cs i (fun e => hg (by rw [e]))⟩
theorem below_setRow {B : Nat} {a : World} (h : Below B a w) {g : Nat} (hg : B ≤ g) (cs : Array Value) : Below B a (w.setRow g cs) :=
  ⟨h.os, h.tape, h.output, by rw [size_setRow]; exact h.size, fun i hi => (heap_setRow w g cs i (by omega)).trans (h.block i hi)⟩
theorem wpList_store_blk {ops : Array Oper} {rest : List Oper} {op : Oper} {a : Act} {Q : Exit → Act → World → Prop} (hgd : op.guard = none) (t : TypeId) (x y : Operand) (ho : op.op = .store t x y)
    (b : Nat) (hx : a.eval x = .pointer (some ⟨b, 0, none⟩)) (old cs : Array Value) (hy : a.eval y = .agg cs) (hB : Blk w b t old)
    (hs : old.size = cs.size) (hi : (P.info? t).map (·.size) = some cs.size) (h1 : cs.all (·.oneCell') = true)
    (h : wpList P ops Q rest (a.put op.dst undef) (w.setRow b cs)) : wpList P ops Q (op :: rest) a w :=
  wpList_plain hgd fun _ hK => by
    unfold Oper.wp execOp
    simp only [ho, hx, hy, Instr.storeAt, Instr.sureAddr, Sem.run_bind, Sem.run_pure, Result.andThen_ok, run_storeVar_row w b t t old cs hB hi hs h1]
    exact hK _ _ h
/-- A result that lies in a variable of its own. -/
theorem results_cell {fn : Func} {p : Tmp} {t : TypeId} (h : fn.results = #[.cell p t]) (tmps : Array Value) (b : Nat) (hp : tmps.getD p undef = .pointer (some ⟨b, 0, none⟩)) (cs : Array Value) (d : TypeDesc) (hB : Blk w b t cs)
    (hu : P.underlying t = some d) (hd : d.isRow = true) (hi : (P.info? t).map (·.size) = some cs.size) : (results fn tmps).run P w = .ok (.agg cs) w := by
  have hl := run_load_blk hB hu hd hi
  have hp' : tmps[p]?.getD undef = .pointer (some ⟨b, 0, none⟩) := by simpa using hp
  simp only [results, h]
  simp [Sem.run_bind, hp', asAddr, Result.andThen, hl]
theorem results_cell2 {fn : Func} {p u : Tmp} {t : TypeId} (h : fn.results = #[.cell p t, .tmp u]) (tmps : Array Value) (b : Nat) (hp : tmps.getD p undef = .pointer (some ⟨b, 0, none⟩)) (cs : Array Value) (d : TypeDesc) (hB : Blk w b t cs)
    (hu : P.underlying t = some d) (hd : d.isRow = true) (hi : (P.info? t).map (·.size) = some cs.size) : (results fn tmps).run P w = .ok (.tuple #[.agg cs, tmps.getD u undef]) w := by
  have hl := run_load_blk hB hu hd hi
  have hp' : tmps[p]?.getD undef = .pointer (some ⟨b, 0, none⟩) := by simpa using hp
  rw [results_cell_tmp h]
  simp [hp', asAddr, Result.andThen, hl]
end
end Go.Proofs.Ytbjmdnemeidpjaa
/- Numbers as values: two small words. -/
namespace Go.Proofs.Ytbjmdnemeidpjaa
set_option linter.unusedSimpArgs false
set_option linter.unusedVariables false
open Go.RowKit
def i64v (x : Int) : Value := .int .i64 x
theorem u64_wrap (n : Int) : IntKind.u64.wrap n = n % 18446744073709551616 := by simp [IntKind.wrap, IntKind.bits, IntKind.signed]
theorem Rd.get {w : World} {B n : Nat} {A : Option Addr} {α : Type} {f : α → Value} {l : List α} (h : Rd w B 1 A n (l.map f)) {k : Nat} (hk : k < n) :
    ∃ b off, A = some ⟨b, off, none⟩ ∧ b < B ∧ ∃ x, l[k]? = some x ∧ w.cell? ⟨b, off + k, none⟩ = some (f x) := by
  obtain ⟨b, off, e, hb, hc⟩ := h.at_ hk
  have hl := h.1
  simp only [List.length_map, Nat.mul_one] at hl
  refine ⟨b, off, e, hb, l[k], List.getElem?_eq_getElem (by omega), ?_⟩
  rw [hc k (by simp; omega)]
  simp
theorem Rd.len {w : World} {B n : Nat} {A : Option Addr} {α : Type} {f : α → Value} {l : List α} (h : Rd w B 1 A n (l.map f)) : l.length = n := by
  have := h.1; simpa using this
end Go.Proofs.Ytbjmdnemeidpjaa
/- code.first, code.count. -/
namespace Go.Proofs.Ytbjmdnemeidpjaa
open Go.RowKit
set_option linter.unusedVariables false
set_option linter.unusedSimpArgs false

theorem pow7 (k : Nat) : (2 : Nat) ^ (7 * k) = 128 ^ k := by rw [Nat.pow_mul]
theorem spell_gather (a m k : Nat) (ha : a < 128 ^ k) (hk : k ≤ 9) (hm : m < 128) (h9 : k = 9 → m ≤ 1) :
    bits BinOp.or IntKind.u64 (a : Int) (IntKind.u64.wrap ((m : Int) * 2 ^ (7 * k))) = ((a + m * 128 ^ k : Nat) : Int) ∧ a + m * 128 ^ k < 18446744073709551616 := by
  have hp : (2 : Nat) ^ (7 * k) = 128 ^ k := pow7 k
  have hle : (128 : Nat) ^ k ≤ 128 ^ 9 := Nat.pow_le_pow_right (by omega) hk
  have h9' : (128 : Nat) ^ 9 = 9223372036854775808 := rfl
  have hb : a + m * 128 ^ k < 18446744073709551616 ∧ m * 128 ^ k < 18446744073709551616 := by
    rcases Nat.eq_or_lt_of_le hk with h | h
    · subst h
      have h3 : m * 128 ^ 9 ≤ 1 * 128 ^ 9 := Nat.mul_le_mul_right _ (h9 rfl)
      omega
    · have h8 : (128 : Nat) ^ k ≤ 128 ^ 8 := Nat.pow_le_pow_right (by omega) (by omega)
      have h8' : (128 : Nat) ^ 8 = 72057594037927936 := rfl
      have h3 : m * 128 ^ k ≤ 127 * 128 ^ 8 := Nat.mul_le_mul (by omega) h8
      omega
  refine ⟨?_, hb.1⟩
  have e : (m : Int) * 2 ^ (7 * k) = ((m * 128 ^ k : Nat) : Int) := by rw [← hp]; simp
  rw [e, u64_wrap, show ((m * 128 ^ k : Nat) : Int) % 18446744073709551616 = ((m * 128 ^ k : Nat) : Int) from by omega]
  rw [u64_or_nat _ _ (by omega) (by omega)]
  congr 1
  have := Nat.two_pow_add_eq_or_of_lt (b := a) (i := 7 * k) (by rw [hp]; exact ha) m
  rw [hp] at this
  rw [Nat.or_comm, Nat.mul_comm m, ← this, Nat.add_comm]

set_option maxHeartbeats 400000 in
set_option maxRecDepth 100000 in
theorem first_any (A : Option Addr) (n c : Nat) (l : List UInt8) (w : World) (hr : RdB w w.heap.size A n l) (hn : n ≤ 140737488351232) :
    Calls Try.prog 97 #[.slice A n c] w fun e w' => e = .returned (.tuple #[.int .u64 (dec l).1, .int .i64 (dec l).2.1, .int .i64 (dec l).2.2]) ∧ w = w' := by
  have hlen := RdB.len hr
  have HLEN := hide hlen
  clear hlen
  go_enter Try.func97, Try.ntmps97
  go_wp2
  go_loop [2, 3, 4, 5, 6, 7, 10] (fun s2 s3 s4 acc _ _ i => ∃ k a : Nat, k ≤ n ∧ k ≤ 9 ∧ i = .int .i64 k ∧ acc = .int .u64 a ∧ s2 = .int .u64 0 ∧ s3 = .int .i64 0 ∧ s4 = .int .i64 0 ∧ Hid (decF k a (l.drop k) = dec l) ∧ Hid (a < 128 ^ k)) (fun _ _ _ _ _ _ i => n - (intOf i).toNat)
  case atStart => exact ⟨0, 0, by omega, by omega, rfl, rfl, rfl, rfl, rfl, hide rfl, hide (by simp)⟩
  case round =>
    obtain ⟨k, a, hk, hk10, rfl, rfl, rfl, rfl, rfl, HD, HA⟩ := hrel
    by_cases hk1 : k < n
    · obtain ⟨b, off, rfl, hb, hc⟩ := RdB.cell hr hk1
      have hkl : k < l.length := by rw [HLEN.out]; exact hk1
      have hd := HD.out
      rw [List.drop_eq_getElem_cons hkl] at hd
      have HL := hide hkl
      clear HD
      generalize l[k] = x at hc hd
      have hx := x.toNat_lt
      simp only [decF] at hd
      have HD := hide hd
      clear hd hkl
      by_cases h0 : x.toNat = 0
      · have e0 : ((x.toNat : Int) == 0) = true := by rw [h0]; rfl
        by_cases hkk : 0 < k
        · have HR := HD.out
          rw [if_pos (.inl ⟨h0, hkk⟩)] at HR
          have HX := hide HR
          have h1k := hide h0
          clear h0 HR HD
          go_wp2
          go_ret3
          rw [← HX.out]
          exact ⟨rfl, rfl⟩
        · have HR := HD.out
          rw [if_neg (by omega), if_pos (by omega)] at HR
          have HX := hide HR
          have hlt : x.toNat < 128 := by omega
          have hg := (spell_gather a x.toNat k HA.out (by omega) hlt (by omega)).1
          have hx1 : x.toNat ≤ 1 := by omega
          have HG := hide hg
          clear h0 HR HD hg
          go_wp2
          go_ret3
          rw [← HX.out]
          exact ⟨by rw [← HG.out, show ((x.toNat : Int) % 128) = (x.toNat : Int) from by omega]; simp, rfl⟩
      · have e0 : ((x.toNat : Int) == 0) = false := by simp; omega
        have E0 := hide h0
        clear h0
        by_cases h128 : x.toNat < 128
        · by_cases h91 : k = 9 ∧ 1 < x.toNat
          · obtain ⟨h9, h1⟩ := h91
            have e9 : ((k : Int) == 9) = true := by rw [h9]; rfl
            have HR := HD.out
            rw [if_pos (.inr ⟨h1, h9⟩)] at HR
            have HX := hide HR
            clear h9 HR HD
            go_wp2
            go_ret3
            rw [← HX.out]
            exact ⟨rfl, rfl⟩
          · have HR := HD.out
            rw [if_neg (by have := E0.out; omega), if_pos h128] at HR
            have HX := hide HR
            have hg := (spell_gather a x.toNat k HA.out (by omega) h128 (by omega)).1
            have HG := hide hg
            clear HR HD hg
            by_cases h9 : k = 9
            · have e9 : ((k : Int) == 9) = true := by rw [h9]; rfl
              have h1 : x.toNat ≤ 1 := by omega
              clear h9 h91
              go_wp2
              go_ret3
              rw [← HX.out]
              exact ⟨by rw [← HG.out, show ((x.toNat : Int) % 128) = (x.toNat : Int) from by omega]; simp, rfl⟩
            · have e9 : ((k : Int) == 9) = false := by simp; omega
              clear h91
              by_cases h1 : 1 < x.toNat
              all_goals
                go_wp2
                go_ret3
                rw [← HX.out]
                exact ⟨by rw [← HG.out, show ((x.toNat : Int) % 128) = (x.toNat : Int) from by omega]; simp, rfl⟩
        · by_cases h9 : k = 9
          · have e9 : ((k : Int) == 9) = true := by rw [h9]; rfl
            have HR := HD.out
            rw [if_pos (.inr ⟨by omega, h9⟩)] at HR
            have HX := hide HR
            have h1 : 1 < x.toNat := by omega
            clear h9 HR HD
            go_wp2
            go_ret3
            rw [← HX.out]
            exact ⟨rfl, rfl⟩
          · have e9 : ((k : Int) == 9) = false := by simp; omega
            have HR := HD.out
            rw [if_neg (by have := E0.out; omega), if_neg h128] at HR
            have HX := hide HR
            have h1 : 1 < x.toNat := by omega
            obtain ⟨hg, hg2⟩ := spell_gather a (x.toNat % 128) k HA.out (by omega) (by omega) (by omega)
            have HG := hide hg
            clear HR HD hg hg2
            go_wp2
            go_round
            case rel =>
              refine ⟨k + 1, a + x.toNat % 128 * 128 ^ k, by omega, by omega, by go_num, ?_, rfl, rfl, rfl, HX, hide ?_⟩
              · rw [← HG.out]; simp
              · have := HA.out
                rw [Nat.pow_succ]
                have h3 : x.toNat % 128 * 128 ^ k ≤ 127 * 128 ^ k := Nat.mul_le_mul_right _ (by omega)
                omega
            case measure => simp [intOf]; omega
    · go_wp2
      go_ret3
      have h := HD.out
      rw [List.drop_of_length_le (by have := HLEN.out; omega)] at h
      rw [← h]
      exact ⟨rfl, rfl⟩
end Go.Proofs.Ytbjmdnemeidpjaa
/- code.count, and the Reader's methods. -/
namespace Go.Proofs.Ytbjmdnemeidpjaa
open Go.RowKit
set_option linter.unusedVariables false
set_option linter.unusedSimpArgs false

def cnt (l : List UInt8) (most : Int) : Nat × Nat × Nat := if (dec l).2.2 ≠ 0 then (0, 0, (dec l).2.2) else if max most 0 < (dec l).1 then (0, 0, 17) else dec l
theorem cnt_bounds (l : List UInt8) (most : Int) : ((cnt l most).1 : Int) ≤ max most 0 ∧ (cnt l most).2.1 ≤ l.length ∧ (cnt l most).2.1 ≤ 10 ∧ (cnt l most).2.2 ≤ 17 := by
  have h := dec_bounds l 0 0 (dec l).1 (dec l).2.1 (dec l).2.2 (by omega) (by simp) rfl
  unfold cnt
  split
  · simp; omega
  · split
    · simp; omega
    · omega

set_option maxHeartbeats 400000 in
set_option maxRecDepth 100000 in
theorem count_any (A : Option Addr) (n c : Nat) (l : List UInt8) (most : Int) (w : World) (hr : RdB w w.heap.size A n l) (hn : n ≤ 140737488351232) (hm : most ≤ 9223372036854775807) :
    Calls Try.prog 100 #[.slice A n c, .int .i64 most] w fun e w' => e = .returned (.tuple #[.int .i64 (cnt l most).1, .int .i64 (cnt l most).2.1, .int .i64 (cnt l most).2.2]) ∧ w = w' := by
  have hb := dec_bounds l 0 0 (dec l).1 (dec l).2.1 (dec l).2.2 (by omega) (by simp) rfl
  obtain ⟨_, hb2, hb3, hb4, hb5⟩ := hb
  have HF := hide (first_any A n c l w hr hn)
  have HC := hide (show cnt l most = if (dec l).2.2 ≠ 0 then (0, 0, (dec l).2.2) else if max most 0 < (dec l).1 then (0, 0, 17) else dec l from rfl)
  generalize hcnt : cnt l most = C at *
  clear hcnt
  generalize dec l = d at *
  obtain ⟨u, s, er⟩ := d
  simp only at HF HC hb2 hb3 hb4 hb5 ⊢
  have HM := hide hm
  clear hm
  by_cases h0 : er = 0
  · have he : ((er : Int) != 0) = false := by rw [h0]; rfl
    have HE := hide h0
    clear h0 hb3 hb4
    have hcc := HC.out
    rw [if_neg (by simp [HE.out])] at hcc
    have HCC := hide hcc
    clear hcc HC
    have HU := hide (show IntKind.u64.wrap (max most 0) = max most 0 from by have := HM.out; rw [u64_wrap]; omega)
    by_cases hneg : most < 0
    · have hmx : max most 0 = 0 := by omega
      have hu0 := HU.out
      rw [hmx] at hu0
      have HCM := HCC.out
      rw [hmx] at HCM
      clear HCC
      by_cases hu : 0 < u
      · rw [if_pos (by omega)] at HCM
        rw [HCM]
        clear HCM
        go_enter Try.func100, Try.ntmps100
        go_wp2_with (go_at_call 97; refine HF.out.mono ?_; rintro e w' ⟨rfl, rfl⟩)
        go_ret3
        exact ⟨rfl, rfl⟩
      · rw [if_neg (by omega)] at HCM
        rw [HCM, HE.out]
        clear HCM
        have huw : IntKind.i64.wrap (u : Int) = u := by rw [IntKind.wrap_i64]; omega
        go_enter Try.func100, Try.ntmps100
        go_wp2_with (go_at_call 97; refine HF.out.mono ?_; rintro e w' ⟨rfl, rfl⟩)
        go_ret3
        exact ⟨by simp [huw], rfl⟩
    · have hmx : max most 0 = most := by omega
      have hu0 := HU.out
      rw [hmx] at hu0
      have HCM := HCC.out
      rw [hmx] at HCM
      clear HCC
      by_cases hu : most < (u : Int)
      · rw [if_pos (by omega)] at HCM
        rw [HCM]
        clear HCM
        go_enter Try.func100, Try.ntmps100
        go_wp2_with (go_at_call 97; refine HF.out.mono ?_; rintro e w' ⟨rfl, rfl⟩)
        all_goals
          go_ret3
          exact ⟨rfl, rfl⟩
      · rw [if_neg (by omega)] at HCM
        rw [HCM, HE.out]
        clear HCM
        have huw : IntKind.i64.wrap (u : Int) = u := by have := HM.out; rw [IntKind.wrap_i64]; omega
        go_enter Try.func100, Try.ntmps100
        go_wp2_with (go_at_call 97; refine HF.out.mono ?_; rintro e w' ⟨rfl, rfl⟩)
        all_goals
          go_ret3
          exact ⟨by simp [huw], rfl⟩
  · have he : ((er : Int) != 0) = true := by simp; omega
    have hcc := HC.out
    rw [if_pos (by simpa using h0)] at hcc
    rw [hcc]
    clear h0 hb3 hb4 HC hcc
    go_enter Try.func100, Try.ntmps100
    go_wp2_with (go_at_call 97; refine HF.out.mono ?_; rintro e w' ⟨rfl, rfl⟩)
    go_ret3
    exact ⟨rfl, rfl⟩

/-! ### the Reader -/
/-- The reader at block g has the bytes l still to come, and the fault e. -/
def Rdr (w : World) (g : Nat) (l : List UInt8) (e : Nat) : Prop :=
  ∃ A n c, Blk w g 167 #[.slice A n c, .int .i64 (e : Int)] ∧ RdB w g A n l ∧ n ≤ c ∧ c ≤ maxLen ∧ n ≤ 140737488351232
def tkL (l : List UInt8) (e size er : Nat) : List UInt8 := if e = 0 ∧ er = 0 then l.drop size else l
def tkE (e er : Nat) : Nat := if e = 0 then er else e
theorem Rdr.next {w w' : World} {g e : Nat} {l : List UInt8} (h : Rdr w g l e) (hb : Below w.heap.size w w') : Rdr w' g l e := by
  obtain ⟨A, n, c, hk, hr, h1, h2, h3⟩ := h
  exact ⟨A, n, c, hk.next hb, hr.below (hb.mono (Nat.le_of_lt hk.lt)), h1, h2, h3⟩
theorem Rdr.lt {w : World} {g e : Nat} {l : List UInt8} (h : Rdr w g l e) : g < w.heap.size := by
  obtain ⟨A, n, c, hk, _⟩ := h
  exact hk.lt

theorem take_bad (g e er : Nat) (size : Int) (l : List UInt8) (w : World) (h : Rdr w g l e) (hne : ¬ (e = 0 ∧ er = 0)) :
    Calls Try.prog 98 #[.pointer (some ⟨g, 0, none⟩), .int .i64 size, .int .i64 (er : Int)] w fun x w' => x = .returned (.bool (decide (e = 0 ∧ er = 0))) ∧ Rdr w' g (tkL l e size.toNat er) (tkE e er) ∧ w.grownBy w' (some g) := by
  have h0 := h
  obtain ⟨A, n, c, hk, hr, h1, h2, h3⟩ := h
  have c0 := hk.cell 0
  have c1 := hk.cell 1
  have f0 := hk.frozen 0
  have f1 := hk.frozen 1
  simp only [List.getElem?_toArray, List.getElem?_cons_zero, List.getElem?_cons_succ] at c0 c1
  rw [decide_eq_false hne, show tkL l e size.toNat er = l from if_neg hne]
  by_cases he : e = 0
  · have b0 : ((e : Int) != 0) = false := by rw [he]; rfl
    have hr0 : er ≠ 0 := fun h => hne ⟨he, h⟩
    have b1 : ((er : Int) != 0) = true := by simp; omega
    rw [show tkE e er = er from by unfold tkE; rw [if_pos he]]
    have HE := hide he
    have HR := hide hr0
    have HK := hide hk
    have H0 := hide hr
    clear he hr0 hne h0 hk hr
    go_enter Try.func98, Try.ntmps98
    go_wp2
    go_ret
    exact ⟨rfl, ⟨A, n, c, by simpa using HK.out.set_ 1 _, H0.out.setCell (Nat.le_refl _) _, h1, h2, h3⟩, grown_set w g 1 _⟩
  · have b0 : ((e : Int) != 0) = true := by simp; omega
    rw [show tkE e er = e from by unfold tkE; rw [if_neg he]]
    clear he hne hk hr
    go_enter Try.func98, Try.ntmps98
    go_wp2
    go_ret
    exact ⟨rfl, h0, World.grownBy.refl _ _⟩
theorem take_any (g size e er : Nat) (l : List UInt8) (w : World) (h : Rdr w g l e) (hs : e = 0 → er = 0 → size ≤ l.length) :
    Calls Try.prog 98 #[.pointer (some ⟨g, 0, none⟩), .int .i64 (size : Int), .int .i64 (er : Int)] w fun x w' => x = .returned (.bool (decide (e = 0 ∧ er = 0))) ∧ Rdr w' g (tkL l e size er) (tkE e er) ∧ w.grownBy w' (some g) := by
  have h0 := h
  obtain ⟨A, n, c, hk, hr, h1, h2, h3⟩ := h
  have c0 := hk.cell 0
  have c1 := hk.cell 1
  have f0 := hk.frozen 0
  have f1 := hk.frozen 1
  have hlen := RdB.len hr
  simp only [List.getElem?_toArray, List.getElem?_cons_zero, List.getElem?_cons_succ] at c0 c1
  by_cases he : e = 0
  · have b0 : ((e : Int) != 0) = false := by rw [he]; rfl
    by_cases hr0 : er = 0
    · have b1 : ((er : Int) != 0) = false := by rw [hr0]; rfl
      have hsz := hs he hr0
      rw [hlen] at hsz
      rw [decide_eq_true ⟨he, hr0⟩, show tkL l e size er = l.drop size from if_pos ⟨he, hr0⟩, show tkE e er = e from by unfold tkE; rw [if_pos he, hr0, he]]
      have HE := hide he
      have HR := hide hr0
      have HK := hide hk
      have H0 := hide hr
      clear he hr0 hs h0 hk hr hlen
      have hcut := H0.out.cut (k := size) (cap := c) hsz h1
      rw [Nat.mul_one, ← List.map_drop] at hcut
      have hm := h2
      unfold maxLen at h2
      by_cases hcs : c = size
      · rw [if_pos hcs] at hcut
        have HCS := hide hcs
        have HCT := hide hcut
        clear hcs hcut
        have hcd : (c = size) = True := by simp [HCS.out]
        go_enter Try.func98, Try.ntmps98
        go_wp2
        go_ret
        exact ⟨rfl, ⟨A, n - size, c - size, by simpa using HK.out.set_ 0 _, HCT.out.setCell (Nat.le_refl _) _, by omega, by simp only [maxLen]; omega, by omega⟩, grown_set w g 0 _⟩
      · rw [if_neg hcs] at hcut
        have HCT := hide hcut
        clear hcut
        go_enter Try.func98, Try.ntmps98
        go_wp2
        go_ret
        exact ⟨rfl, ⟨_, n - size, c - size, by simpa using HK.out.set_ 0 _, HCT.out.setCell (Nat.le_refl _) _, by omega, by simp only [maxLen]; omega, by omega⟩, grown_set w g 0 _⟩
    · exact take_bad g e er size l w h0 (fun h => hr0 h.2)
  · exact take_bad g e er size l w h0 (fun h => he h.1)

/-! ### Uint, Count, Left, Err, End -/
def uV (l : List UInt8) (e : Nat) : Nat := if e = 0 ∧ (dec l).2.2 = 0 then (dec l).1 else 0
theorem uint_any (g e : Nat) (l : List UInt8) (w : World) (h : Rdr w g l e) :
    Calls Try.prog 64 #[.pointer (some ⟨g, 0, none⟩)] w fun x w' => x = .returned (.int .u64 (uV l e)) ∧ Rdr w' g (tkL l e (dec l).2.1 (dec l).2.2) (tkE e (dec l).2.2) ∧ w.grownBy w' (some g) := by
  have h0 := h
  obtain ⟨A, n, c, hk, hr, h1, h2, h3⟩ := h
  have c0 := hk.cell 0
  simp only [List.getElem?_toArray, List.getElem?_cons_zero, List.getElem?_cons_succ] at c0
  have hlen := RdB.len hr
  have hb := dec_bounds l 0 0 (dec l).1 (dec l).2.1 (dec l).2.2 (by omega) (by simp) rfl
  have hsz : e = 0 → (dec l).2.2 = 0 → (dec l).2.1 ≤ l.length := fun _ _ => by omega
  have HT := hide (take_any g (dec l).2.1 e (dec l).2.2 l w h0 hsz)
  have HF := hide (first_any A n c l w (hr.more (Nat.le_of_lt hk.lt)) h3)
  have HV := hide (show uV l e = if e = 0 ∧ (dec l).2.2 = 0 then (dec l).1 else 0 from rfl)
  clear hlen hb hsz hk hr h0
  generalize uV l e = V at HV
  generalize dec l = d at *
  obtain ⟨u, s, er⟩ := d
  simp only at HT HF HV ⊢
  generalize hq : decide (e = 0 ∧ er = 0) = q at HT
  have HQ := hide hq
  clear hq
  cases q with
  | true =>
    have hv := HV.out
    rw [if_pos (of_decide_eq_true HQ.out)] at hv
    rw [hv]
    clear hv
    go_enter Try.func64, Try.ntmps64
    go_wp2_with (first | (go_at_call 97; refine HF.out.mono ?_; rintro e w' ⟨rfl, rfl⟩) | (go_at_call 98; refine HT.out.mono ?_; rintro e w1 ⟨rfl, hr1, hg1⟩))
    go_ret
    exact ⟨rfl, hr1, hg1⟩
  | false =>
    have hv := HV.out
    rw [if_neg (of_decide_eq_false HQ.out)] at hv
    rw [hv]
    clear hv
    go_enter Try.func64, Try.ntmps64
    go_wp2_with (first | (go_at_call 97; refine HF.out.mono ?_; rintro e w' ⟨rfl, rfl⟩) | (go_at_call 98; refine HT.out.mono ?_; rintro e w1 ⟨rfl, hr1, hg1⟩))
    go_ret
    exact ⟨rfl, hr1, hg1⟩
end Go.Proofs.Ytbjmdnemeidpjaa
/- code.Turn, code.Unturn. -/
namespace Go.Proofs.Ytbjmdnemeidpjaa
open Go.RowKit
set_option linter.unusedVariables false
set_option linter.unusedSimpArgs false

def turnN (v : Int) : Nat := if 0 ≤ v then (2 * v).toNat else (2 * (-(v + 1)) + 1).toNat
def unturnZ (u : Nat) : Int := if u % 2 = 0 then (u : Int) / 2 else -((u : Int) / 2) - 1
theorem xor_full64 (R : Nat) (h : R < 18446744073709551616) : R ^^^ 18446744073709551615 = 18446744073709551615 - R := by
  have h1 : (BitVec.ofNat 64 R ^^^ BitVec.allOnes 64).toNat = (~~~ BitVec.ofNat 64 R).toNat := by rw [BitVec.xor_allOnes]
  rw [BitVec.toNat_xor, BitVec.toNat_not, BitVec.toNat_allOnes, BitVec.toNat_ofNat, Nat.mod_eq_of_lt (by omega)] at h1
  simpa using h1
theorem spell_turn (v : Int) (h1 : -9223372036854775808 ≤ v) (h2 : v ≤ 9223372036854775807) :
    bits BinOp.xor IntKind.u64 (IntKind.u64.wrap (IntKind.u64.wrap v * 2)) (IntKind.u64.wrap (v / 9223372036854775808)) = ((turnN v : Nat) : Int) := by
  simp only [u64_wrap]
  by_cases h : 0 ≤ v
  · have e1 : v % 18446744073709551616 * 2 % 18446744073709551616 = (((2 * v).toNat : Nat) : Int) := by omega
    have e2 : v / 9223372036854775808 % 18446744073709551616 = ((0 : Nat) : Int) := by omega
    rw [e1, e2, u64_xor_nat _ _ (by omega) (by omega), Nat.xor_zero, turnN, if_pos h]
  · have e1 : v % 18446744073709551616 * 2 % 18446744073709551616 = (((18446744073709551616 + 2 * v).toNat : Nat) : Int) := by omega
    have e2 : v / 9223372036854775808 % 18446744073709551616 = ((18446744073709551615 : Nat) : Int) := by omega
    rw [e1, e2, u64_xor_nat _ _ (by omega) (by omega), xor_full64 _ (by omega), turnN, if_neg h]
    omega
theorem spell_unturn (u : Nat) (h : u < 18446744073709551616) :
    bits BinOp.xor IntKind.i64 ((u : Int) / 2) (wrap64 (-wrap64 (bits BinOp.and IntKind.u64 (u : Int) 1))) = unturnZ u := by
  have e1 : bits BinOp.and IntKind.u64 (u : Int) 1 = ((u % 2 : Nat) : Int) := by
    have := u64_and_nat u 1 h (by omega)
    rw [Nat.and_one_is_mod] at this
    exact this
  rw [e1]
  have e3 : (u : Int) / 2 = ((u / 2 : Nat) : Int) := by omega
  rcases Nat.mod_two_eq_zero_or_one u with h0 | h0
  · rw [h0]
    have e2 : wrap64 (-wrap64 ((0 : Nat) : Int)) = 0 := by rw [IntWalk.wrap64_in ((0 : Nat) : Int) (by constructor <;> omega), IntWalk.wrap64_in _ (by constructor <;> omega)]; rfl
    rw [e2, unturnZ, if_pos h0]
    show IntKind.i64.wrap ((BitVec.ofInt 64 ((u : Int) / 2) ^^^ BitVec.ofInt 64 0).toNat : Int) = _
    rw [show BitVec.ofInt 64 0 = 0#64 from rfl, BitVec.xor_zero, e3, BitVec.ofInt_natCast, BitVec.toNat_ofNat, IntKind.wrap_i64]
    omega
  · rw [h0]
    have e2 : wrap64 (-wrap64 ((1 : Nat) : Int)) = -1 := by rw [IntWalk.wrap64_in ((1 : Nat) : Int) (by constructor <;> omega), IntWalk.wrap64_in _ (by constructor <;> omega)]; rfl
    rw [e2, unturnZ, if_neg (by omega)]
    show IntKind.i64.wrap ((BitVec.ofInt 64 ((u : Int) / 2) ^^^ BitVec.ofInt 64 (-1)).toNat : Int) = _
    rw [show BitVec.ofInt 64 (-1) = BitVec.allOnes 64 from by decide, BitVec.xor_allOnes, e3, BitVec.ofInt_natCast, BitVec.toNat_not, BitVec.toNat_ofNat, IntKind.wrap_i64]
    omega
theorem turnN_lt (v : Int) (h1 : -9223372036854775808 ≤ v) (h2 : v ≤ 9223372036854775807) : turnN v < 18446744073709551616 := by
  unfold turnN; split <;> omega
theorem unturn_turn (v : Int) : unturnZ (turnN v) = v := by
  unfold unturnZ turnN
  split <;> split <;> omega
theorem turn_unturn (u : Nat) : turnN (unturnZ u) = u := by
  unfold unturnZ turnN
  split <;> split <;> omega
theorem unturnZ_bounds (u : Nat) (h : u < 18446744073709551616) : -9223372036854775808 ≤ unturnZ u ∧ unturnZ u ≤ 9223372036854775807 := by
  unfold unturnZ; split <;> omega
set_option maxRecDepth 100000 in
theorem turn_any (v : Int) (w : World) (h1 : -9223372036854775808 ≤ v) (h2 : v ≤ 9223372036854775807) :
    Calls Try.prog 102 #[.int .i64 v] w fun e w' => e = .returned (.int .u64 (turnN v)) ∧ w = w' := by
  go_enter Try.func102, Try.ntmps102
  go_wp2
  go_ret
  exact ⟨ret_int (spell_turn v h1 h2), rfl⟩
set_option maxRecDepth 100000 in
theorem unturn_any (u : Nat) (w : World) (h : u < 18446744073709551616) :
    Calls Try.prog 99 #[.int .u64 u] w fun e w' => e = .returned (.int .i64 (unturnZ u)) ∧ w = w' := by
  go_enter Try.func99, Try.ntmps99
  go_wp2
  go_ret
  exact ⟨ret_int (spell_unturn u h), rfl⟩

/-! ### Int, Count, Left, Err, End -/
theorem uV_lt (l : List UInt8) (e : Nat) : uV l e < 18446744073709551616 := by
  have hb := dec_bounds l 0 0 (dec l).1 (dec l).2.1 (dec l).2.2 (by omega) (by simp) rfl
  unfold uV; split <;> omega
theorem int_any (g e : Nat) (l : List UInt8) (w : World) (h : Rdr w g l e) :
    Calls Try.prog 65 #[.pointer (some ⟨g, 0, none⟩)] w fun x w' => x = .returned (.int .i64 (unturnZ (uV l e))) ∧ Rdr w' g (tkL l e (dec l).2.1 (dec l).2.2) (tkE e (dec l).2.2) ∧ w.grownBy w' (some g) := by
  have hlt := hide (uV_lt l e)
  have HU := hide (uint_any g e l w h)
  clear h
  generalize uV l e = V at *
  go_enter Try.func65, Try.ntmps65
  go_wp2_with (first | (go_at_call 64; refine HU.out.mono ?_; rintro e w1 ⟨rfl, hr1, hg1⟩) | (go_at_call 99; refine (unturn_any V _ hlt.out).mono ?_; rintro e w' ⟨rfl, rfl⟩))
  go_ret
  exact ⟨rfl, hr1, hg1⟩
def cV (l : List UInt8) (e : Nat) (most : Int) : Nat := if e = 0 ∧ (cnt l most).2.2 = 0 then (cnt l most).1 else 0
theorem countM_any (g e : Nat) (l : List UInt8) (most : Int) (w : World) (h : Rdr w g l e) (hm : most ≤ 9223372036854775807) :
    Calls Try.prog 67 #[.pointer (some ⟨g, 0, none⟩), .int .i64 most] w fun x w' => x = .returned (.int .i64 (cV l e most)) ∧ Rdr w' g (tkL l e (cnt l most).2.1 (cnt l most).2.2) (tkE e (cnt l most).2.2) ∧ w.grownBy w' (some g) := by
  have h0 := h
  obtain ⟨A, n, c, hk, hr, h1, h2, h3⟩ := h
  have c0 := hk.cell 0
  simp only [List.getElem?_toArray, List.getElem?_cons_zero, List.getElem?_cons_succ] at c0
  have hb := cnt_bounds l most
  have HT := hide (take_any g (cnt l most).2.1 e (cnt l most).2.2 l w h0 (fun _ _ => by omega))
  have HF := hide (count_any A n c l most w (hr.more (Nat.le_of_lt hk.lt)) h3 hm)
  have HV := hide (show cV l e most = if e = 0 ∧ (cnt l most).2.2 = 0 then (cnt l most).1 else 0 from rfl)
  clear hb hk hr h0 hm
  generalize cV l e most = V at HV
  generalize cnt l most = d at *
  obtain ⟨u, s, er⟩ := d
  simp only at HT HF HV ⊢
  generalize hq : decide (e = 0 ∧ er = 0) = q at HT
  have HQ := hide hq
  clear hq
  cases q with
  | true =>
    have hv := HV.out
    rw [if_pos (of_decide_eq_true HQ.out)] at hv
    rw [hv]
    clear hv
    go_enter Try.func67, Try.ntmps67
    go_wp2_with (first | (go_at_call 100; refine HF.out.mono ?_; rintro e w' ⟨rfl, rfl⟩) | (go_at_call 98; refine HT.out.mono ?_; rintro e w1 ⟨rfl, hr1, hg1⟩))
    go_ret
    exact ⟨rfl, hr1, hg1⟩
  | false =>
    have hv := HV.out
    rw [if_neg (of_decide_eq_false HQ.out)] at hv
    rw [hv]
    clear hv
    go_enter Try.func67, Try.ntmps67
    go_wp2_with (first | (go_at_call 100; refine HF.out.mono ?_; rintro e w' ⟨rfl, rfl⟩) | (go_at_call 98; refine HT.out.mono ?_; rintro e w1 ⟨rfl, hr1, hg1⟩))
    go_ret
    exact ⟨rfl, hr1, hg1⟩
def endE (l : List UInt8) (e : Nat) : Nat := if l = [] then e else tkE e 10
theorem end_any (g e : Nat) (l : List UInt8) (w : World) (h : Rdr w g l e) :
    Calls Try.prog 68 #[.pointer (some ⟨g, 0, none⟩)] w fun x w' => x = .returned (.int .i64 (endE l e)) ∧ Rdr w' g l (endE l e) ∧ w.grownBy w' (some g) := by
  have h0 := h
  obtain ⟨A, n, c, hk, hr, h1, h2, h3⟩ := h
  have c0 := hk.cell 0
  have c1 := hk.cell 1
  simp only [List.getElem?_toArray, List.getElem?_cons_zero, List.getElem?_cons_succ] at c0 c1
  have hlen := RdB.len hr
  by_cases hn : 0 < n
  · have he : endE l e = tkE e 10 := by unfold endE; rw [if_neg]; intro hh; subst hh; simp at hlen; omega
    rw [he]
    have HT := hide (take_any g 0 e 10 l w h0 (fun _ _ => by omega))
    have hL : tkL l e 0 10 = l := by unfold tkL; split <;> simp
    rw [hL] at HT
    clear hlen hk hr h0 he hL
    go_enter Try.func68, Try.ntmps68
    go_wp2_with (go_at_call 98; refine HT.out.mono ?_; rintro e w1 ⟨rfl, hr1, hg1⟩; obtain ⟨A1, n1, cc, hk1, hr2, _⟩ := id hr1; have d1 := hk1.cell 1; simp only [List.getElem?_toArray, List.getElem?_cons_zero, List.getElem?_cons_succ] at d1; clear hk1 hr2)
    go_ret
    exact ⟨rfl, hr1, hg1⟩
  · have he : endE l e = e := by unfold endE; rw [if_pos (List.eq_nil_of_length_eq_zero (by omega))]
    rw [he]
    clear hlen hk hr he
    go_enter Try.func68, Try.ntmps68
    go_wp2
    go_ret
    exact ⟨rfl, h0, World.grownBy.refl _ _⟩
end Go.Proofs.Ytbjmdnemeidpjaa
/- append of a string's bytes onto an owned slice; a slice of strings that is read; bytes as a string. No program is named here. -/
namespace Go.Proofs.Ytbjmdnemeidpjaa
set_option linter.unusedSimpArgs false
set_option linter.unusedVariables false
open Go.RowKit

theorem strCells_bv (s : ByteArray) : Lib.strCells s = s.data.toList.map bv := rfl
theorem size_toList (s : ByteArray) : s.data.toList.length = s.size := by rw [Array.length_toList]; rfl

section
variable {P : Program} (w : World)
theorem run_append_room_str (t u ty e : TypeId) (i : TypeInfo) (ht : P.underlying t = some (.slice e)) (hu : P.underlying u = some .string) (hi : P.info? e = some i) (hs1 : i.size = 1)
    (b off sLen sCap : Nat) (s : ByteArray) (hroom : sLen + s.size ≤ sCap)
    (hc : ∀ j, j < s.size → (w.cell? ⟨b, off + sLen + j, none⟩).isSome = true) (hf : ∀ j, j < s.size → w.frozen? ⟨b, off + sLen + j, none⟩ = false) :
    (Builtin.append_ #[t, u] ty #[.slice (some ⟨b, off, none⟩) sLen sCap, .string s]).run P w = .ok (.slice (some ⟨b, off, none⟩) (sLen + s.size) sCap) (w.setCells b (off + sLen) (Lib.strCells s)) := by
  have hfc := Lib.run_firstCells_string (P := P) w 1 s
  have hst := run_storeCells_cells (P := P) b (off + sLen) (Lib.strCells s) 0 w (by simpa [Lib.strCells_length] using hc) (by simpa [Lib.strCells_length] using hf) (Lib.strCells_oneCell s)
  simp only [Nat.add_zero] at hst
  simp [Builtin.append_, run_underlying ht, run_underlying hu, sizeOf, typeInfo, hi, hs1, Builtin.lenOf, hroom, hfc, Addr.add_lit, hst]

theorem run_append_ow_str (lo : Nat) (t u ty e : TypeId) (i : TypeInfo) (ht : P.underlying t = some (.slice e)) (hu : P.underlying u = some .string) (hi : P.info? e = some i) (hz : i.zero = some (.int .u8 0))
    (hsize : i.size = 1) (hby : i.bytes = 1)
    (v : Value) (n : Nat) (xs : List Value) (hown : Ow w lo e 1 v n xs) (s : ByteArray)
    (h63 : n + s.size ≤ maxLen) (hbytes : n + s.size ≤ 140737488355328) (hbase : lo ≤ w.heap.size) :
    ∃ v' w', (Builtin.append_ #[t, u] ty #[v, .string s]).run P w = .ok v' w' ∧ Ow w' lo e 1 v' (n + s.size) (xs ++ s.data.toList.map bv) ∧ w.grownBy w' v.ownBlock := by
  have hxl : xs.length = n := by simpa using hown.1
  have grow : ∀ (a0 : Addr) (cap : Nat), v = .slice (some a0) n cap → cap < n + s.size → (∀ j u, xs[j]? = some u → w.cell? (a0.add j) = some u) →
      ∃ v' w', (Builtin.append_ #[t, u] ty #[v, .string s]).run P w = .ok v' w' ∧ Ow w' lo e 1 v' (n + s.size) (xs ++ s.data.toList.map bv) ∧ w.grownBy w' v.ownBlock := by
    rintro a0 cap rfl hfull hcell0
    have hr := Lib.run_append_grow_string (P := P) w t u ty e i (.int .u8 0) ht hu hi hz a0 n cap xs (by rw [hsize, Nat.mul_one]; exact hxl) hcell0 s hfull (by simp only [maxLen] at h63; omega) (by rw [hby]; exact growslice_fits hfull (by omega))
    have hge := grownCap_ge w (n + s.size) cap e
    have hcm := grownCap_le_maxLen w (n + s.size) cap e h63
    refine ⟨_, _, hr, Ow.of_own ⟨by rw [List.length_append, hxl, List.length_map, size_toList, Nat.mul_one], .inr ⟨w.heap.size, _, _, rfl, hbase, heap_alloc_new w.drew _, hge, hcm, ?_, ?_⟩⟩, ⟨rfl, rfl, rfl, by simp, fun k hk _ => heap_alloc_old w.drew _ hk⟩⟩
    · have hzs : (Value.int IntKind.u8 0).cells.size = 1 := rfl
      simp only [Array.size_append, List.size_toArray, size_zeroCells, Lib.strCells_length, hxl, hzs, Nat.mul_one]
      omega
    · simp only [Array.toList_append, List.append_assoc]
      rw [← List.append_assoc]
      have : (xs ++ Lib.strCells s).length = (n + s.size) * 1 := by rw [List.length_append, hxl, Lib.strCells_length, Nat.mul_one]
      rw [← this]
      exact List.take_left
  rcases hown.2 with ⟨rfl, rfl⟩ | ⟨a0, rfl, hlo, rfl⟩ | ⟨g, off, cap, rfl, hlo, hlt, hnc, hcm, hroom, hx⟩
  · obtain rfl : xs = [] := hown.nil_of
    obtain ⟨v', w', hr, h2, h3, h4⟩ := Lib.run_append_own_string (P := P) w lo t u ty e i ht hu hi hz hsize hby (.slice none 0 0) 0 [] (World.ownsRow_nil w _ e 1) s h63 hbytes hbase
    exact ⟨v', w', hr, Ow.of_own h2, h3⟩
  · obtain rfl : xs = [] := hown.nil_of
    by_cases hs0 : s.size = 0
    · have hnil : s.data.toList = [] := List.eq_nil_of_length_eq_zero (by rw [size_toList]; exact hs0)
      obtain ⟨⟩ | _ := Nat.eq_zero_or_pos s.size
      all_goals
        refine ⟨.slice (some a0) 0 0, w, ?_, by simpa [hs0, hnil] using hown, World.grownBy.refl w _⟩
        have hfc := Lib.run_firstCells_string (P := P) w 1 s
        have hsc : Lib.strCells s = [] := by rw [strCells_bv, hnil]; rfl
        rw [hsc] at hfc
        simp [Builtin.append_, run_underlying ht, run_underlying hu, sizeOf, typeInfo, hi, hsize, Builtin.lenOf, hs0]
        rw [hs0] at hfc
        simp [hfc, storeCells]
    · exact grow a0 0 rfl (by omega) (by intro j u hu; simp at hu)
  · by_cases hfit : n + s.size ≤ cap
    · have hrun := run_append_room_str (P := P) w t u ty e i ht hu hi hsize g off n cap s hfit
        (fun j hj => by rw [Nat.add_assoc]; exact (hroom _ (by omega)).1) (fun j hj => by rw [Nat.add_assoc]; exact (hroom _ (by omega)).2)
      have hsl := Lib.strCells_length s
      refine ⟨_, _, hrun, ⟨by rw [List.length_append, hxl, List.length_map, size_toList, Nat.mul_one], .inr (.inr ⟨g, off, cap, rfl, hlo, by rw [setCells_size]; exact hlt, hfit, hcm, fun j hj => ?_, fun j hj => ?_⟩)⟩, setCells_grown g _ _ w⟩
      · rw [World.frozen?_setCells]
        refine ⟨?_, (hroom j hj).2⟩
        by_cases hin : n ≤ j ∧ j < n + s.size
        · have h := World.cell?_setCells_in g (Lib.strCells s) (off + n) w (fun q hq => by rw [Nat.add_assoc]; exact (hroom _ (by omega)).1) (j - n) (by omega)
          rw [show off + n + (j - n) = off + j by omega] at h
          rw [h]; rfl
        · rw [World.cell?_setCells_out g (Lib.strCells s) (off + n) w _ (fun _ _ => by simp only; omega)]
          exact (hroom j hj).1
      · have hj : j < (xs ++ Lib.strCells s).length := hj
        show _ = some (xs ++ Lib.strCells s)[j]
        rw [List.length_append] at hj
        by_cases hin : j < xs.length
        · rw [World.cell?_setCells_out g (Lib.strCells s) (off + n) w _ (fun _ _ => by simp only; omega), List.getElem_append_left hin]
          exact hx j hin
        · have h := World.cell?_setCells_in g (Lib.strCells s) (off + n) w (fun q hq => by rw [Nat.add_assoc]; exact (hroom _ (by omega)).1) (j - xs.length) (by omega)
          rw [show off + n + (j - xs.length) = off + j by omega] at h
          rw [h, List.getElem_append_right (by omega)]
    · exact grow ⟨g, off, none⟩ cap rfl (by omega) (fun j u hu => by
        obtain ⟨hj, hu⟩ := List.getElem?_eq_some_iff.1 hu
        rw [Addr.add_lit, hx j hj, hu])

theorem wpList_append_ow_str {ops : Array Oper} {rest : List Oper} {o : Oper} {a : Act} {Q : Exit → Act → World → Prop} (hgd : o.guard = none) (sl x : Operand) (t u : TypeId)
    (ho : o.op = .call { callee := .builtin .append, args := #[sl, x], argTypes := #[t, u] })
    (lo : Nat) (e : TypeId) (i : TypeInfo) (ht : P.underlying t = some (.slice e)) (hu : P.underlying u = some .string) (hi : P.info? e = some i) (hz : i.zero = some (.int .u8 0))
    (hsize : i.size = 1) (hby : i.bytes = 1)
    (v : Value) (n : Nat) (xs : List Value) (hs : a.eval sl = v) (hown : Ow w lo e 1 v n xs) (s : ByteArray) (hx : a.eval x = .string s)
    (h63 : n + s.size ≤ maxLen) (hbytes : n + s.size ≤ 140737488355328) (hbase : lo ≤ w.heap.size)
    (h : ∀ v' w', Ow w' lo e 1 v' (n + s.size) (xs ++ s.data.toList.map bv) → w.grownBy w' v.ownBlock → wpList P ops Q rest (a.put o.dst v') w') : wpList P ops Q (o :: rest) a w := by
  refine wpList_plain hgd fun K hK => ?_
  obtain ⟨v', w', hr, h2, h3⟩ := run_append_ow_str (P := P) w lo t u o.type e i ht hu hi hz hsize hby v n xs hown s h63 hbytes hbase
  unfold Oper.wp execOp
  simp only [ho, resolve, invoke, builtin, Sem.run_bind, Sem.run_pure, Result.andThen_ok, List.map_toArray, List.map_cons, List.map_nil, hs, hx, hr]
  exact hK _ _ (h v' w' h2 h3)
end
end Go.Proofs.Ytbjmdnemeidpjaa
/- code.Uints, code.Ints, code.Texts, code.New, (*Reader).Text. -/
namespace Go.Proofs.Ytbjmdnemeidpjaa
open Go.RowKit
set_option linter.unusedVariables false
set_option linter.unusedSimpArgs false

def u64v (x : Nat) : Value := .int .u64 (x : Int)
def strv (s : ByteArray) : Value := .string s
def encs (l : List Nat) : List UInt8 := (l.map enc).flatten
theorem encs_snoc (l : List Nat) (k : Nat) (x : Nat) (h : l[k]? = some x) : encs (l.take (k + 1)) = encs (l.take k) ++ enc x := by
  unfold encs
  rw [List.take_add_one, h]; simp
theorem encs_len (l : List Nat) : (encs l).length ≤ 10 * l.length := by
  unfold encs
  induction l with
  | nil => simp
  | cons x l ih =>
    simp only [List.map_cons, List.flatten_cons, List.length_append, List.length_cons]
    have h : (enc x).length ≤ 10 := (encF_len 9 x).2
    omega
set_option maxRecDepth 100000 in
theorem uints_any (A : Option Addr) (n c : Nat) (l : List Nat) (w : World) (hr : Rd w w.heap.size 1 A n (l.map u64v)) (hn : n ≤ 65536) (hl : ∀ x ∈ l, x < 18446744073709551616) :
    Calls Try.prog 70 #[.slice A n c] w fun e w' => ∃ v, e = .returned v ∧ Ow w' w.heap.size 5 1 v (encs l).length ((encs l).map bv) ∧ Below w.heap.size w w' := by
  have hlen := hr.len
  have HL := hide hl
  have HLEN := hide hlen
  clear hl hlen
  go_enter Try.func70, Try.ntmps70
  go_wp2
  go_loopw [3, 5, 8] (fun v _ i wr => ∃ k m : Nat, k ≤ n ∧ i = .int .i64 k ∧ m ≤ 10 * k ∧ Ow wr w.heap.size 5 1 v m ((encs (l.take k)).map bv) ∧ Below w.heap.size w wr) (fun _ _ i _ => n - (intOf i).toNat)
  case atStart => exact ⟨0, 0, Nat.zero_le _, rfl, by omega, Ow.nil _ _ _ _, Below.refl _ _⟩
  case round =>
    obtain ⟨k, m, hk, rfl, hm, own, hb⟩ := hrel
    by_cases hk1 : k < n
    · obtain ⟨b, off, rfl, hbb, x, hx, hc⟩ := hr.get hk1
      have hc' := (hb.cell (p := ⟨b, off + k, none⟩) hbb).trans hc
      unfold u64v at hc'
      have HX := hide hx
      have HXL := hide (HL.out x (List.mem_of_getElem? hx))
      have hel := (encF_len 9 x).2
      clear hx hc
      go_wp2_with (go_at_call 101; refine (put_any _ m _ x w.heap.size _ own hb.size HXL.out (by omega)).mono ?_; rintro e w1 ⟨v1, rfl, own1, hb1⟩)
      go_roundw
      case rel => exact ⟨k + 1, m + (enc x).length, by omega, by go_num, by unfold enc; omega, by rw [encs_snoc l k x HX.out]; exact own1, hb.trans hb1⟩
      case measure => simp [intOf]; omega
    · go_wp2
      go_ret
      have ht : l.take k = l := List.take_of_length_le (by have := HLEN.out; omega)
      rw [ht] at own
      have hm : m = (encs l).length := by have := own.1; simpa using this.symm
      rw [hm] at own
      exact ⟨_, rfl, own, hb⟩
set_option maxRecDepth 100000 in
theorem ints_any (A : Option Addr) (n c : Nat) (l : List Int) (w : World) (hr : Rd w w.heap.size 1 A n (l.map i64v)) (hn : n ≤ 65536) (hl : ∀ x ∈ l, -9223372036854775808 ≤ x ∧ x ≤ 9223372036854775807) :
    Calls Try.prog 71 #[.slice A n c] w fun e w' => ∃ v, e = .returned v ∧ Ow w' w.heap.size 5 1 v (encs (l.map turnN)).length ((encs (l.map turnN)).map bv) ∧ Below w.heap.size w w' := by
  have hlen := hr.len
  have HL := hide hl
  have HLEN := hide hlen
  clear hl hlen
  go_enter Try.func71, Try.ntmps71
  go_wp2
  go_loopw [3, 5, 8] (fun v _ i wr => ∃ k m : Nat, k ≤ n ∧ i = .int .i64 k ∧ m ≤ 10 * k ∧ Ow wr w.heap.size 5 1 v m ((encs ((l.map turnN).take k)).map bv) ∧ Below w.heap.size w wr) (fun _ _ i _ => n - (intOf i).toNat)
  case atStart => exact ⟨0, 0, Nat.zero_le _, rfl, by omega, Ow.nil _ _ _ _, Below.refl _ _⟩
  case round =>
    obtain ⟨k, m, hk, rfl, hm, own, hb⟩ := hrel
    by_cases hk1 : k < n
    · obtain ⟨b, off, rfl, hbb, x, hx, hc⟩ := hr.get hk1
      have hc' := (hb.cell (p := ⟨b, off + k, none⟩) hbb).trans hc
      unfold i64v at hc'
      have HX := hide hx
      have HXL := hide (HL.out x (List.mem_of_getElem? hx))
      have HTL := hide (turnN_lt x HXL.out.1 HXL.out.2)
      have hel := (encF_len 9 (turnN x)).2
      clear hx hc
      go_wp2_with (first | (go_at_call 102; refine (turn_any x _ HXL.out.1 HXL.out.2).mono ?_; rintro e w' ⟨rfl, rfl⟩) | (go_at_call 101; refine (put_any _ m _ (turnN x) w.heap.size _ own hb.size HTL.out (by omega)).mono ?_; rintro e w1 ⟨v1, rfl, own1, hb1⟩))
      go_roundw
      case rel => exact ⟨k + 1, m + (enc (turnN x)).length, by omega, by go_num, by unfold enc; omega, by rw [encs_snoc (l.map turnN) k (turnN x) (by rw [List.getElem?_map, HX.out]; rfl)]; exact own1, hb.trans hb1⟩
      case measure => simp [intOf]; omega
    · go_wp2
      go_ret
      have ht : (l.map turnN).take k = l.map turnN := List.take_of_length_le (by have := HLEN.out; simp; omega)
      rw [ht] at own
      have hm : m = (encs (l.map turnN)).length := by have := own.1; simpa using this.symm
      rw [hm] at own
      exact ⟨_, rfl, own, hb⟩

/-- The bytes of a text. -/
def encT (s : ByteArray) : List UInt8 := enc s.size ++ s.data.toList
def encTs (l : List ByteArray) : List UInt8 := (l.map encT).flatten
theorem encTs_snoc (l : List ByteArray) (k : Nat) (x : ByteArray) (h : l[k]? = some x) : encTs (l.take (k + 1)) = encTs (l.take k) ++ encT x := by
  unfold encTs
  rw [List.take_add_one, h]; simp
theorem encT_len (s : ByteArray) : (encT s).length ≤ 10 + s.size := by
  unfold encT enc
  have := (encF_len 9 s.size).2
  rw [List.length_append, size_toList]
  omega
set_option maxRecDepth 100000 in
theorem texts_any (A : Option Addr) (n c q : Nat) (l : List ByteArray) (w : World) (hr : Rd w w.heap.size 1 A n (l.map strv)) (hn : n ≤ 65536) (hl : ∀ x ∈ l, x.size ≤ 65536) :
    Calls Try.prog 72 #[.slice A n c] w fun e w' => ∃ v, e = .returned v ∧ Ow w' w.heap.size 5 1 v (encTs l).length ((encTs l).map bv) ∧ Below w.heap.size w w' := by
  obtain ⟨i0, hi0, hz0, hz1, hz2⟩ := info_parts Try.info8
  have hlen := hr.len
  have HL := hide hl
  have HLEN := hide hlen
  clear hl hlen
  go_enter Try.func72, Try.ntmps72
  go_wp2
  go_loopw [3, 5, 8] (fun v _ i wr => ∃ k m : Nat, k ≤ n ∧ i = .int .i64 k ∧ m ≤ 65546 * k ∧ Ow wr w.heap.size 5 1 v m ((encTs (l.take k)).map bv) ∧ Below w.heap.size w wr) (fun _ _ i _ => n - (intOf i).toNat)
  case atStart => exact ⟨0, 0, Nat.zero_le _, rfl, by omega, Ow.nil _ _ _ _, Below.refl _ _⟩
  case round =>
    obtain ⟨k, m, hk, rfl, hm, own, hb⟩ := hrel
    by_cases hk1 : k < n
    · obtain ⟨b, off, rfl, hbb, x, hx, hc⟩ := hr.get hk1
      have hc' := (hb.cell (p := ⟨b, off + k, none⟩) hbb).trans hc
      unfold strv at hc'
      have HX := hide hx
      have hxl := HL.out x (List.mem_of_getElem? hx)
      have hel := (encF_len 9 x.size).2
      have HEL := hide (show (enc x.size).length ≤ 10 from hel)
      have hw : IntKind.u64.wrap (x.size : Int) = x.size := by rw [u64_wrap]; omega
      clear hx hc hel
      go_wp2_with (first
        | (go_at_call 101; refine (put_any _ m _ x.size w.heap.size _ own hb.size (by omega) (by omega)).mono ?_; rintro e w1 ⟨v1, rfl, own1, hb1⟩)
        | (at_builtin; refine wpList_append_ow_str _ rfl (.tmp 16) (.tmp 17) _ _ rfl w.heap.size 5 i0 Try.underlying67 Try.underlying9 hi0 hz0 hz1 hz2 v1 _ _ rfl own1 x rfl (by have := HEL.out; simp only [maxLen]; omega) (by have := HEL.out; omega) (by have := hb1.size; have := hb.size; omega) ?_; intro v2 w2 own2 hg2))
      go_roundw
      case rel =>
        refine ⟨k + 1, m + (enc x.size).length + x.size, by omega, by go_num, by have := HEL.out; omega, ?_, (hb.trans hb1).grown hg2 (by have := hb1.size; have := hb.size; omega) (fun q hq => own1.lt q hq)⟩
        rw [encTs_snoc l k x HX.out, encT, ← List.append_assoc, List.map_append]
        exact own2
      case measure => simp [intOf]; omega
    · go_wp2
      go_ret
      have ht : l.take k = l := List.take_of_length_le (by have := HLEN.out; omega)
      rw [ht] at own
      have hm : m = (encTs l).length := by have := own.1; simpa using this.symm
      rw [hm] at own
      exact ⟨_, rfl, own, hb⟩
/-! ### New, Text -/
theorem newR_any (A : Option Addr) (n c : Nat) (l : List UInt8) (w : World) (hr : RdB w w.heap.size A n l) (hn : n ≤ 140737488351232) :
    Calls Try.prog 63 #[.slice A n c] w fun e w' => ∃ g, e = .returned (.pointer (some ⟨g, 0, none⟩)) ∧ w.heap.size ≤ g ∧ Rdr w' g l 0 ∧ Below w.heap.size w w' := by
  go_enter Try.func63, Try.ntmps63
  go_wp2_with (go_at_call 96; refine (clone_any A n c l _ hr hn).mono ?_; rintro e w1 ⟨v1, rfl, own1, hb1⟩; obtain ⟨A1, c1, rfl, hc1, hm1, r1⟩ := own1.form; clear own1)
  go_ret
  have hsz := hb1.size
  refine ⟨w1.heap.size, rfl, hsz, ⟨A1, n, c1, Blk.new _ _ _, r1.alloc (Nat.le_refl _) _, hc1, hm1, hn⟩, hb1.alloc hsz _⟩
def tE (l : List UInt8) (most : Int) : Nat := if (cnt l most).2.2 = 0 ∧ l.length - (cnt l most).2.1 < (cnt l most).1 then 15 else (cnt l most).2.2
def tV (l : List UInt8) (e : Nat) (most : Int) : List UInt8 := if e = 0 ∧ tE l most = 0 then (l.drop (cnt l most).2.1).take (cnt l most).1 else []
theorem string_any (w : World) (A : Option Addr) (n c : Nat) (l : List UInt8) {B : Nat} (h : RdB w B A n l) : (convert 67 9 (.slice A n c)).run Try.prog w = .ok (.string ⟨l.toArray⟩) w := by
  have hl := RdB.len h
  subst hl
  cases A with
  | none =>
    have h0 : l = [] := by
      rcases Nat.eq_zero_or_pos l.length with h1 | h1
      · exact List.eq_nil_of_length_eq_zero h1
      · obtain ⟨_, _, h2, _⟩ := h.at_ h1
        cases h2
    subst h0
    exact Lib.run_convert_nil_bytes w _ _ _ c Try.underlying67 Try.underlying5 Try.underlying9
  | some a =>
    refine run_convert_bytes_back w _ _ _ a c l Try.underlying67 Try.underlying5 Try.underlying9 (fun j hj => ?_)
    obtain ⟨b, off, e, _, hc⟩ := RdB.cell h hj
    injection e with e
    subst e
    rw [Addr.add_lit, hc]
set_option maxHeartbeats 1000000 in
set_option maxRecDepth 100000 in
theorem text_any (g e : Nat) (l : List UInt8) (most : Int) (w : World) (h : Rdr w g l e) (hm : most ≤ 9223372036854775807) :
    Calls Try.prog 66 #[.pointer (some ⟨g, 0, none⟩), .int .i64 most] w fun x w' => x = .returned (.string ⟨(tV l e most).toArray⟩) ∧ Rdr w' g (tkL l e ((cnt l most).2.1 + (cnt l most).1) (tE l most)) (tkE e (tE l most)) ∧ w.grownBy w' (some g) := by
  have h0 := h
  obtain ⟨A, n, c, hk, hr, h1, h2, h3⟩ := h
  have c0 := hk.cell 0
  simp only [List.getElem?_toArray, List.getElem?_cons_zero, List.getElem?_cons_succ] at c0
  have hlen := RdB.len hr
  have hb := cnt_bounds l most
  have hsz : e = 0 → tE l most = 0 → (cnt l most).2.1 + (cnt l most).1 ≤ l.length := by
    intro _ hte
    unfold tE at hte
    split at hte
    · omega
    · omega
  have HT := hide (fun h1 h2 => take_any g ((cnt l most).2.1 + (cnt l most).1) e (tE l most) l w h0 (fun _ _ => hsz h1 h2))
  have HB := hide (fun (z : Int) (hne : ¬ (e = 0 ∧ tE l most = 0)) => take_bad g e (tE l most) z l w h0 hne)
  have HF := hide (count_any A n c l most w (hr.more (Nat.le_of_lt hk.lt)) h3 hm)
  have HV := hide (show tV l e most = if e = 0 ∧ tE l most = 0 then (l.drop (cnt l most).2.1).take (cnt l most).1 else [] from rfl)
  have HTE := hide (show tE l most = if (cnt l most).2.2 = 0 ∧ l.length - (cnt l most).2.1 < (cnt l most).1 then 15 else (cnt l most).2.2 from rfl)
  have HR := hide hr
  have HSZ := hide hsz
  have HLEN := hide hlen
  have hglt := hk.lt
  clear hk h0 hm hr hsz hlen
  generalize tV l e most = V at HV ⊢
  generalize tE l most = te at *
  generalize cnt l most = d at *
  obtain ⟨u, s, er⟩ := d
  simp only at HT HF HV HTE HSZ hb ⊢
  obtain ⟨_, hs0, hs1, her⟩ := hb
  have hsn : s ≤ n := by have := HLEN.out; omega
  clear hs0
  have hm2 := h2
  unfold maxLen at h2
  by_cases h0 : er = 0
  · have b0 : ((er : Int) == 0) = true := by rw [h0]; rfl
    have H0 := hide h0
    clear h0 her
    by_cases hu : n - s < u
    · have hte : te = 15 := by rw [HTE.out, if_pos ⟨H0.out, by rw [HLEN.out]; exact hu⟩]
      subst hte
      have hv : V = [] := by rw [HV.out, if_neg (by omega)]
      subst hv
      have hu2 : (n : Int) - (s : Int) < (u : Int) := by omega
      have HL : ∀ z : Nat, tkL l e z 15 = l := fun z => if_neg (by omega)
      rw [HL]
      have HLL := hide HL
      clear HL hu
      go_enter Try.func66, Try.ntmps66
      go_wp2_with fail
      refine HF.out.mono ?_
      rintro e1 w' ⟨rfl, rfl⟩
      go_wp2_with fail
      refine (HB.out _ (by omega)).mono ?_
      rintro e1 w1 ⟨rfl, hr1, hg1⟩
      rw [HLL.out] at hr1
      rw [decide_eq_false (by omega)]
      go_wp2_with fail
      go_ret
      exact ⟨rfl, hr1, hg1⟩
    · have hte : te = er := by rw [HTE.out, if_neg (by rw [HLEN.out]; intro h; exact hu h.2)]
      subst hte
      have hu2 : (u : Int) ≤ (n : Int) - (s : Int) := by omega
      have hsu : s + u ≤ n := by omega
      clear hu
      by_cases he : e = 0
      · have hv : V = (l.drop s).take u := by rw [HV.out, if_pos ⟨he, H0.out⟩]
        subst hv
        have ht2 := HT.out he H0.out
        rw [show ((s + u : Nat) : Int) = (s : Int) + (u : Int) from by omega] at ht2
        have HT2 := hide ht2
        clear ht2
        have HE := hide he
        have hstr : ∀ w1 : World, w.grownBy w1 (some g) → (convert 67 9 (.slice (if c = s then A else A.map (·.add (s * 1))) u (c - s))).run Try.prog w1 = .ok (.string ⟨((l.drop s).take u).toArray⟩) w1 := by
          intro w1 hg
          have hc1 := HR.out.cut (k := s) (cap := c) hsn h1
          have hc2 := hc1.take (k := u) (by omega)
          rw [Nat.mul_one, Nat.mul_one, ← List.map_drop, ← List.map_take] at hc2
          rw [Nat.mul_one]
          exact string_any w1 _ u (c - s) _ (hc2.grown hg (Nat.le_of_lt hglt) (fun q hq => by cases hq; exact Nat.le_refl _))
        clear he HV HTE HB
        have hneg : ¬ (s + u : Int) < 0 := by omega
        by_cases hcs : c = s
        · have HCS := hide hcs
          have hcd : (c = s) = True := by simp [HCS.out]
          simp only [if_pos hcs] at hstr
          have HSTR := hide hstr
          clear hcs hstr
          go_enter Try.func66, Try.ntmps66
          go_wp2_with fail
          refine HF.out.mono ?_
          rintro e1 w' ⟨rfl, rfl⟩
          go_wp2_with fail
          refine HT2.out.mono ?_
          rintro e1 w1 ⟨rfl, hr1, hg1⟩
          rw [decide_eq_true ⟨HE.out, H0.out⟩]
          have hs1 := HSTR.out w1 hg1
          go_wp2_with fail
          go_ret
          exact ⟨rfl, hr1, hg1⟩
        · simp only [if_neg hcs, Nat.mul_one] at hstr
          have HSTR := hide hstr
          clear hstr
          go_enter Try.func66, Try.ntmps66
          go_wp2_with fail
          refine HF.out.mono ?_
          rintro e1 w' ⟨rfl, rfl⟩
          go_wp2_with fail
          refine HT2.out.mono ?_
          rintro e1 w1 ⟨rfl, hr1, hg1⟩
          rw [decide_eq_true ⟨HE.out, H0.out⟩]
          have hs1 := HSTR.out w1 hg1
          go_wp2_with fail
          go_ret
          exact ⟨rfl, hr1, hg1⟩
      · have hv : V = [] := by rw [HV.out, if_neg (fun h => he h.1)]
        subst hv
        have HL : tkL l e (s + u) te = l := if_neg (fun h => he h.1)
        have HB2 := hide (HB.out ((s : Int) + u) (fun h => he h.1))
        have hde : decide (e = 0 ∧ te = 0) = false := decide_eq_false (fun h => he h.1)
        have HDE := hide hde
        have hz : ((s : Int) + u).toNat = s + u := by omega
        have HZ := hide hz
        clear hde hz he
        rw [HL]
        have HLL := hide HL
        clear HL
        go_enter Try.func66, Try.ntmps66
        go_wp2_with fail
        refine HF.out.mono ?_
        rintro e1 w' ⟨rfl, rfl⟩
        go_wp2_with fail
        refine HB2.out.mono ?_
        rintro e1 w1 ⟨rfl, hr1, hg1⟩
        rw [HZ.out, HLL.out] at hr1
        rw [HDE.out]
        go_wp2_with fail
        go_ret
        exact ⟨rfl, hr1, hg1⟩
  · have b0 : ((er : Int) == 0) = false := by simp; omega
    have hte : te = er := by rw [HTE.out, if_neg (fun h => h0 h.1)]
    subst hte
    have hv : V = [] := by rw [HV.out, if_neg (fun h => h0 h.2)]
    subst hv
    have HL : ∀ z : Nat, tkL l e z te = l := fun z => if_neg (fun h => h0 h.2)
    rw [HL]
    have HLL := hide HL
    have hde : decide (e = 0 ∧ te = 0) = false := decide_eq_false (fun h => h0 h.2)
    have HDE := hide hde
    have HB2 := hide (fun z => HB.out z (fun h => h0 h.2))
    clear HL hde h0
    go_enter Try.func66, Try.ntmps66
    go_wp2_with fail
    refine HF.out.mono ?_
    rintro e1 w' ⟨rfl, rfl⟩
    go_wp2_with fail
    refine (HB2.out _).mono ?_
    rintro e1 w1 ⟨rfl, hr1, hg1⟩
    rw [HLL.out] at hr1
    rw [HDE.out]
    go_wp2_with fail
    go_ret
    exact ⟨rfl, hr1, hg1⟩
end Go.Proofs.Ytbjmdnemeidpjaa
/- alive answers true. -/
namespace Go.Proofs.Ytbjmdnemeidpjaa
open Go.RowKit
set_option linter.unusedVariables false
set_option linter.unusedSimpArgs false

def k0 : List UInt8 := [172, 2, 5, 1, 97, 9]
def k1 : List UInt8 := [5, 1, 97, 9]
def k2 : List UInt8 := [1, 97, 9]
theorem f0 : uV k0 0 = 300 ∧ tkL k0 0 (dec k0).2.1 (dec k0).2.2 = k1 ∧ tkE 0 (dec k0).2.2 = 0 := by decide +kernel
theorem f1 : unturnZ (uV k1 0) = -3 ∧ tkL k1 0 (dec k1).2.1 (dec k1).2.2 = k2 ∧ tkE 0 (dec k1).2.2 = 0 := by decide +kernel
theorem f2 : tV k2 0 1 = [97] ∧ tkL k2 0 ((cnt k2 1).2.1 + (cnt k2 1).1) (tE k2 1) = [9] ∧ tkE 0 (tE k2 1) = 0 := by decide +kernel
theorem f3 : cV [9] 0 8 = 0 ∧ tkL [9] 0 (cnt [9] 8).2.1 (cnt [9] 8).2.2 = [9] ∧ tkE 0 (cnt [9] 8).2.2 = 17 := by decide +kernel
theorem f4 : endE [9] 17 = 17 := by decide +kernel
theorem f5 : encs [300, 0] = [172, 2, 0] := by decide +kernel
theorem f6 : encs ([-3].map turnN) = [5] := by decide +kernel
def tab : ByteArray := ⟨#[97, 98]⟩
def tnil : ByteArray := ⟨#[]⟩
theorem f7 : encTs [tab, tnil] = [2, 97, 98, 0] := by decide +kernel
theorem f8 : turnN (-3) = 5 ∧ unturnZ 5 = -3 := by decide +kernel
theorem Rd.litv (w : World) (xs : List Value) (e : TypeId) (n : Nat) (hs : xs.length = n) (B : Nat) (hB : B = w.heap.size + 1) : Rd (w.alloc (.cells xs.toArray e)) B 1 (some ⟨w.heap.size, 0, none⟩) n xs := by
  subst hB
  exact Rd.litm w xs.toArray e (0, 0) n 1 (by simpa using hs)

end Go.Proofs.Ytbjmdnemeidpjaa
