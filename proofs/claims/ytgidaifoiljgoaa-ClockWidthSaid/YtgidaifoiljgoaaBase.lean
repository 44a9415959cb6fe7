/- Words for memory that all walks of this seat use: a slice that is only read (Rd), a slice that the call owns (Ow), append onto it. No program is named here. -/
import Derived.WalkKit
import Derived.WalkLawsBesides
import Derived.WalkSpells
import Derived.Lib.Hide
import Derived.Below
import Derived.Laws.OwnMore
import Derived.Deep.AppendLies
import Derived.Deep.Draws
import Derived.Maps.AppendAt
import Derived.RegionTactic
import Derived.OwnWalk
import Derived.ChangeSame
import Derived.ArgAppend
import Derived.Lib.SlBytesConst
import Derived.BigQuiet
import Derived.Deep.QuietTactic
namespace Go.Proofs.Ytgidaifoiljgoaa
set_option linter.unusedSimpArgs false
set_option linter.unusedVariables false
open Go.RowKit

theorem hide {p : Prop} (h : p) : Hid p := h
theorem unhide {p : Prop} (h : Hid p) : p := h

/-! ### a quiet call in a region that draws its order; the contract says 'w = w'' -/
theorem quiet_left {P : Program} {f : FuncId} {args : Array Value} {w : World} {n : Nat} {v : Value}
    (h : Calls P f args (w.drewN n) fun e w' => e = .returned v ∧ w.drewN n = w') : Calls P f args (w.drewN n) fun e w'' => e = .returned v ∧ ∃ m, w'' = w.drewN m :=
  h.mono fun _ _ ⟨he, hm⟩ => ⟨he, n, hm.symm⟩
theorem quiet_add_left {P : Program} {f : FuncId} {args : Array Value} {w : World} {a n : Nat} {v : Value}
    (h : Calls P f args (w.drewN (a + n)) fun e w' => e = .returned v ∧ w.drewN (a + n) = w') :
    Calls P f args (w.drewN (a + n)) fun e w'' => e = .returned v ∧ ∃ m, w'' = w.drewN (a + m) :=
  h.mono fun _ _ ⟨he, hm⟩ => ⟨he, n, hm.symm⟩

/-! ### addresses -/
theorem add_add (b o i j : Nat) : ((⟨b, o, none⟩ : Addr).add i).add j = ⟨b, o + (i + j), none⟩ := by
  rw [Addr.add_lit, Addr.add_lit, Nat.add_assoc]

theorem below_drewN {B : Nat} {a w : World} (h : Below B a w) (n : Nat) : Below B a (w.drewN n) := ⟨h.os, h.tape, h.output, h.size, h.block⟩

/-! ### a slice that is read: nil or not -/
/-- The slice '.slice A n c' has the cells xs ('size' of them for each element); it lies below block B. -/
def Rd (w : World) (B size : Nat) (A : Option Addr) (n : Nat) (xs : List Value) : Prop :=
  xs.length = n * size ∧ (0 < n → ∃ b off, A = some ⟨b, off, none⟩ ∧ b < B ∧ ∀ j (h : j < xs.length), w.cell? ⟨b, off + j, none⟩ = some xs[j])

section
variable {w w' : World} {B B' size n : Nat} {A : Option Addr} {xs : List Value}
theorem Rd.nil : Rd w B size A 0 [] := ⟨by simp, fun h => absurd h (by omega)⟩
theorem Rd.nil' (h : Rd w B size A 0 xs) : xs = [] := List.eq_nil_of_length_eq_zero (by simpa using h.1)
theorem Rd.at_ {k : Nat} (h : Rd w B size A n xs) (hk : k < n) : ∃ b off, A = some ⟨b, off, none⟩ ∧ b < B ∧ ∀ j (h : j < xs.length), w.cell? ⟨b, off + j, none⟩ = some xs[j] :=
  h.2 (by omega)
theorem Rd.keep (h : Rd w B size A n xs) (hk : ∀ p : Addr, p.block < B → w'.cell? p = w.cell? p) : Rd w' B size A n xs :=
  ⟨h.1, fun hn => by
    obtain ⟨b, off, e, hb, hc⟩ := h.2 hn
    exact ⟨b, off, e, hb, fun j hj => (hk _ hb).trans (hc j hj)⟩⟩
theorem Rd.more (h : Rd w B size A n xs) (hB : B ≤ B') : Rd w B' size A n xs :=
  ⟨h.1, fun hn => by
    obtain ⟨b, off, e, hb, hc⟩ := h.2 hn
    exact ⟨b, off, e, by omega, hc⟩⟩
theorem Rd.below (h : Rd w B size A n xs) (hb : Below B w w') : Rd w' B size A n xs := h.keep fun _ hp => hb.cell hp
theorem Rd.next (h : Rd w w.heap.size size A n xs) (hb : Below w.heap.size w w') : Rd w' w'.heap.size size A n xs := (h.below hb).more hb.size
theorem Rd.drew (h : Rd w B size A n xs) : Rd w.drew B size A n xs := h
theorem Rd.drewN (h : Rd w B size A n xs) (k : Nat) : Rd (w.drewN k) B size A n xs := h
theorem Rd.drewN' (h : Rd w w.heap.size size A n xs) (k : Nat) : Rd (w.drewN k) (w.drewN k).heap.size size A n xs := h
theorem Rd.alloc (h : Rd w B size A n xs) (hB : B ≤ w.heap.size) (o : Obj) : Rd (w.alloc o) B size A n xs := h.keep fun p hp => World.cell?_alloc_lt w o p (by omega)
theorem Rd.alloc' (h : Rd w w.heap.size size A n xs) (o : Obj) : Rd (w.alloc o) (w.alloc o).heap.size size A n xs := (h.alloc (Nat.le_refl _) o).more (by simp)
theorem Rd.setCell (h : Rd w B size A n xs) {p : Addr} (hB : B ≤ p.block) (u : Value) : Rd (w.setCell p u) B size A n xs :=
  h.keep fun q hq => World.cell?_setCell_other w p q u (fun e => by subst e; omega)
theorem Rd.grown (h : Rd w B size A n xs) {row : Option Nat} (hg : w.grownBy w' row) (hB : B ≤ w.heap.size) (hr : ∀ g, row = some g → B ≤ g) : Rd w' B size A n xs :=
  h.keep fun p hp => World.cell?_of_block (hg.block p.block (by omega) (fun e => by have := hr _ e.symm; omega))
/-- 's[k:]': the address as the model spells it. -/
theorem Rd.cut (h : Rd w B size A n xs) {k cap : Nat} (hk : k ≤ n) (hc : n ≤ cap) :
    Rd w B size (if cap = k then A else A.map (·.add (k * size))) (n - k) (xs.drop (k * size)) := by
  refine ⟨by rw [List.length_drop, h.1, Nat.sub_mul], fun hn => ?_⟩
  obtain ⟨b, off, rfl, hb, hcell⟩ := h.2 (by omega)
  rw [if_neg (by omega)]
  refine ⟨b, off + k * size, by simp [Addr.add_lit], hb, fun j hj => ?_⟩
  rw [Nat.add_assoc]
  rw [List.length_drop] at hj
  rw [hcell _ (by omega), List.getElem_drop]
theorem Rd.take (h : Rd w B size A n xs) {k : Nat} (hk : k ≤ n) : Rd w B size A k (xs.take (k * size)) := by
  have hm : k * size ≤ n * size := Nat.mul_le_mul_right _ hk
  refine ⟨by rw [List.length_take, h.1]; omega, fun hn => ?_⟩
  obtain ⟨b, off, rfl, hb, hcell⟩ := h.2 (by omega)
  refine ⟨b, off, rfl, hb, fun j hj => ?_⟩
  rw [List.length_take] at hj
  rw [hcell _ (by omega), List.getElem_take]
end

/-! ### a slice that the call owns: at whatever place of its block, with spare room -/
def Ow (w : World) (lo : Nat) (_e : TypeId) (size : Nat) (v : Value) (n : Nat) (xs : List Value) : Prop :=
  xs.length = n * size ∧
  ((v = .slice none 0 0 ∧ n = 0) ∨ (∃ a, v = .slice (some a) 0 0 ∧ lo ≤ a.block ∧ n = 0) ∨
   ∃ g off cap, v = .slice (some ⟨g, off, none⟩) n cap ∧ lo ≤ g ∧ g < w.heap.size ∧ n ≤ cap ∧ cap ≤ maxLen ∧
     (∀ j, j < cap * size → (w.cell? ⟨g, off + j, none⟩).isSome = true ∧ w.frozen? ⟨g, off + j, none⟩ = false) ∧
     ∀ j (h : j < xs.length), w.cell? ⟨g, off + j, none⟩ = some xs[j])

section
variable {w w' : World} {lo size n : Nat} {e : TypeId} {v : Value} {xs : List Value}
theorem Ow.nil (w : World) (lo : Nat) (e : TypeId) (size : Nat) : Ow w lo e size (.slice none 0 0) 0 [] := ⟨by simp, .inl ⟨rfl, rfl⟩⟩
theorem Ow.nil_of (h : Ow w lo e size v 0 xs) : xs = [] := List.eq_nil_of_length_eq_zero (by simpa using h.1)
theorem Ow.of_own (h : w.ownsRow lo e size v n xs) : Ow w lo e size v n xs := by
  refine ⟨h.1, ?_⟩
  rcases h.2 with hn | ⟨g, cap, cur, rfl, hb, hg, hnc, hcm, hcs, htake⟩
  · exact .inl hn
  · refine .inr (.inr ⟨g, 0, cap, rfl, hb, (Array.getElem?_eq_some_iff.1 hg).1, hnc, hcm, fun j hj => ?_, fun j hj => ?_⟩)
    · rw [Nat.zero_add, cell_of_row w g j cur e (0, 0) hg]
      refine ⟨by simp; omega, frozen_of_row w g j cur e hg⟩
    · rw [Nat.zero_add, cell_of_row w g j cur e (0, 0) hg]
      have h1 := h.1
      subst htake
      have : j < n * size := by omega
      rw [List.getElem_take]
      rw [← Array.getElem?_toList, List.getElem?_eq_getElem]
theorem Ow.lt (h : Ow w lo e size v n xs) : ∀ k, v.ownBlock = some k → lo ≤ k := by
  intro k hk
  rcases h.2 with ⟨rfl, _⟩ | ⟨a, rfl, hb, _⟩ | ⟨g, off, cap, rfl, hb, hg, _⟩
  · simp [Value.ownBlock] at hk
  · simp [Value.ownBlock] at hk
    omega
  · simp [Value.ownBlock] at hk
    omega
/-- What only the owned block's own state asks. -/
theorem Ow.same (h : Ow w lo e size v n xs) (hs : w.heap.size ≤ w'.heap.size) (hk : ∀ k, v.ownBlock = some k → k < w.heap.size → w'.heap[k]? = w.heap[k]?) : Ow w' lo e size v n xs := by
  refine ⟨h.1, ?_⟩
  rcases h.2 with hn | hn | ⟨g, off, cap, rfl, hlo, hlt, hnc, hcm, hroom, hx⟩
  · exact .inl hn
  · exact .inr (.inl hn)
  · have hh : w'.heap[g]? = w.heap[g]? := hk g rfl hlt
    refine .inr (.inr ⟨g, off, cap, rfl, hlo, Nat.lt_of_lt_of_le hlt hs, hnc, hcm, fun j hj => ?_, fun j hj => ?_⟩)
    · rw [World.cell?_of_block (w := w) hh, World.frozen?_of_block (w := w) hh]
      exact hroom j hj
    · rw [World.cell?_of_block (w := w) hh]
      exact hx j hj
theorem Ow.kept {row : Option Nat} (h : Ow w lo e size v n xs) (hg : w.grownBy w' row) (hne : v.ownBlock = none ∨ v.ownBlock ≠ row) : Ow w' lo e size v n xs :=
  h.same hg.size fun k hk hlt => hg.block k hlt (by rcases hne with h0 | h0 <;> rw [hk] at h0 <;> simp at h0 ⊢; exact h0)
theorem Ow.below {B : Nat} (h : Ow w lo e size v n xs) (hb : Below B w w') (hB : ∀ k, v.ownBlock = some k → k < w.heap.size → k < B) : Ow w' lo e size v n xs :=
  h.same hb.size fun k hk hlt => hb.block k (hB k hk hlt)
/-- Behind a call that leaves all that is there as it was. -/
theorem Ow.next (h : Ow w lo e size v n xs) (hb : Below w.heap.size w w') : Ow w' lo e size v n xs := h.below hb fun _ _ hlt => hlt
theorem Ow.alloc (h : Ow w lo e size v n xs) (o : Obj) : Ow (w.alloc o) lo e size v n xs := h.next ((Below.refl _ _).alloc (Nat.le_refl _) o)
theorem Ow.drew (h : Ow w lo e size v n xs) : Ow w.drew lo e size v n xs := h
theorem Ow.drewN (h : Ow w lo e size v n xs) (k : Nat) : Ow (w.drewN k) lo e size v n xs := h
theorem Ow.less {lo' : Nat} (h : Ow w lo e size v n xs) (hl : lo' ≤ lo) : Ow w lo' e size v n xs := by
  refine ⟨h.1, ?_⟩
  rcases h.2 with hn | ⟨a, rfl, hb, hn⟩ | ⟨g, off, cap, rfl, hb, r⟩
  · exact .inl hn
  · exact .inr (.inl ⟨a, rfl, by omega, hn⟩)
  · exact .inr (.inr ⟨g, off, cap, rfl, by omega, r⟩)
theorem Ow.setFar (h : Ow w lo e size v n xs) {p : Addr} (hp : ∀ k, v.ownBlock = some k → k ≠ p.block) (u : Value) : Ow (w.setCell p u) lo e size v n xs :=
  h.same (by simp [World.setCell]) fun k hk _ => Below.heap_setCell w p u k (hp k hk)
/-- What a value looks like that owns something; as a slice that is read. -/
theorem Ow.form (h : Ow w lo e size v n xs) : ∃ A c, v = .slice A n c ∧ n ≤ c ∧ c ≤ maxLen ∧ Rd w w.heap.size size A n xs := by
  rcases h.2 with ⟨rfl, rfl⟩ | ⟨a, rfl, hb, rfl⟩ | ⟨g, off, cap, rfl, hlo, hlt, hnc, hcm, hroom, hx⟩
  · exact ⟨none, 0, rfl, by omega, by simp [maxLen], ⟨h.1, fun h => absurd h (by omega)⟩⟩
  · exact ⟨some a, 0, rfl, by omega, by simp [maxLen], ⟨h.1, fun h => absurd h (by omega)⟩⟩
  · exact ⟨_, cap, rfl, hnc, hcm, ⟨h.1, fun _ => ⟨g, off, rfl, hlt, hx⟩⟩⟩
theorem Ow.rd {A : Option Addr} {c : Nat} (h : Ow w lo e size (.slice A n c) n xs) : Rd w w.heap.size size A n xs := by
  obtain ⟨A', c', he, _, _, hr⟩ := h.form
  injection he with h1
  rw [h1]; exact hr
theorem Ow.caps {A : Option Addr} {c : Nat} (h : Ow w lo e size (.slice A n c) n xs) : n ≤ c ∧ c ≤ maxLen := by
  obtain ⟨A', c', he, h1, h2, _⟩ := h.form
  injection he with _ _ h3
  subst h3
  exact ⟨h1, h2⟩
/-- A block of the call's own, made of a literal. -/
theorem Ow.lit (w : World) (cs : Array Value) (n : Nat) (hb : lo ≤ w.heap.size) (hm : n ≤ maxLen) (hs : cs.size = n * size) :
    Ow (w.alloc (.cells cs e)) lo e size (.slice (some ⟨w.heap.size, 0, none⟩) n n) n cs.toList := Ow.of_own (World.ownsRow_lit w cs n hb hm hs)
/-- The written-out form of an owned slice that has an element. -/
theorem Ow.open_ (h : Ow w lo e size v n xs) (hn : 0 < n) : ∃ g off cap, v = .slice (some ⟨g, off, none⟩) n cap ∧ lo ≤ g ∧ g < w.heap.size ∧ n ≤ cap ∧ cap ≤ maxLen ∧
    (∀ j, j < cap * size → (w.cell? ⟨g, off + j, none⟩).isSome = true ∧ w.frozen? ⟨g, off + j, none⟩ = false) ∧ ∀ j (h : j < xs.length), w.cell? ⟨g, off + j, none⟩ = some xs[j] := by
  rcases h.2 with ⟨_, h0⟩ | ⟨a, _, _, h0⟩ | h0
  · omega
  · omega
  · exact h0
/-- One cell of an owned slice, of one-cell elements. -/
theorem Ow.at_ {g off cap : Nat} (h : Ow w lo e 1 (.slice (some ⟨g, off, none⟩) n cap) n xs) {k : Nat} (hk : k < n) :
    w.cell? ⟨g, off + k, none⟩ = some (xs[k]'(by have := h.1; omega)) ∧ w.frozen? ⟨g, off + k, none⟩ = false := by
  obtain ⟨g', off', cap', he, hlo, hlt, hnc, hcm, hroom, hx⟩ := h.open_ (by omega)
  simp only [Value.slice.injEq, Option.some.injEq, Addr.mk.injEq, and_true, true_and] at he
  obtain ⟨⟨rfl, rfl⟩, rfl⟩ := he
  exact ⟨hx k (by have := h.1; omega), (hroom k (by omega)).2⟩
theorem Ow.get {g off cap : Nat} (h : Ow w lo e 1 (.slice (some ⟨g, off, none⟩) n cap) n xs) {k : Nat} {u : Value} (hu : xs[k]? = some u) :
    w.cell? ⟨g, off + k, none⟩ = some u ∧ w.frozen? ⟨g, off + k, none⟩ = false := by
  obtain ⟨hk, hu⟩ := List.getElem?_eq_some_iff.1 hu
  have := h.at_ (k := k) (by have := h.1; omega)
  rw [hu] at this
  exact this
/-- 's[:k]'. -/
theorem Ow.take {A : Option Addr} {c k : Nat} (h : Ow w lo e size (.slice A n c) n xs) (hk : k ≤ n) (hA : A ≠ none) : Ow w lo e size (.slice A k c) k (xs.take (k * size)) := by
  have hm : k * size ≤ n * size := Nat.mul_le_mul_right _ hk
  have hl : (xs.take (k * size)).length = k * size := by rw [List.length_take, h.1]; omega
  refine ⟨hl, ?_⟩
  rcases h.2 with ⟨he, _⟩ | ⟨a, he, hb, h0⟩ | ⟨g, off, cap, he, hlo, hlt, hnc, hcm, hroom, hx⟩
  · injection he with h1; exact absurd h1 hA
  · injection he with h1 h2 h3
    subst h1; subst h3
    exact .inr (.inl ⟨a, by rw [show k = 0 by omega], hb, by omega⟩)
  · injection he with h1 h2 h3
    subst h1; subst h3
    refine .inr (.inr ⟨g, off, c, rfl, hlo, hlt, by omega, hcm, hroom, fun j hj => ?_⟩)
    rw [hx j (by rw [List.length_take] at hj; omega), List.getElem_take]
/-- One element of one cell is stored. -/
theorem Ow.store1 {g off cap : Nat} (h : Ow w lo e 1 (.slice (some ⟨g, off, none⟩) n cap) n xs) {k : Nat} (hk : k < n) (u : Value) :
    Ow (w.setCell ⟨g, off + k, none⟩ u) lo e 1 (.slice (some ⟨g, off, none⟩) n cap) n (xs.set k u) := by
  refine ⟨by rw [List.length_set]; exact h.1, ?_⟩
  obtain ⟨g', off', cap', he, hlo, hlt, hnc, hcm, hroom, hx⟩ := h.open_ (by omega)
  simp only [Value.slice.injEq, Option.some.injEq, Addr.mk.injEq, and_true, true_and] at he
  obtain ⟨⟨rfl, rfl⟩, rfl⟩ := he
  have hl := h.1
  have hc0 : (w.cell? ⟨g, off + k, none⟩).isSome = true := (hroom k (by omega)).1
  refine .inr (.inr ⟨g, off, cap, rfl, hlo, by simpa [World.setCell] using hlt, hnc, hcm, fun j hj => ?_, fun j hj => ?_⟩)
  · refine ⟨?_, by rw [World.frozen?_setCell]; exact (hroom j hj).2⟩
    by_cases hjk : j = k
    · subst hjk; rw [World.cell?_setCell_same' _ _ _ hc0]; rfl
    · rw [World.cell?_setCell_other _ _ _ _ (by intro h; injection h with _ h2 _; omega)]; exact (hroom j hj).1
  · rw [List.length_set] at hj
    by_cases hjk : j = k
    · subst hjk; rw [World.cell?_setCell_same' _ _ _ hc0, List.getElem_set_self]
    · rw [World.cell?_setCell_other _ _ _ _ (by intro h; injection h with _ h2 _; omega), hx j hj, List.getElem_set_ne (by omega)]
theorem Rd.litm (w : World) (cs : Array Value) (e : TypeId) (fz : Nat × Nat) (n size : Nat) (hs : cs.size = n * size) : Rd (w.alloc (.cells cs e fz)) (w.heap.size + 1) size (some ⟨w.heap.size, 0, none⟩) n cs.toList := by
  refine ⟨by simpa using hs, fun _ => ⟨w.heap.size, 0, rfl, by omega, fun j hj => ?_⟩⟩
  rw [Nat.zero_add, World.cell?_alloc_mark]
  rw [Array.length_toList] at hj
  simp [hj]
theorem Rd.lit (w : World) (cs : Array Value) (e : TypeId) (n size : Nat) (_hm : n ≤ maxLen) (hs : cs.size = n * size) : Rd (w.alloc (.cells cs e)) (w.heap.size + 1) size (some ⟨w.heap.size, 0, none⟩) n cs.toList :=
  Rd.litm w cs e (0, 0) n size hs
end

/-! ### a block that is known whole -/
def Blk (w : World) (g : Nat) (t : TypeId) (cs : Array Value) : Prop := w.heap[g]? = some (.cells cs t (0, 0))
section
variable {w w' : World} {g : Nat} {t : TypeId} {cs : Array Value}
theorem Blk.lt (h : Blk w g t cs) : g < w.heap.size := (Array.getElem?_eq_some_iff.1 h).1
theorem Blk.cell (h : Blk w g t cs) (i : Nat) : w.cell? ⟨g, i, none⟩ = cs[i]? := cell_of_row w g i cs t (0, 0) h
theorem Blk.frozen (h : Blk w g t cs) (i : Nat) : w.frozen? ⟨g, i, none⟩ = false := by
  unfold Blk at h
  simp [World.frozen?, h]
theorem Blk.new (w : World) (t : TypeId) (cs : Array Value) : Blk (w.alloc (.cells cs t)) w.heap.size t cs := heap_alloc_new w _
theorem Blk.drew (h : Blk w g t cs) : Blk w.drew g t cs := h
theorem Blk.drewN (h : Blk w g t cs) (n : Nat) : Blk (w.drewN n) g t cs := h
theorem Blk.alloc (h : Blk w g t cs) (o : Obj) : Blk (w.alloc o) g t cs := (Below.heap_alloc w o g h.lt).trans h
theorem Blk.set_ (h : Blk w g t cs) (i : Nat) (u : Value) : Blk (w.setCell ⟨g, i, none⟩ u) g t (cs.setIfInBounds i u) := by
  unfold Blk at h ⊢
  simp [World.setCell, Array.getElem?_modify, h]
theorem Blk.far (h : Blk w g t cs) {p : Addr} (hp : g ≠ p.block) (u : Value) : Blk (w.setCell p u) g t cs := (Below.heap_setCell w p u g hp).trans h
theorem Blk.below {B : Nat} (h : Blk w g t cs) (hb : Below B w w') (hg : g < B) : Blk w' g t cs := (hb.block g hg).trans h
theorem Blk.next (h : Blk w g t cs) (hb : Below w.heap.size w w') : Blk w' g t cs := h.below hb h.lt
theorem Blk.grown {row : Option Nat} (h : Blk w g t cs) (hb : w.grownBy w' row) (hg : some g ≠ row) : Blk w' g t cs := (hb.block g h.lt hg).trans h
theorem grown_set (w : World) (g i : Nat) (u : Value) : w.grownBy (w.setCell ⟨g, i, none⟩ u) (some g) :=
  ⟨rfl, rfl, rfl, by simp [World.setCell], fun k _ hne => Below.heap_setCell w _ u k (fun e => hne (by rw [e]))⟩
theorem grown_trans {a b c : World} {row : Option Nat} (h : a.grownBy b row) (k : b.grownBy c row) : a.grownBy c row :=
  ⟨k.os.trans h.os, k.tape.trans h.tape, k.output.trans h.output, Nat.le_trans h.size k.size, fun i hi hne => (k.block i (Nat.lt_of_lt_of_le hi h.size) hne).trans (h.block i hi hne)⟩
theorem grown_of_below {a w : World} (h : Below a.heap.size a w) (row : Option Nat) : a.grownBy w row := ⟨h.os, h.tape, h.output, h.size, fun i hi _ => h.block i hi⟩
end

/-! ### append onto an owned slice, the source nil, empty or not -/
section
variable {P : Program} (w : World)

theorem setCells_heap (b : Nat) : ∀ (vs : List Value) (o : Nat) (w : World) (k : Nat), k ≠ b → (w.setCells b o vs).heap[k]? = w.heap[k]?
  | [], _, _, _, _ => rfl
  | v :: r, o, w, k, hk => by
    rw [World.setCells, setCells_heap b r (o + 1) _ k hk]
    exact Below.heap_setCell w _ v k hk
theorem setCells_size (b : Nat) : ∀ (vs : List Value) (o : Nat) (w : World), (w.setCells b o vs).heap.size = w.heap.size
  | [], _, _ => rfl
  | v :: r, o, w => by rw [World.setCells, setCells_size b r (o + 1) _]; simp [World.setCell]
theorem setCells_os (b : Nat) : ∀ (vs : List Value) (o : Nat) (w : World), (w.setCells b o vs).os = w.os ∧ (w.setCells b o vs).tape = w.tape ∧ (w.setCells b o vs).output = w.output
  | [], _, _ => ⟨rfl, rfl, rfl⟩
  | v :: r, o, w => by rw [World.setCells]; exact setCells_os b r (o + 1) _
theorem setCells_grown (b o : Nat) (vs : List Value) (w : World) : w.grownBy (w.setCells b o vs) (some b) :=
  ⟨(setCells_os b vs o w).1, (setCells_os b vs o w).2.1, (setCells_os b vs o w).2.2, by rw [setCells_size]; exact Nat.le_refl _, fun k _ hne => setCells_heap b vs o w k (fun e => hne (by rw [e]))⟩

theorem run_append_ow (lo : Nat) (t ty e : TypeId) (i : TypeInfo) (z : Value) (size bytes : Nat) (ht : P.underlying t = some (.slice e)) (hi : P.info? e = some i) (hz : i.zero = some z)
    (hsize : i.size = size) (hby : i.bytes = bytes) (hzs : z.cells.size = size) (hsz : 0 < size)
    (v : Value) (n : Nat) (xs : List Value) (hown : Ow w lo e size v n xs)
    (B : Nat) (A : Option Addr) (m c : Nat) (news : List Value) (hr : Rd w B size A m news) (h1 : ∀ u ∈ news, u.oneCell' = true)
    (h63 : n + m ≤ maxLen) (hbytes : (n + m) * bytes ≤ 140737488355328) (hbase : lo ≤ w.heap.size) :
    ∃ v' w', (Builtin.append_ #[t, t] ty #[v, .slice A m c]).run P w = .ok v' w' ∧ Ow w' lo e size v' (n + m) (xs ++ news) ∧ w.grownBy w' v.ownBlock ∧
      (v'.ownBlock = v.ownBlock ∨ v'.ownBlock = some w.heap.size) ∧ (v ≠ .slice none 0 0 ∨ 0 < m → v' ≠ .slice none 0 0) := by
  rcases Nat.eq_zero_or_pos m with hm0 | hm0
  · subst hm0
    have hn : news = [] := hr.nil'
    subst hn
    refine ⟨v, w, ?_, by simpa using hown, World.grownBy.refl w _, .inl rfl, fun h => h.elim id (by omega)⟩
    rcases hown.2 with ⟨rfl, rfl⟩ | ⟨a, rfl, hlo, rfl⟩ | ⟨g, off, cap, rfl, hlo, hlt, hnc, _⟩
    · cases A <;> simp [Builtin.append_, run_underlying ht, sizeOf, typeInfo, hi, Builtin.lenOf, Builtin.firstCells, loadCells, loadCellsFrom]
    · cases A <;> simp [Builtin.append_, run_underlying ht, sizeOf, typeInfo, hi, Builtin.lenOf, Builtin.firstCells, storeCells, loadCells, loadCellsFrom]
    · cases A <;> simp [Builtin.append_, run_underlying ht, sizeOf, typeInfo, hi, Builtin.lenOf, Builtin.firstCells, hnc, storeCells, loadCells, loadCellsFrom]
  · obtain ⟨b, off0, rfl, hbB, hcells⟩ := hr.2 hm0
    have hnews : ∀ j u, news[j]? = some u → w.cell? ((⟨b, off0, none⟩ : Addr).add j) = some u := by
      intro j u hu
      obtain ⟨hj, hu⟩ := List.getElem?_eq_some_iff.1 hu
      rw [Addr.add_lit, hcells j hj, hu]
    have grow : ∀ (a0 : Addr) (cap : Nat), v = .slice (some a0) n cap → cap < n + m → (∀ j u, xs[j]? = some u → w.cell? (a0.add j) = some u) →
        ∃ v' w', (Builtin.append_ #[t, t] ty #[v, .slice (some ⟨b, off0, none⟩) m c]).run P w = .ok v' w' ∧ Ow w' lo e size v' (n + m) (xs ++ news) ∧ w.grownBy w' v.ownBlock ∧
          (v'.ownBlock = v.ownBlock ∨ v'.ownBlock = some w.heap.size) ∧ (v ≠ .slice none 0 0 ∨ 0 < m → v' ≠ .slice none 0 0) := by
      rintro a0 cap rfl hfull hcell0
      obtain ⟨v', w', hrun, r1, r2⟩ := run_append_arg_grows (P := P) w t ty e i z size bytes ht hi hz hsize hby hzs hsz a0 n cap xs hown.1 hcell0 ⟨b, off0, none⟩ m c news hr.1 hnews hfull h63 hbytes
      obtain ⟨g', cap', hv', _, _⟩ := r1.form (by omega)
      refine ⟨v', w', hrun, (Ow.of_own r1).less hbase, ⟨r2.os, r2.tape, r2.output, r2.size, fun k hk _ => r2.block k hk (by simp)⟩, ?_, fun _ hv => by rw [hv'] at hv; simp at hv⟩
      right
      have hrun' := run_append_grow (P := P) w t ty e i z ht hi hz a0 n cap xs (by rw [hsize]; exact hown.1) hcell0 ⟨b, off0, none⟩ m c news (by rw [hsize]; exact hr.1) hnews (by omega) (by simp only [maxLen] at h63; omega) (by subst hby; exact growslice_fits (by omega) hbytes)
      rw [hrun] at hrun'
      injection hrun' with hv2 _
      rw [hv2]; rfl
    rcases hown.2 with ⟨rfl, rfl⟩ | ⟨a0, rfl, hlo, rfl⟩ | ⟨g, off, cap, rfl, hlo, hlt, hnc, hcm, hroom, hx⟩
    · obtain rfl : xs = [] := hown.nil_of
      obtain ⟨v', w', hrun, h2, h3, h4, h5⟩ := run_append_own_at (P := P) w lo t ty e i z size bytes ht hi hz hsize hby hzs hsz (.slice none 0 0) 0 [] (World.ownsRow_nil w _ e size) ⟨b, off0, none⟩ m c news hr.1 hnews h1 h63 hbytes hbase
      exact ⟨v', w', hrun, Ow.of_own h2, h3, h5, fun _ hv => by have := (h4.1 hv).2; omega⟩
    · obtain rfl : xs = [] := hown.nil_of
      exact grow a0 0 rfl (by omega) (by intro j u hu; simp at hu)
    · by_cases hfit : n + m ≤ cap
      · subst hsize
        have hmul : n * i.size + news.length ≤ cap * i.size := by rw [hr.1, ← Nat.add_mul]; exact Nat.mul_le_mul_right _ hfit
        have hxl := hown.1
        have hrun := run_append_room_cells (P := P) w t ty e i ht hi g off n cap ⟨b, off0, none⟩ m c news hr.1 hnews h1 hfit
          (fun j hj => by rw [Nat.add_assoc]; exact (hroom _ (by omega)).1) (fun j hj => by rw [Nat.add_assoc]; exact (hroom _ (by omega)).2)
        refine ⟨_, _, hrun, ⟨by rw [List.length_append, hown.1, hr.1, Nat.add_mul], .inr (.inr ⟨g, off, cap, rfl, hlo, by rw [setCells_size]; exact hlt, hfit, hcm, fun j hj => ?_, fun j hj => ?_⟩)⟩, setCells_grown g _ news w, .inl rfl, fun _ hv => by simp at hv⟩
        · rw [World.frozen?_setCells]
          refine ⟨?_, (hroom j hj).2⟩
          by_cases hin : n * i.size ≤ j ∧ j < n * i.size + news.length
          · have h := World.cell?_setCells_in g news (off + n * i.size) w (fun q hq => by rw [Nat.add_assoc]; exact (hroom _ (by omega)).1) (j - n * i.size) (by omega)
            rw [show off + n * i.size + (j - n * i.size) = off + j by omega] at h
            rw [h]; rfl
          · rw [World.cell?_setCells_out g news (off + n * i.size) w _ (fun _ _ => by simp only; omega)]
            exact (hroom j hj).1
        · rw [List.length_append] at hj
          by_cases hin : j < xs.length
          · rw [World.cell?_setCells_out g news (off + n * i.size) w _ (fun _ _ => by simp only; omega), List.getElem_append_left hin]
            exact hx j hin
          · have h := World.cell?_setCells_in g news (off + n * i.size) w (fun q hq => by rw [Nat.add_assoc]; exact (hroom _ (by omega)).1) (j - xs.length) (by omega)
            rw [show off + n * i.size + (j - xs.length) = off + j by omega] at h
            rw [h, List.getElem_append_right (by omega)]
      · exact grow ⟨g, off, none⟩ cap rfl (by omega) (fun j u hu => by
            obtain ⟨hj, hu⟩ := List.getElem?_eq_some_iff.1 hu
            rw [Addr.add_lit, hx j hj, hu])

theorem wp_append_ow {o : Oper} {a : Act} {K : Act → World → Prop} {Q : Exit → Act → World → Prop} (s x : Operand) (t : TypeId)
    (ho : o.op = .call { callee := .builtin .append, args := #[s, x], argTypes := #[t, t] })
    (lo : Nat) (e : TypeId) (i : TypeInfo) (z : Value) (size bytes : Nat) (ht : P.underlying t = some (.slice e)) (hi : P.info? e = some i) (hz : i.zero = some z)
    (hsize : i.size = size) (hby : i.bytes = bytes) (hzs : z.cells.size = size) (hsz : 0 < size)
    (v : Value) (n : Nat) (xs : List Value) (hs : a.eval s = v) (hown : Ow w lo e size v n xs)
    (B : Nat) (A : Option Addr) (m c : Nat) (news : List Value) (hx : a.eval x = .slice A m c) (hr : Rd w B size A m news) (h1 : ∀ u ∈ news, u.oneCell' = true)
    (h63 : n + m ≤ maxLen) (hbytes : (n + m) * bytes ≤ 140737488355328) (hbase : lo ≤ w.heap.size)
    (h : ∀ v' w', Ow w' lo e size v' (n + m) (xs ++ news) → w.grownBy w' v.ownBlock → (v'.ownBlock = v.ownBlock ∨ v'.ownBlock = some w.heap.size) → (v ≠ .slice none 0 0 ∨ 0 < m → v' ≠ .slice none 0 0) → K (a.put o.dst v') w') : o.wp P a w K Q := by
  obtain ⟨v', w', hrun, h2, h3, h4, h5⟩ := run_append_ow (P := P) w lo t o.type e i z size bytes ht hi hz hsize hby hzs hsz v n xs hown B A m c news hr h1 h63 hbytes hbase
  unfold Oper.wp execOp
  simp only [ho, resolve, invoke, builtin, Sem.run_bind, Sem.run_pure, Result.andThen_ok, List.map_toArray, List.map_cons, List.map_nil, hs, hx, hrun]
  exact h v' w' h2 h3 h4 h5

theorem wpList_append_ow {ops : Array Oper} {rest : List Oper} {o : Oper} {a : Act} {Q : Exit → Act → World → Prop} (hgd : o.guard = none) (s x : Operand) (t : TypeId)
    (ho : o.op = .call { callee := .builtin .append, args := #[s, x], argTypes := #[t, t] })
    (lo : Nat) (e : TypeId) (i : TypeInfo) (z : Value) (size bytes : Nat) (ht : P.underlying t = some (.slice e)) (hi : P.info? e = some i) (hz : i.zero = some z)
    (hsize : i.size = size) (hby : i.bytes = bytes) (hzs : z.cells.size = size) (hsz : 0 < size)
    (v : Value) (n : Nat) (xs : List Value) (hs : a.eval s = v) (hown : Ow w lo e size v n xs)
    (B : Nat) (A : Option Addr) (m c : Nat) (news : List Value) (hx : a.eval x = .slice A m c) (hr : Rd w B size A m news) (h1 : ∀ u ∈ news, u.oneCell' = true)
    (h63 : n + m ≤ maxLen) (hbytes : (n + m) * bytes ≤ 140737488355328) (hbase : lo ≤ w.heap.size)
    (h : ∀ v' w', Ow w' lo e size v' (n + m) (xs ++ news) → w.grownBy w' v.ownBlock → (v'.ownBlock = v.ownBlock ∨ v'.ownBlock = some w.heap.size) → (v ≠ .slice none 0 0 ∨ 0 < m → v' ≠ .slice none 0 0) → wpList P ops Q rest (a.put o.dst v') w') : wpList P ops Q (o :: rest) a w :=
  wpList_plain hgd fun _ hK => wp_append_ow w s x t ho lo e i z size bytes ht hi hz hsize hby hzs hsz v n xs hs hown B A m c news hx hr h1 h63 hbytes hbase fun v' w' h2 h3 h4 h5 => hK _ _ (h v' w' h2 h3 h4 h5)

theorem step_append_ow {ops : Array Oper} {o : Oper} {a : Act} {K : Act → World → Prop} {Q : Exit → Act → World → Prop} {E : Prop} (hgd : o.guard = none) (s x : Operand) (t : TypeId)
    (ho : o.op = .call { callee := .builtin .append, args := #[s, x], argTypes := #[t, t] })
    (lo : Nat) (e : TypeId) (i : TypeInfo) (z : Value) (size bytes : Nat) (ht : P.underlying t = some (.slice e)) (hi : P.info? e = some i) (hz : i.zero = some z)
    (hsize : i.size = size) (hby : i.bytes = bytes) (hzs : z.cells.size = size) (hsz : 0 < size)
    (v : Value) (n : Nat) (xs : List Value) (hs : a.eval s = v) (hown : Ow w lo e size v n xs)
    (B : Nat) (A : Option Addr) (m c : Nat) (news : List Value) (hx : a.eval x = .slice A m c) (hr : Rd w B size A m news) (h1 : ∀ u ∈ news, u.oneCell' = true)
    (h63 : n + m ≤ maxLen) (hbytes : (n + m) * bytes ≤ 140737488355328) (hbase : lo ≤ w.heap.size)
    (h : ∀ v' w', Ow w' lo e size v' (n + m) (xs ++ news) → w.grownBy w' v.ownBlock → (v'.ownBlock = v.ownBlock ∨ v'.ownBlock = some w.heap.size) → (v ≠ .slice none 0 0 ∨ 0 < m → v' ≠ .slice none 0 0) → K (a.put o.dst v') w') :
    if Region.wanted o (yielded ops a.tmps) = true then Oper.wp P o a w K Q else E := by
  have hw : Region.wanted o (yielded ops a.tmps) = true := by simp [Region.wanted, hgd]
  rw [if_pos hw]
  exact wp_append_ow w s x t ho lo e i z size bytes ht hi hz hsize hby hzs hsz v n xs hs hown B A m c news hx hr h1 h63 hbytes hbase h
end

/-! ### bytes -/
def bv (x : UInt8) : Value := .int .u8 (x.toNat : Int)
theorem bv_one (x : UInt8) : (bv x).oneCell' = true := rfl
theorem bvs_one (l : List UInt8) : ∀ u ∈ l.map bv, u.oneCell' = true := by
  intro u hu
  obtain ⟨x, _, rfl⟩ := List.mem_map.1 hu
  rfl
abbrev RdB (w : World) (B : Nat) (A : Option Addr) (n : Nat) (l : List UInt8) : Prop := Rd w B 1 A n (l.map bv)
theorem RdB.len {w : World} {B n : Nat} {A : Option Addr} {l : List UInt8} (h : RdB w B A n l) : l.length = n := by have := h.1; simpa using this
theorem RdB.cell {w : World} {B n : Nat} {A : Option Addr} {l : List UInt8} (h : RdB w B A n l) {k : Nat} (hk : k < n) :
    ∃ b off, A = some ⟨b, off, none⟩ ∧ b < B ∧ w.cell? ⟨b, off + k, none⟩ = some (.int .u8 ((l[k]'(by rw [h.len]; exact hk)).toNat : Int)) := by
  obtain ⟨b, off, e, hb, hc⟩ := h.at_ hk
  have hl := h.len
  exact ⟨b, off, e, hb, by rw [hc k (by simp; omega)]; simp [bv]⟩

theorem ret_int {k : IntKind} {a b : Int} (h : a = b) : Ending.returned (.int k a) = .returned (.int k b) := by rw [h]
theorem ret_bool {a b : Bool} (h : a = b) : Ending.returned (.bool a) = .returned (.bool b) := by rw [h]
theorem ret_val {a b : Value} (h : a = b) : Ending.returned a = .returned b := by rw [h]
end Go.Proofs.Ytgidaifoiljgoaa
