/- The plain law behind CodeBack: what is written is read again; cut off ahead of its end it is told so. -/
import Derived.Test.YtoammbfipinejaaCodeE
namespace Go.Proofs.Ytoammbfipinejaa
set_option linter.unusedVariables false
set_option linter.unusedSimpArgs false

/-- A reader's state beside the answer so far: are all equal? the bytes still to come, the fault. -/
abbrev St := Bool × List UInt8 × Nat
def stU (s : St) (x : Nat) : St := (s.1 && decide (uV s.2.1 s.2.2 = x), tkL s.2.1 s.2.2 (dec s.2.1).2.1 (dec s.2.1).2.2, tkE s.2.2 (dec s.2.1).2.2)
def stI (s : St) (x : Int) : St := (s.1 && decide (unturnZ (uV s.2.1 s.2.2) = x), tkL s.2.1 s.2.2 (dec s.2.1).2.1 (dec s.2.1).2.2, tkE s.2.2 (dec s.2.1).2.2)
def stT (s : St) (x : ByteArray) : St := (s.1 && decide (tV s.2.1 s.2.2 300 = x.data.toList), tkL s.2.1 s.2.2 ((cnt s.2.1 300).2.1 + (cnt s.2.1 300).1) (tE s.2.1 300), tkE s.2.2 (tE s.2.1 300))
def stAll (l : List UInt8) (a : List Nat) (b : List Int) (c : List ByteArray) : St := c.foldl stT (b.foldl stI (a.foldl stU (true, l, 0)))
def toldB (s : St) : Bool := decide (endE s.2.1 s.2.2 = 0) && s.1 && decide (s.2.1 = [])

/-- A step over items of bytes: reads an item's bytes and goes on; tells where they are cut off; a fault stays. -/
structure Reads {α : Type} (st : St → α → St) (f : α → List UInt8) (ok : α → Prop) : Prop where
  all : ∀ x r b, ok x → st (b, f x ++ r, 0) x = (b, r, 0)
  cut : ∀ x k b, ok x → k < (f x).length → (st (b, (f x).take k, 0) x).2.2 = 15
  bad : ∀ x b l, (st (b, l, 15) x).2.2 = 15

section
variable {α : Type} {st : St → α → St} {f : α → List UInt8} {ok : α → Prop}
theorem Reads.list (h : Reads st f ok) : ∀ (l : List α) (r : List UInt8) (b : Bool), (∀ x ∈ l, ok x) → l.foldl st (b, (l.map f).flatten ++ r, 0) = (b, r, 0)
  | [], r, b, _ => by simp
  | x :: l, r, b, hl => by
    simp only [List.map_cons, List.flatten_cons, List.foldl_cons, List.append_assoc]
    rw [h.all x _ b (hl x (by simp))]
    exact h.list l r b (fun y hy => hl y (by simp [hy]))
theorem Reads.badList (h : Reads st f ok) : ∀ (l : List α) (s : St), s.2.2 = 15 → (l.foldl st s).2.2 = 15
  | [], s, hs => hs
  | x :: l, s, hs => h.badList l _ (by
      obtain ⟨b, m, e⟩ := s
      simp only at hs
      subst hs
      exact h.bad x b m)
/-- Cut off at k: within the list's bytes: the fault; beyond them: what is left is cut. -/
theorem Reads.cutList (h : Reads st f ok) : ∀ (l : List α) (r : List UInt8) (k : Nat) (b : Bool), (∀ x ∈ l, ok x) →
    (l.foldl st (b, ((l.map f).flatten ++ r).take k, 0)).2.2 = 15 ∨ ((l.map f).flatten.length ≤ k ∧ l.foldl st (b, ((l.map f).flatten ++ r).take k, 0) = (b, r.take (k - (l.map f).flatten.length), 0))
  | [], r, k, b, _ => by simp
  | x :: l, r, k, b, hl => by
    simp only [List.map_cons, List.flatten_cons, List.foldl_cons, List.append_assoc]
    by_cases hk : k < (f x).length
    · left
      rw [List.take_append_of_le_length (by omega)]
      exact h.badList l _ (h.cut x k b (hl x (by simp)) hk)
    · have e : ((f x) ++ ((l.map f).flatten ++ r)).take k = f x ++ ((l.map f).flatten ++ r).take (k - (f x).length) := by
        rw [List.take_append, List.take_of_length_le (by omega)]
      rw [e, h.all x _ b (hl x (by simp))]
      rcases h.cutList l r (k - (f x).length) b (fun y hy => hl y (by simp [hy])) with h1 | ⟨h1, h2⟩
      · exact .inl h1
      · refine .inr ⟨by rw [List.length_append]; omega, ?_⟩
        rw [h2, List.length_append, Nat.sub_sub]
end

theorem readsU : Reads stU enc (fun x => x < 18446744073709551616) := by
  refine ⟨fun x r b hx => ?_, fun x k b hx hk => ?_, fun x b l => ?_⟩
  · have hd := dec_enc hx r
    simp only [stU, uV, tkL, tkE, hd, if_pos, and_self, List.drop_left]
    simp
  · have hd : dec ((enc x).take k) = (0, 0, 15) := dec_cut 9 0 0 x k rfl (by rw [bnd9]; exact hx) (by omega) hk
    simp only [stU, tkE, hd]
    rfl
  · rfl
theorem readsI : Reads stI (fun x => enc (turnN x)) (fun x => -9223372036854775808 ≤ x ∧ x ≤ 9223372036854775807) := by
  refine ⟨fun x r b hx => ?_, fun x k b hx hk => ?_, fun x b l => ?_⟩
  · have hd := dec_enc (turnN_lt x hx.1 hx.2) r
    simp only [stI, uV, tkL, tkE, hd, if_pos, and_self, List.drop_left, unturn_turn]
    simp
  · have hd : dec ((enc (turnN x)).take k) = (0, 0, 15) := dec_cut 9 0 0 (turnN x) k rfl (by rw [bnd9]; exact turnN_lt x hx.1 hx.2) (by omega) hk
    simp only [stI, tkE, hd]
    rfl
  · rfl
theorem readsT : Reads stT encT (fun x => x.size ≤ 300) := by
  refine ⟨fun x r b hx => ?_, fun x k b hx hk => ?_, fun x b l => ?_⟩
  · have hs := size_toList x
    have hd := dec_enc (u := x.size) (by omega) (x.data.toList ++ r)
    have hc : cnt (encT x ++ r) 300 = (x.size, (enc x.size).length, 0) := by
      unfold cnt encT
      rw [List.append_assoc, hd]
      simp
      omega
    have hte : tE (encT x ++ r) 300 = 0 := by
      unfold tE
      rw [hc]
      simp only [if_neg]
      rw [if_neg]
      intro h
      have := h.2
      simp only [encT, List.length_append] at this
      omega
    simp only [stT, tV, tkL, tkE, hte, hc, and_self, if_pos]
    have e1 : ((encT x ++ r).drop (enc x.size).length).take x.size = x.data.toList := by
      unfold encT
      rw [List.append_assoc, List.drop_left, List.take_append_of_le_length (by omega), List.take_of_length_le (by omega)]
    have e2 : (encT x ++ r).drop ((enc x.size).length + x.size) = r := by
      unfold encT
      rw [← hs, ← List.length_append, List.drop_left]
    rw [e1, e2]
    simp
  · have hs := size_toList x
    by_cases hk1 : k < (enc x.size).length
    · have ht : (encT x).take k = (enc x.size).take k := by unfold encT; rw [List.take_append_of_le_length (by omega)]
      have hd : dec ((enc x.size).take k) = (0, 0, 15) := dec_cut 9 0 0 x.size k rfl (by rw [bnd9]; omega) (by omega) hk1
      have hc : cnt ((enc x.size).take k) 300 = (0, 0, 15) := by unfold cnt; rw [hd]; rfl
      simp only [stT, tkE, ht, tE, hc]
      rfl
    · have ht : (encT x).take k = enc x.size ++ x.data.toList.take (k - (enc x.size).length) := by
        unfold encT
        rw [List.take_append, List.take_of_length_le (by omega)]
      have hd := dec_enc (u := x.size) (by omega) (x.data.toList.take (k - (enc x.size).length))
      have hc : cnt ((encT x).take k) 300 = (x.size, (enc x.size).length, 0) := by
        unfold cnt
        rw [ht, hd]
        simp
        omega
      have hlen : (encT x).length = (enc x.size).length + x.size := by unfold encT; rw [List.length_append, hs]
      have hte : tE ((encT x).take k) 300 = 15 := by
        unfold tE
        rw [hc]
        simp only [List.length_take]
        rw [if_pos ⟨trivial, by omega⟩]
      simp only [stT, tkE, hte]
      rfl
  · rfl

def encAll (a : List Nat) (b : List Int) (c : List ByteArray) : List UInt8 := encs a ++ encs (b.map turnN) ++ encTs c
theorem encsI (b : List Int) : encs (b.map turnN) = (b.map fun x => enc (turnN x)).flatten := by unfold encs; rw [List.map_map]; rfl
theorem told_all {a : List Nat} {b : List Int} {c : List ByteArray} (ha : ∀ x ∈ a, x < 18446744073709551616) (hb : ∀ x ∈ b, -9223372036854775808 ≤ x ∧ x ≤ 9223372036854775807) (hc : ∀ x ∈ c, x.size ≤ 300) :
    toldB (stAll (encAll a b c) a b c) = true := by
  have h : stAll (encAll a b c) a b c = (true, [], 0) := by
    unfold stAll encAll
    rw [List.append_assoc]
    have h1 := readsU.list a (encs (b.map turnN) ++ encTs c) true ha
    have h2 := readsI.list b (encTs c) true hb
    have h3 := readsT.list c [] true hc
    rw [List.append_nil] at h3
    rw [← encsI] at h2
    rw [show encs a = (a.map enc).flatten from rfl, h1, h2, show encTs c = (c.map encT).flatten from rfl, h3]
  rw [h]
  rfl
theorem told_cut {a : List Nat} {b : List Int} {c : List ByteArray} (ha : ∀ x ∈ a, x < 18446744073709551616) (hb : ∀ x ∈ b, -9223372036854775808 ≤ x ∧ x ≤ 9223372036854775807) (hc : ∀ x ∈ c, x.size ≤ 300)
    {k : Nat} (hk : k < (encAll a b c).length) : (stAll ((encAll a b c).take k) a b c).2.2 = 15 := by
  unfold stAll encAll
  unfold encAll at hk
  rw [List.append_assoc] at hk ⊢
  rw [List.length_append, List.length_append] at hk
  rcases readsU.cutList a (encs (b.map turnN) ++ encTs c) k true ha with h1 | ⟨h1, h2⟩
  · exact readsT.badList c _ (readsI.badList b _ h1)
  · rw [show encs a = (a.map enc).flatten from rfl] at hk ⊢
    rw [h2]
    rcases readsI.cutList b (encTs c) (k - (a.map enc).flatten.length) true hb with h3 | ⟨h3, h4⟩
    · rw [← encsI] at h3
      exact readsT.badList c _ h3
    · rw [← encsI] at h3 h4
      rw [h4]
      rcases readsT.cutList c [] (k - (a.map enc).flatten.length - (encs (b.map turnN)).length) true hc with h5 | ⟨h5, _⟩
      · rw [List.append_nil] at h5
        exact h5
      · rw [show encTs c = (c.map encT).flatten from rfl] at hk
        omega
theorem told_bad {s : St} (h : s.2.2 = 15) : toldB s = false := by
  unfold toldB endE tkE
  rw [h]
  split <;> simp
end Go.Proofs.Ytoammbfipinejaa
