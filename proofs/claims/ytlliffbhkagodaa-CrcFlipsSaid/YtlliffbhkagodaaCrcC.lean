/- bytes.Clone and bytes.Join in this seat's words; crc.Seal, crc.Open, and the document's Open. -/
import Derived.Test.YtlliffbhkagodaaCrcB
import Derived.Test.YtlliffbhkagodaaShelf
namespace Go.Proofs.Ytlliffbhkagodaa
open Go.RowKit
set_option linter.unusedVariables false

theorem Ow.of_fresh {w : World} {lo : Nat} {e : TypeId} {v : Value} {l : List UInt8} (h : Lib.FreshBytes lo w v l) : Ow w lo e 1 v l.length (l.map bv) := by
  obtain ⟨g, cap, zs, rfl, hb, hn, hm, hz, hr, hby, hc, hf⟩ := h
  refine ⟨by simp, ?_⟩
  rcases Nat.eq_zero_or_pos cap with h0 | h0
  · subst h0
    have : l.length = 0 := by omega
    exact .inr (.inl ⟨⟨g, 0, none⟩, by rw [this], hb, this⟩)
  · refine .inr (.inr ⟨g, 0, cap, rfl, hb, World.block_lt_of_cell? w _ (hc 0 h0), hn, hm, fun j hj => ?_, fun j hj => ?_⟩)
    · rw [Nat.zero_add, hc j (by omega), hf j (by omega)]; exact ⟨rfl, rfl⟩
    · have hj' : j < l.length := by simpa using hj
      rw [Nat.zero_add, hc j (by omega)]
      have hjz : j < zs.length := by omega
      have e1 : zs.getD j 0 = zs[j] := by simp [List.getD, List.getElem?_eq_getElem hjz]
      have e2 : l[j] = UInt8.ofNat (zs[j]).toNat := by
        have : l = (zs.take l.length).map (fun x => UInt8.ofNat x.toNat) := hby.symm
        rw [List.getElem_of_eq this]
        simp
      have hrz := hr zs[j] (List.getElem_mem _)
      rw [e1, List.getElem_map, bv, e2]
      have : ((UInt8.ofNat (zs[j]).toNat).toNat : Int) = zs[j] := by
        rw [ofNat_u8]
        omega
      rw [this]

theorem clone_any (A : Option Addr) (n c : Nat) (l : List UInt8) (w : World) (hr : RdB w w.heap.size A n l) (hn : n ≤ 140737488351232) :
    Calls Try.prog 17 #[.slice A n c] w fun e w' => ∃ v, e = .returned v ∧ Ow w' w.heap.size 5 1 v n (l.map bv) ∧ Below w.heap.size w w' := by
  have hlen := RdB.len hr
  cases A with
  | none =>
    have h0 : n = 0 := by
      rcases Nat.eq_zero_or_pos n with h | h
      · exact h
      · obtain ⟨b, off, h, _⟩ := hr.at_ h
        cases h
    subst h0
    have hl : l = [] := List.eq_nil_of_length_eq_zero hlen
    subst hl
    refine (Try.bytes_Clone_nil 0 c w).mono ?_
    rintro e w' ⟨rfl, rfl⟩
    exact ⟨_, rfl, Ow.nil _ _ _ _, Below.refl _ _⟩
  | some a =>
    refine (Try.bytes_Clone_at a n c (l.map fun x => (x.toNat : Int)) w (by simpa using hlen) (by omega) ?_).mono ?_
    · intro i hi
      obtain ⟨b, off, h, hb, hc⟩ := RdB.cell hr hi
      injection h with h
      subst h
      rw [Addr.add_lit, hc]
      have : i < l.length := by omega
      simp [List.getD, List.getElem?_eq_getElem this]
    · rintro e w' ⟨v, rfl, hown, _, hb⟩
      refine ⟨v, rfl, ?_, hb⟩
      have := Ow.of_own hown
      rw [List.map_map] at this
      exact this

theorem join_lib (A : Option Addr) (n c : Nat) (ls : List (List UInt8)) (w : World) (hp : RdP w w.heap.size A n ls) (hc : n ≤ c) (hn : n ≤ 140737488351232) (hs : ls.flatten.length ≤ 140737488351232) :
    Calls Try.prog 18 #[.slice A n c, .slice none 0 0] w fun e w' => ∃ v, e = .returned v ∧ Ow w' w.heap.size 5 1 v ls.flatten.length (ls.flatten.map bv) ∧ Below w.heap.size w w' := by
  have hlen := hp.1
  match n, ls, hlen with
  | 0, [], _ =>
    refine (Try.bytes_Join_none A c _ w).mono ?_
    rintro e w' ⟨rfl, rfl⟩
    exact ⟨_, rfl, Ow.lit w #[] 0 (Nat.le_refl _) (by simp [maxLen]) rfl, (Below.refl _ _).alloc (Nat.le_refl _) _⟩
  | 1, [l], _ =>
    obtain ⟨b, off, Ai, ci, l', rfl, hb, hl, hcell, h1, h2, h4⟩ := hp.cell (k := 0) (by omega)
    obtain rfl : l = l' := by simpa using hl
    rcases Nat.eq_zero_or_pos l.length with h0 | h0
    · have he : l = [] := List.eq_nil_of_length_eq_zero h0
      subst he
      refine (Try.bytes_Join_one_empty b off c Ai ci _ w (by simpa using hcell)).mono ?_
      rintro e w' ⟨rfl, rfl⟩
      exact ⟨_, rfl, by simpa using Ow.nil _ _ _ _, Below.refl _ _⟩
    · obtain ⟨bb, oo, rfl, hbb, hcc⟩ := h4.at_ h0
      refine (Try.bytes_Join_one b off c ⟨bb, oo, none⟩ ci l _ w (by simpa using hcell) ?_ h0 (by omega)).mono ?_
      · intro i x hx
        obtain ⟨hi, hx⟩ := List.getElem?_eq_some_iff.1 hx
        rw [Addr.add_lit, hcc i (by simpa using hi)]
        simp [bv, hx]
      · rintro e w' ⟨v, rfl, hf, hbl⟩
        exact ⟨v, rfl, by simpa using Ow.of_fresh hf, hbl⟩
  | k + 2, ls, _ =>
    obtain ⟨b, off, Ai, ci, l', rfl, hb, _⟩ := hp.cell (k := 0) (by omega)
    obtain ⟨_, vs, hr, hv⟩ := hp
    obtain ⟨b2, off2, he, _, hcs⟩ := hr.at_ (k := 0) (by omega)
    injection he with he
    injection he with e1 e2
    subst e1; subst e2
    have hvl : vs.length = ls.length := by have := hr.1; omega
    have hP : Lib.PartsAt w ⟨b, off, none⟩ vs ls := by
      refine ⟨hvl, fun i v hv' => ?_, fun i v l hv' hl' => ?_⟩
      · obtain ⟨hi, hx⟩ := List.getElem?_eq_some_iff.1 hv'
        rw [Addr.add_lit, hcs i hi, hx]
      · obtain ⟨hi, hx⟩ := List.getElem?_eq_some_iff.1 hl'
        obtain ⟨Ai, ci, h1, h2, h3, h4⟩ := hv i hi
        rw [hv'] at h1
        injection h1 with h1
        subst h1
        subst hx
        refine ⟨Ai, ci, rfl, fun hn => ?_, fun a ha j x hx => ?_⟩
        · subst hn
          rcases Nat.eq_zero_or_pos ls[i].length with h0 | h0
          · exact List.eq_nil_of_length_eq_zero h0
          · obtain ⟨_, _, h, _⟩ := h4.at_ h0
            cases h
        · obtain ⟨hj, hx⟩ := List.getElem?_eq_some_iff.1 hx
          obtain ⟨bb, oo, h, _, hcc⟩ := RdB.cell h4 hj
          rw [ha] at h
          injection h with h
          subst h
          rw [Addr.add_lit, hcc, hx]
    have hlens : Lib.lens ls = ls.flatten.length := by simp [Lib.lens]
    refine (Try.bytes_Join_many b off (k + 2) c vs ls (.slice none 0 0) [] w (by omega) (by omega) hP hc ⟨none, 0, rfl, fun _ => rfl, fun a ha => by cases ha⟩ (by omega) (by rw [hlens]; simp only [List.length_nil, Nat.zero_mul]; omega)).mono ?_
    rintro e w' ⟨v, rfl, hf, hbl⟩
    have hj : Lib.join ls [] = ls.flatten := by
      match ls with
      | [] => rfl
      | x :: r => rw [Lib.join_cons]; simp [Lib.joinTail]
    rw [hj] at hf
    exact ⟨v, rfl, Ow.of_fresh hf, hbl⟩
end Go.Proofs.Ytlliffbhkagodaa
