/- Slices of numbers and of strings that came in. No program is named here. -/
import Derived.Test.YtoammbfipinejaaFrame
import Derived.SliceStrings
namespace Go.Proofs.Ytoammbfipinejaa
open Go.ChangeShapes Go.WideShapes Go.ChangeAt Go.RowKit
section
variable {H : Type} {enc : TypeId × Value → H} {P : Program} {w : World}
theorem weights_mem {e : TypeId} {d : DataW H} {x : Nat} : ∀ {l : List (DataW H)}, d ∈ l → x ∈ d.weights P e → x ∈ DataW.weightsAll P e l
  | [], h, _ => by simp at h
  | y :: r, h, hx => by
    simp only [DataW.weightsAll, List.mem_append]
    rcases List.mem_cons.1 h with rfl | h
    · exact .inl hx
    · exact .inr (weights_mem h hx)
/-- A slice of numbers. -/
theorem open_nums {k : IntKind} {t e : TypeId} {base : Nat} {v : Value} {d : DataW H} {p : List MemPlace} (ht : P.underlying t = some (.slice e)) (he : P.underlying e = some (.int k)) (hce : P.cellsOf e = 1) (hbe : 1 ≤ P.bytesOf e)
    (hok : Value.okWide P w .any base t v) (h : DataW.Trod enc P w 0 (fun _ => true) true t v d p) (hwt : (d.weights P t).all (· ≤ reachBytes) = true) :
    ∃ A n c, ∃ l : List Int, v = .slice A n c ∧ Rd w w.heap.size 1 A n (l.map (Value.int k)) ∧ n ≤ c ∧ c ≤ 140737488351232 ∧ ∀ z ∈ l, (Lit.int k z).wf = true := by
  obtain ⟨a0, len, cap, rfl⟩ := okWide_slice ht hok
  have lt0 : ∀ x ∈ p, x.block < w.heap.size := by obtain ⟨m, hm⟩ := h; exact DataW.trod_lt m _ _ _ hm
  obtain ⟨fuel, hf⟩ := h
  rcases open_ints ht he hce hf with ⟨hcs, _⟩ | ⟨x, l', c', zs, hcs, _, hl, hm, hz, hx, hcell, hwz⟩
  · simp [Value.cells] at hcs
    obtain ⟨rfl, rfl, rfl⟩ := hcs
    exact ⟨none, 0, 0, [], rfl, Rd.nil, by omega, by omega, by simp⟩
  · simp [Value.cells] at hcs
    obtain ⟨rfl, rfl, rfl⟩ := hcs
    simp only [if_true] at hz
    have hcap : cap ≤ 140737488351232 := by
      have hd : d = .slice (lits k (zs.take len)) (lits k (zs.drop len)) := congrArg Prod.fst hx
      rw [hd] at hwt
      have h1 := List.all_eq_true.1 hwt (((lits (H := H) k (zs.take len)).length + (lits (H := H) k (zs.drop len)).length) * P.bytesOf e) (by simp [DataW.weights, ht])
      simp only [lits, List.length_map, List.length_take, List.length_drop, decide_eq_true_eq, reachBytes] at h1
      have h2 := Nat.le_mul_of_pos_right (min len zs.length + (zs.length - len)) hbe
      omega
    refine ⟨some x, len, cap, zs.take len, rfl, ⟨by simp; omega, fun hn => ?_⟩, hl, hcap, fun z h => hwz z (List.mem_of_mem_take h)⟩
    obtain ⟨b, off, spot⟩ := x
    have hc0 := hcell 0 (by omega)
    have hspot : spot = none := by simpa [Addr.add] using World.cell?_spot hc0
    subst hspot
    refine ⟨b, off, rfl, World.block_lt_of_cell? w _ hc0 |> (by simpa [Addr.add_lit] using ·), fun j hj => ?_⟩
    have hj' : j < len := by simp at hj; omega
    have hcj := hcell j (by omega)
    rw [Addr.add_lit] at hcj
    rw [hcj]
    have hjz : j < zs.length := by omega
    simp [List.getD, List.getElem?_eq_getElem hjz]
/-- A slice of strings. -/
theorem open_texts {t e : TypeId} {base : Nat} {v : Value} {d : DataW H} {p : List MemPlace} (ht : P.underlying t = some (.slice e)) (he : P.underlying e = some .string) (hce : P.cellsOf e = 1) (hbe : 1 ≤ P.bytesOf e)
    (hok : Value.okWide P w .any base t v) (h : DataW.Trod enc P w 0 (fun _ => true) true t v d p) (hwt : (d.weights P t).all (· ≤ reachBytes) = true) :
    ∃ A n c, ∃ l : List ByteArray, v = .slice A n c ∧ Rd w w.heap.size 1 A n (l.map Value.string) ∧ n ≤ c ∧ c ≤ 140737488351232 ∧ ∀ s ∈ l, s.size ≤ 140737488351232 := by
  obtain ⟨a0, len, cap, rfl⟩ := okWide_slice ht hok
  have lt0 : ∀ x ∈ p, x.block < w.heap.size := by obtain ⟨m, hm⟩ := h; exact DataW.trod_lt m _ _ _ hm
  obtain ⟨fuel, hf⟩ := h
  rcases open_strings ht he hce hf with ⟨hcs, _⟩ | ⟨x, l', c', zs, hcs, _, hl, hm, hz, hx, hcell, hwz⟩
  · simp [Value.cells] at hcs
    obtain ⟨rfl, rfl, rfl⟩ := hcs
    exact ⟨none, 0, 0, [], rfl, Rd.nil, by omega, by omega, by simp⟩
  · simp [Value.cells] at hcs
    obtain ⟨rfl, rfl, rfl⟩ := hcs
    simp only [if_true] at hz
    have hd : d = .slice (strs (zs.take len)) (strs (zs.drop len)) := congrArg Prod.fst hx
    rw [hd] at hwt
    have hcap : cap ≤ 140737488351232 := by
      have h1 := List.all_eq_true.1 hwt (((strs (H := H) (zs.take len)).length + (strs (H := H) (zs.drop len)).length) * P.bytesOf e) (by simp [DataW.weights, ht])
      simp only [strs, List.length_map, List.length_take, List.length_drop, decide_eq_true_eq, reachBytes] at h1
      have h2 := Nat.le_mul_of_pos_right (min len zs.length + (zs.length - len)) hbe
      omega
    refine ⟨some x, len, cap, zs.take len, rfl, ⟨by simp; omega, fun hn => ?_⟩, hl, hcap, fun s h => ?_⟩
    · obtain ⟨b, off, spot⟩ := x
      have hc0 := hcell 0 (by omega)
      have hspot : spot = none := by simpa [Addr.add] using World.cell?_spot hc0
      subst hspot
      refine ⟨b, off, rfl, World.block_lt_of_cell? w _ hc0 |> (by simpa [Addr.add_lit] using ·), fun j hj => ?_⟩
      have hj' : j < len := by simp at hj; omega
      have hcj := hcell j (by omega)
      rw [Addr.add_lit] at hcj
      rw [hcj]
      have hjz : j < zs.length := by omega
      simp [List.getD, List.getElem?_eq_getElem hjz]
    · have h1 := List.all_eq_true.1 hwt s.data.toList.length (by
        simp only [DataW.weights, ht, List.mem_cons, List.mem_append]
        exact .inr (.inl (weights_mem (d := .lit (.string s.data.toList)) (List.mem_map.2 ⟨s, h, rfl⟩) (by simp [DataW.weights]))))
      have h2 := of_decide_eq_true h1
      have h3 : s.data.toList.length = s.size := Array.length_toList
      rw [h3] at h2
      exact h2
theorem open_u64s {t e : TypeId} {base : Nat} {v : Value} {d : DataW H} {p : List MemPlace} (ht : P.underlying t = some (.slice e)) (he : P.underlying e = some (.int .u64)) (hce : P.cellsOf e = 1) (hbe : 1 ≤ P.bytesOf e)
    (hok : Value.okWide P w .any base t v) (h : DataW.Trod enc P w 0 (fun _ => true) true t v d p) (hwt : (d.weights P t).all (· ≤ reachBytes) = true) :
    ∃ A n c, ∃ l : List Nat, v = .slice A n c ∧ Rd w w.heap.size 1 A n (l.map fun (x : Nat) => Value.int .u64 (x : Int)) ∧ n ≤ c ∧ c ≤ 140737488351232 ∧ ∀ z ∈ l, z < 18446744073709551616 := by
  obtain ⟨A, n, c, l, e, hr, h1, h2, h3⟩ := open_nums ht he hce hbe hok h hwt
  have hb : ∀ z ∈ l, 0 ≤ z ∧ z < 18446744073709551616 := by
    intro z hz
    have := bounds_u64 (h3 z hz)
    omega
  refine ⟨A, n, c, l.map Int.toNat, e, ?_, h1, h2, ?_⟩
  · have : (l.map Int.toNat).map (fun (x : Nat) => Value.int .u64 (x : Int)) = l.map (Value.int .u64) := by
      rw [List.map_map]
      refine List.map_congr_left fun z hz => ?_
      have := (hb z hz).1
      simp [Int.toNat_of_nonneg this]
    rw [this]
    exact hr
  · intro z hz
    obtain ⟨y, hy, rfl⟩ := List.mem_map.1 hz
    have := hb y hy
    omega
end
end Go.Proofs.Ytoammbfipinejaa
