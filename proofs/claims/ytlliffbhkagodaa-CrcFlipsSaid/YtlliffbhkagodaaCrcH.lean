/- CrcSums: for every input the law returns true. -/
import Derived.Test.YtlliffbhkagodaaRows
import Derived.Test.YtlliffbhkagodaaFrame
import Derived.Test.YtlliffbhkagodaaCrcG
import Derived.Deep.Matrix
namespace Go.Proofs.Ytlliffbhkagodaa
open Go.ChangeShapes Go.WideShapes Go.ChangeAt Go.RowKit Go.Deep

theorem own : ownKnob Try.prog.godebug = none := by kernel_rfl
theorem laidOut : laidOutB Try.prog = true := by kernel_rfl

section
variable {H : Type} {enc : TypeId × Value → H} {P : Program} {w : World}
theorem weightsAll_mem {e : TypeId} {d : DataW H} {x : Nat} : ∀ {l : List (DataW H)}, d ∈ l → x ∈ d.weights P e → x ∈ DataW.weightsAll P e l
  | [], h, _ => by simp at h
  | y :: r, h, hx => by
    simp only [DataW.weightsAll, List.mem_append]
    rcases List.mem_cons.1 h with rfl | h
    · exact .inl hx
    · exact .inr (weightsAll_mem h hx)
theorem open_parts {t e q : TypeId} {base : Nat} {v : Value} {d : DataW H} {p : List MemPlace} (ht : P.underlying t = some (.slice e)) (he : P.underlying e = some (.slice q)) (hq : P.underlying q = some (.int .u8)) (ce : P.cellsOf e = 1) (cq : P.cellsOf q = 1) (be : P.bytesOf e = 24) (bq : P.bytesOf q = 1)
    (hok : Value.okWide P w .any base t v) (h : DataW.Trod enc P w 0 (fun _ => true) true t v d p) (hwt : (d.weights P t).all (· ≤ reachBytes) = true) :
    ∃ A n c ls, v = .slice A n c ∧ RdP w w.heap.size A n ls ∧ n ≤ c ∧ n ≤ 140737488351232 := by
  obtain ⟨a0, len, cap, rfl⟩ := okWide_slice ht hok
  have lt0 : ∀ x ∈ p, x.block < w.heap.size := by obtain ⟨m, hm⟩ := h; exact DataW.trod_lt m _ _ _ hm
  obtain ⟨fuel, hf⟩ := h
  rcases open_int_rows ht he hq ce cq hf with ⟨hcs, _⟩ | ⟨x, l', c', A, L, C, Z, hcs, _, hl, hm, hx, hrow⟩
  · simp [Value.cells] at hcs
    obtain ⟨rfl, rfl, rfl⟩ := hcs
    exact ⟨none, 0, 0, [], rfl, RdP.none, by omega, by omega⟩
  · simp [Value.cells] at hcs
    obtain ⟨rfl, rfl, rfl⟩ := hcs
    have hd : d = _ := congrArg Prod.fst hx
    simp only at hd
    rw [hd] at hwt
    have hmem := List.all_eq_true.1 hwt
    have hlen : len ≤ 140737488351232 := by
      have h1 := hmem ((((List.range len).map fun r => intRow (H := H) .u8 (A r) (L r) (Z r)).length + ((List.range (cap - len)).map fun j => intRow (H := H) .u8 (A (len + j)) (L (len + j)) (Z (len + j))).length) * P.bytesOf e) (by simp [DataW.weights, ht])
      simp only [List.length_map, List.length_range, be, decide_eq_true_eq, reachBytes] at h1
      omega
    have hin : ∀ r, r < len → C r ≤ 140737488351232 := by
      intro r hr
      obtain ⟨_, r1, r2, r3, r4, r5, r6⟩ := hrow r (by omega)
      cases hA : A r with
      | none => rw [r5 hA]; omega
      | some a =>
        have h1 := hmem (((lits (H := H) .u8 ((Z r).take (L r))).length + (lits (H := H) .u8 ((Z r).drop (L r))).length) * P.bytesOf q) (by
          simp only [DataW.weights, ht, List.mem_cons, List.mem_append]
          refine .inr (.inl (weightsAll_mem (d := intRow .u8 (A r) (L r) (Z r)) (List.mem_map.2 ⟨r, List.mem_range.2 hr, rfl⟩) ?_))
          simp [intRow, hA, DataW.weights, he])
        simp only [lits, List.length_map, List.length_take, List.length_drop, bq, decide_eq_true_eq, reachBytes] at h1
        omega
    refine ⟨some x, len, cap, (List.range len).map fun r => ((Z r).take (L r)).map fun z => UInt8.ofNat z.toNat, rfl, ⟨by simp, (List.range len).map fun r => .slice (A r) (L r) (C r), ⟨by simp, fun hn => ?_⟩, fun i hi => ?_⟩, hl, hlen⟩
    · obtain ⟨b, off, spot⟩ := x
      have hc0 := (hrow 0 (by omega)).1
      have hspot : spot = none := by simpa [Addr.add] using World.cell?_spot hc0
      subst hspot
      rw [Addr.add_lit] at hc0
      refine ⟨b, off, rfl, World.block_lt_of_cell? w _ hc0, fun j hj => ?_⟩
      have hj' : j < len := by simpa using hj
      have hcj := (hrow j (by omega)).1
      rw [Addr.add_lit] at hcj
      rw [hcj]
      simp
    · have hi' : i < len := by simpa using hi
      obtain ⟨r0, r1, r2, r3, r4, r5, r6⟩ := hrow i (by omega)
      have hC := hin i hi'
      refine ⟨A i, C i, ?_, ?_, ?_, ?_⟩
      · simp [hi', r3]
        omega
      · simp; omega
      · simp; omega
      · have hL : (((Z i).take (L i)).map fun z => UInt8.ofNat z.toNat).length = L i := by simp; omega
        simp only [List.getElem_map, List.getElem_range]
        rw [hL]
        refine ⟨by rw [List.length_map, hL]; omega, fun hn => ?_⟩
        cases hA : A i with
        | none => have := r5 hA; omega
        | some a =>
          obtain ⟨_, hc⟩ := r6 a hA
          obtain ⟨b, off, spot⟩ := a
          have hc0 := hc 0 (by omega)
          have hspot : spot = none := by simpa [Addr.add] using World.cell?_spot hc0
          subst hspot
          rw [Addr.add_lit] at hc0
          refine ⟨b, off, rfl, World.block_lt_of_cell? w _ hc0, fun j hj => ?_⟩
          have hj' : j < L i := by simp at hj; omega
          have hcj := hc j (by omega)
          rw [Addr.add_lit] at hcj
          rw [hcj]
          have hjz : j < (Z i).length := by omega
          simp only [List.getElem_map, List.getElem_take, bv, Option.some.injEq, Value.int.injEq, true_and]
          rw [u8_of_wf (r4 _ (List.getElem_mem _))]
          simp [List.getD, List.getElem?_eq_getElem hjz]
end

theorem sums_law (H : Type) (enc : TypeId × Value → H) : LawWalk H enc Try.prog 3 Try.f3 := by
  intro W base args ds p hval hA hwt
  rw [Try.params3] at hA hval hwt
  obtain ⟨v0, vs0, d0, ds0, p0, q0, hargs, rfl, rfl, h0, r0⟩ := trodAll_cons hA
  obtain ⟨v1, vs1, d1, ds1, p1, q1, rfl, rfl, rfl, h1, r1⟩ := trodAll_cons r0
  obtain ⟨rfl, rfl, rfl⟩ := trodAll_nil r1
  obtain rfl : args = #[v0, v1] := by cases args; simp_all
  simp only [DataW.weightsEach, List.all_append, Bool.and_eq_true] at hwt
  obtain ⟨w0, w1, _⟩ := hwt
  obtain ⟨A, n, c, ls, rfl, hp, hc, hn⟩ := open_parts Try.underlying22 Try.underlying23 Try.underlying5 (by kernel_rfl) (by kernel_rfl) (by kernel_rfl) (by kernel_rfl) (hval 0 _ _ rfl rfl) h0 w0
  obtain ⟨A', n', c', l, rfl, hr, hc', hn'⟩ := open_bytes Try.underlying23 Try.underlying5 (by kernel_rfl) (by kernel_rfl) (hval 1 _ _ rfl rfl) h1 w1
  exact sums_walk A A' n c n' c' ls l W hp hc hn hr hc' (by simp only [maxLen]; omega)

set_option maxRecDepth 100000 in
theorem sums_lifted (os : Os) (started : os.Started) (H : Type) (enc : TypeId × Value → H) :
    ReturnsInHanded {} Try.checked os 3 .any (Rows.crcSumsSpec.pre6 enc Try.prog Try.f3 Rows.crcSumsRow.domain false) (Rows.crcSumsSpec.post enc Try.prog Try.f3 false true false false) :=
  lift_law (C := Try.checked) (s := Rows.crcSumsSpec) laidOut own started (by kernel_rfl) Try.func3 (by kernel_rfl) Try.underlying4 (by kernel_rfl) rfl
      (fun ds hd => by rw [Try.params3] at hd; match ds, hd with | [_, _], _ => rfl)
      (ChangeSpec.witness6 (enc := enc) (C := Try.checked) false ⟨#[], #[.slice none 0 0, .slice none 0 0], []⟩ 8 (by kernel_rfl) (by kernel_rfl) (by kernel_rfl) (by kernel_rfl))
      (sums_law H enc)
theorem crcSums_holds : Rows.CrcSumsSaid :=
  OpenClaim.holds_of_wide 3 Try.f3 rfl rfl rfl rfl rfl rfl rfl ⟨rfl, rfl, rfl, rfl, rfl⟩ rfl rfl rfl rfl rfl (by kernel_rfl) Try.func3 (by kernel_rfl)
    (of_decide_eq_true (by kernel_rfl)) (by unfold Func.isWrapper; first | (rw [if_pos (by decide +kernel)]; kernel_rfl) | (rw [if_neg (by decide +kernel)]; exact ⟨rfl, rfl⟩))
    (fun os started H enc _ => sums_lifted os started H enc)
#print axioms crcSums_holds
end Go.Proofs.Ytlliffbhkagodaa
