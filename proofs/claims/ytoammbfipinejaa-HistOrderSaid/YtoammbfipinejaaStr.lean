/- append of a string's bytes onto an owned slice; a slice of strings that is read; bytes as a string. No program is named here. -/
import Derived.Test.YtoammbfipinejaaBase
import Derived.Lib.AppendStr
import Derived.Laws.IdiomStrings
import Derived.Lib.BufferRead
namespace Go.Proofs.Ytoammbfipinejaa
open Go.RowKit

theorem strCells_bv (s : ByteArray) : Lib.strCells s = s.data.toList.map bv := rfl
theorem size_toList (s : ByteArray) : s.data.toList.length = s.size := by rw [Array.length_toList]; rfl

section
variable {P : Program} (w : World)
theorem run_append_room_str (t u ty e : TypeId) (i : TypeInfo) (ht : P.underlying t = some (.slice e)) (hu : P.underlying u = some .string) (hi : P.info? e = some i) (hs1 : i.size = 1)
    (b off sLen sCap : Nat) (s : ByteArray) (hroom : sLen + s.size ≤ sCap)
    (hc : ∀ j, j < s.size → (w.cell? ⟨b, off + sLen + j, none⟩).isSome = true) (hf : ∀ j, j < s.size → w.frozen? ⟨b, off + sLen + j, none⟩ = false) :
    (Builtin.append_ #[t, u] ty #[.slice (some ⟨b, off, none⟩) sLen sCap, .string s]).run P w = .ok (.slice (some ⟨b, off, none⟩) (sLen + s.size) sCap) (w.setCells b (off + sLen) (Lib.strCells s)) := by
  have hfc := Lib.run_firstCells_string (P := P) w 1 s
  have hst := run_storeCells_cells (P := P) b (off + sLen) (Lib.strCells s) 0 w (by simpa [Lib.strCells_length] using hc) (by simpa [Lib.strCells_length] using hf) (Lib.strCells_oneCell s)
  simp only [Nat.add_zero] at hst
  simp [Builtin.append_, run_underlying ht, run_underlying hu, sizeOf, typeInfo, hi, hs1, Builtin.lenOf, hroom, hfc, Addr.add_lit, hst]

theorem run_append_ow_str (lo : Nat) (t u ty e : TypeId) (i : TypeInfo) (ht : P.underlying t = some (.slice e)) (hu : P.underlying u = some .string) (hi : P.info? e = some i) (hz : i.zero = some (.int .u8 0))
    (hsize : i.size = 1) (hby : i.bytes = 1)
    (v : Value) (n : Nat) (xs : List Value) (hown : Ow w lo e 1 v n xs) (s : ByteArray)
    (h63 : n + s.size ≤ maxLen) (hbytes : n + s.size ≤ 140737488355328) (hbase : lo ≤ w.heap.size) :
    ∃ v' w', (Builtin.append_ #[t, u] ty #[v, .string s]).run P w = .ok v' w' ∧ Ow w' lo e 1 v' (n + s.size) (xs ++ s.data.toList.map bv) ∧ w.grownBy w' v.ownBlock := by
  have hxl : xs.length = n := by simpa using hown.1
  have grow : ∀ (a0 : Addr) (cap : Nat), v = .slice (some a0) n cap → cap < n + s.size → (∀ j u, xs[j]? = some u → w.cell? (a0.add j) = some u) →
      ∃ v' w', (Builtin.append_ #[t, u] ty #[v, .string s]).run P w = .ok v' w' ∧ Ow w' lo e 1 v' (n + s.size) (xs ++ s.data.toList.map bv) ∧ w.grownBy w' v.ownBlock := by
    rintro a0 cap rfl hfull hcell0
    have hr := Lib.run_append_grow_string (P := P) w t u ty e i (.int .u8 0) ht hu hi hz a0 n cap xs (by rw [hsize, Nat.mul_one]; exact hxl) hcell0 s hfull (by simp only [maxLen] at h63; omega) (by rw [hby]; exact growslice_fits hfull (by omega))
    have hge := grownCap_ge w (n + s.size) cap e
    have hcm := grownCap_le_maxLen w (n + s.size) cap e h63
    refine ⟨_, _, hr, Ow.of_own ⟨by rw [List.length_append, hxl, List.length_map, size_toList, Nat.mul_one], .inr ⟨w.heap.size, _, _, rfl, hbase, heap_alloc_new w.drew _, hge, hcm, ?_, ?_⟩⟩, ⟨rfl, rfl, rfl, by simp, fun k hk _ => heap_alloc_old w.drew _ hk⟩⟩
    · have hzs : (Value.int IntKind.u8 0).cells.size = 1 := rfl
      simp only [Array.size_append, List.size_toArray, size_zeroCells, Lib.strCells_length, hxl, hzs, Nat.mul_one]
      omega
    · simp only [Array.toList_append, List.append_assoc]
      rw [← List.append_assoc]
      have : (xs ++ Lib.strCells s).length = (n + s.size) * 1 := by rw [List.length_append, hxl, Lib.strCells_length, Nat.mul_one]
      rw [← this]
      exact List.take_left
  rcases hown.2 with ⟨rfl, rfl⟩ | ⟨a0, rfl, hlo, rfl⟩ | ⟨g, off, cap, rfl, hlo, hlt, hnc, hcm, hroom, hx⟩
  · obtain rfl : xs = [] := hown.nil_of
    obtain ⟨v', w', hr, h2, h3, h4⟩ := Lib.run_append_own_string (P := P) w lo t u ty e i ht hu hi hz hsize hby (.slice none 0 0) 0 [] (World.ownsRow_nil w _ e 1) s h63 hbytes hbase
    exact ⟨v', w', hr, Ow.of_own h2, h3⟩
  · obtain rfl : xs = [] := hown.nil_of
    by_cases hs0 : s.size = 0
    · have hnil : s.data.toList = [] := List.eq_nil_of_length_eq_zero (by rw [size_toList]; exact hs0)
      obtain ⟨⟩ | _ := Nat.eq_zero_or_pos s.size
      all_goals
        refine ⟨.slice (some a0) 0 0, w, ?_, by simpa [hs0, hnil] using hown, World.grownBy.refl w _⟩
        have hfc := Lib.run_firstCells_string (P := P) w 1 s
        have hsc : Lib.strCells s = [] := by rw [strCells_bv, hnil]; rfl
        rw [hsc] at hfc
        simp [Builtin.append_, run_underlying ht, run_underlying hu, sizeOf, typeInfo, hi, hsize, Builtin.lenOf, hs0]
        rw [hs0] at hfc
        simp [hfc, storeCells]
    · exact grow a0 0 rfl (by omega) (by intro j u hu; simp at hu)
  · by_cases hfit : n + s.size ≤ cap
    · have hrun := run_append_room_str (P := P) w t u ty e i ht hu hi hsize g off n cap s hfit
        (fun j hj => by rw [Nat.add_assoc]; exact (hroom _ (by omega)).1) (fun j hj => by rw [Nat.add_assoc]; exact (hroom _ (by omega)).2)
      have hsl := Lib.strCells_length s
      refine ⟨_, _, hrun, ⟨by rw [List.length_append, hxl, List.length_map, size_toList, Nat.mul_one], .inr (.inr ⟨g, off, cap, rfl, hlo, by rw [setCells_size]; exact hlt, hfit, hcm, fun j hj => ?_, fun j hj => ?_⟩)⟩, setCells_grown g _ _ w⟩
      · rw [World.frozen?_setCells]
        refine ⟨?_, (hroom j hj).2⟩
        by_cases hin : n ≤ j ∧ j < n + s.size
        · have h := World.cell?_setCells_in g (Lib.strCells s) (off + n) w (fun q hq => by rw [Nat.add_assoc]; exact (hroom _ (by omega)).1) (j - n) (by omega)
          rw [show off + n + (j - n) = off + j by omega] at h
          rw [h]; rfl
        · rw [World.cell?_setCells_out g (Lib.strCells s) (off + n) w _ (fun _ _ => by simp only; omega)]
          exact (hroom j hj).1
      · have hj : j < (xs ++ Lib.strCells s).length := hj
        show _ = some (xs ++ Lib.strCells s)[j]
        rw [List.length_append] at hj
        by_cases hin : j < xs.length
        · rw [World.cell?_setCells_out g (Lib.strCells s) (off + n) w _ (fun _ _ => by simp only; omega), List.getElem_append_left hin]
          exact hx j hin
        · have h := World.cell?_setCells_in g (Lib.strCells s) (off + n) w (fun q hq => by rw [Nat.add_assoc]; exact (hroom _ (by omega)).1) (j - xs.length) (by omega)
          rw [show off + n + (j - xs.length) = off + j by omega] at h
          rw [h, List.getElem_append_right (by omega)]
    · exact grow ⟨g, off, none⟩ cap rfl (by omega) (fun j u hu => by
        obtain ⟨hj, hu⟩ := List.getElem?_eq_some_iff.1 hu
        rw [Addr.add_lit, hx j hj, hu])

theorem wpList_append_ow_str {ops : Array Oper} {rest : List Oper} {o : Oper} {a : Act} {Q : Exit → Act → World → Prop} (hgd : o.guard = none) (sl x : Operand) (t u : TypeId)
    (ho : o.op = .call { callee := .builtin .append, args := #[sl, x], argTypes := #[t, u] })
    (lo : Nat) (e : TypeId) (i : TypeInfo) (ht : P.underlying t = some (.slice e)) (hu : P.underlying u = some .string) (hi : P.info? e = some i) (hz : i.zero = some (.int .u8 0))
    (hsize : i.size = 1) (hby : i.bytes = 1)
    (v : Value) (n : Nat) (xs : List Value) (hs : a.eval sl = v) (hown : Ow w lo e 1 v n xs) (s : ByteArray) (hx : a.eval x = .string s)
    (h63 : n + s.size ≤ maxLen) (hbytes : n + s.size ≤ 140737488355328) (hbase : lo ≤ w.heap.size)
    (h : ∀ v' w', Ow w' lo e 1 v' (n + s.size) (xs ++ s.data.toList.map bv) → w.grownBy w' v.ownBlock → wpList P ops Q rest (a.put o.dst v') w') : wpList P ops Q (o :: rest) a w := by
  refine wpList_plain hgd fun K hK => ?_
  obtain ⟨v', w', hr, h2, h3⟩ := run_append_ow_str (P := P) w lo t u o.type e i ht hu hi hz hsize hby v n xs hown s h63 hbytes hbase
  unfold Oper.wp execOp
  simp only [ho, resolve, invoke, builtin, Sem.run_bind, Sem.run_pure, Result.andThen_ok, List.map_toArray, List.map_cons, List.map_nil, hs, hx, hr]
  exact hK _ _ (h v' w' h2 h3)
end
end Go.Proofs.Ytoammbfipinejaa
