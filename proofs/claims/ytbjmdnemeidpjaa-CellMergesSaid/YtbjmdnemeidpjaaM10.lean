/- Parts CodeD, Str, CodeE, CodeF, HistH, Hk, Hf, Ht, Hq, CeC, SafeAdd, CeD, CeE of the proof, put together. -/
import Derived.Test.YtbjmdnemeidpjaaM9
import Derived.Lib.AppendStr
import Derived.Laws.IdiomStrings
import Derived.Lib.BufferRead
import Derived.Outline
import Derived.RangeFuncFrom
import Derived.TacticsIn
import Derived.OrdersIn
import Derived.Test.YtbjmdnemeidpjaaProg
/- code.Turn, code.Unturn. -/
namespace Go.Proofs.Ytbjmdnemeidpjaa
open Go.RowKit
set_option linter.unusedVariables false
set_option linter.unusedSimpArgs false

def turnN (v : Int) : Nat := if 0 ≤ v then (2 * v).toNat else (2 * (-(v + 1)) + 1).toNat
def unturnZ (u : Nat) : Int := if u % 2 = 0 then (u : Int) / 2 else -((u : Int) / 2) - 1
theorem xor_full64 (R : Nat) (h : R < 18446744073709551616) : R ^^^ 18446744073709551615 = 18446744073709551615 - R := by
  have h1 : (BitVec.ofNat 64 R ^^^ BitVec.allOnes 64).toNat = (~~~ BitVec.ofNat 64 R).toNat := by rw [BitVec.xor_allOnes]
  rw [BitVec.toNat_xor, BitVec.toNat_not, BitVec.toNat_allOnes, BitVec.toNat_ofNat, Nat.mod_eq_of_lt (by omega)] at h1
  simpa using h1
theorem spell_turn (v : Int) (h1 : -9223372036854775808 ≤ v) (h2 : v ≤ 9223372036854775807) :
    bits BinOp.xor IntKind.u64 (IntKind.u64.wrap (IntKind.u64.wrap v * 2)) (IntKind.u64.wrap (v / 9223372036854775808)) = ((turnN v : Nat) : Int) := by
  simp only [u64_wrap]
  by_cases h : 0 ≤ v
  · have e1 : v % 18446744073709551616 * 2 % 18446744073709551616 = (((2 * v).toNat : Nat) : Int) := by omega
    have e2 : v / 9223372036854775808 % 18446744073709551616 = ((0 : Nat) : Int) := by omega
    rw [e1, e2, u64_xor_nat _ _ (by omega) (by omega), Nat.xor_zero, turnN, if_pos h]
  · have e1 : v % 18446744073709551616 * 2 % 18446744073709551616 = (((18446744073709551616 + 2 * v).toNat : Nat) : Int) := by omega
    have e2 : v / 9223372036854775808 % 18446744073709551616 = ((18446744073709551615 : Nat) : Int) := by omega
    rw [e1, e2, u64_xor_nat _ _ (by omega) (by omega), xor_full64 _ (by omega), turnN, if_neg h]
    omega
theorem spell_unturn (u : Nat) (h : u < 18446744073709551616) :
    bits BinOp.xor IntKind.i64 ((u : Int) / 2) (wrap64 (-wrap64 (bits BinOp.and IntKind.u64 (u : Int) 1))) = unturnZ u := by
  have e1 : bits BinOp.and IntKind.u64 (u : Int) 1 = ((u % 2 : Nat) : Int) := by
    have := u64_and_nat u 1 h (by omega)
    rw [Nat.and_one_is_mod] at this
    exact this
  rw [e1]
  have e3 : (u : Int) / 2 = ((u / 2 : Nat) : Int) := by omega
  rcases Nat.mod_two_eq_zero_or_one u with h0 | h0
  · rw [h0]
    have e2 : wrap64 (-wrap64 ((0 : Nat) : Int)) = 0 := by rw [IntWalk.wrap64_in ((0 : Nat) : Int) (by constructor <;> omega), IntWalk.wrap64_in _ (by constructor <;> omega)]; rfl
    rw [e2, unturnZ, if_pos h0]
    show IntKind.i64.wrap ((BitVec.ofInt 64 ((u : Int) / 2) ^^^ BitVec.ofInt 64 0).toNat : Int) = _
    rw [show BitVec.ofInt 64 0 = 0#64 from rfl, BitVec.xor_zero, e3, BitVec.ofInt_natCast, BitVec.toNat_ofNat, IntKind.wrap_i64]
    omega
  · rw [h0]
    have e2 : wrap64 (-wrap64 ((1 : Nat) : Int)) = -1 := by rw [IntWalk.wrap64_in ((1 : Nat) : Int) (by constructor <;> omega), IntWalk.wrap64_in _ (by constructor <;> omega)]; rfl
    rw [e2, unturnZ, if_neg (by omega)]
    show IntKind.i64.wrap ((BitVec.ofInt 64 ((u : Int) / 2) ^^^ BitVec.ofInt 64 (-1)).toNat : Int) = _
    rw [show BitVec.ofInt 64 (-1) = BitVec.allOnes 64 from by decide, BitVec.xor_allOnes, e3, BitVec.ofInt_natCast, BitVec.toNat_not, BitVec.toNat_ofNat, IntKind.wrap_i64]
    omega
theorem turnN_lt (v : Int) (h1 : -9223372036854775808 ≤ v) (h2 : v ≤ 9223372036854775807) : turnN v < 18446744073709551616 := by
  unfold turnN; split <;> omega
theorem unturn_turn (v : Int) : unturnZ (turnN v) = v := by
  unfold unturnZ turnN
  split <;> split <;> omega
theorem turn_unturn (u : Nat) : turnN (unturnZ u) = u := by
  unfold unturnZ turnN
  split <;> split <;> omega
theorem unturnZ_bounds (u : Nat) (h : u < 18446744073709551616) : -9223372036854775808 ≤ unturnZ u ∧ unturnZ u ≤ 9223372036854775807 := by
  unfold unturnZ; split <;> omega
set_option maxRecDepth 100000 in
theorem turn_any (v : Int) (w : World) (h1 : -9223372036854775808 ≤ v) (h2 : v ≤ 9223372036854775807) :
    Calls Try.prog 102 #[.int .i64 v] w fun e w' => e = .returned (.int .u64 (turnN v)) ∧ w = w' := by
  go_enter Try.func102, Try.ntmps102
  go_wp2
  go_ret
  exact ⟨ret_int (spell_turn v h1 h2), rfl⟩
set_option maxRecDepth 100000 in
theorem unturn_any (u : Nat) (w : World) (h : u < 18446744073709551616) :
    Calls Try.prog 99 #[.int .u64 u] w fun e w' => e = .returned (.int .i64 (unturnZ u)) ∧ w = w' := by
  go_enter Try.func99, Try.ntmps99
  go_wp2
  go_ret
  exact ⟨ret_int (spell_unturn u h), rfl⟩

/-! ### Int, Count, Left, Err, End -/
theorem uV_lt (l : List UInt8) (e : Nat) : uV l e < 18446744073709551616 := by
  have hb := dec_bounds l 0 0 (dec l).1 (dec l).2.1 (dec l).2.2 (by omega) (by simp) rfl
  unfold uV; split <;> omega
theorem int_any (g e : Nat) (l : List UInt8) (w : World) (h : Rdr w g l e) :
    Calls Try.prog 65 #[.pointer (some ⟨g, 0, none⟩)] w fun x w' => x = .returned (.int .i64 (unturnZ (uV l e))) ∧ Rdr w' g (tkL l e (dec l).2.1 (dec l).2.2) (tkE e (dec l).2.2) ∧ w.grownBy w' (some g) := by
  have hlt := hide (uV_lt l e)
  have HU := hide (uint_any g e l w h)
  clear h
  generalize uV l e = V at *
  go_enter Try.func65, Try.ntmps65
  go_wp2_with (first | (go_at_call 64; refine HU.out.mono ?_; rintro e w1 ⟨rfl, hr1, hg1⟩) | (go_at_call 99; refine (unturn_any V _ hlt.out).mono ?_; rintro e w' ⟨rfl, rfl⟩))
  go_ret
  exact ⟨rfl, hr1, hg1⟩
def cV (l : List UInt8) (e : Nat) (most : Int) : Nat := if e = 0 ∧ (cnt l most).2.2 = 0 then (cnt l most).1 else 0
theorem countM_any (g e : Nat) (l : List UInt8) (most : Int) (w : World) (h : Rdr w g l e) (hm : most ≤ 9223372036854775807) :
    Calls Try.prog 67 #[.pointer (some ⟨g, 0, none⟩), .int .i64 most] w fun x w' => x = .returned (.int .i64 (cV l e most)) ∧ Rdr w' g (tkL l e (cnt l most).2.1 (cnt l most).2.2) (tkE e (cnt l most).2.2) ∧ w.grownBy w' (some g) := by
  have h0 := h
  obtain ⟨A, n, c, hk, hr, h1, h2, h3⟩ := h
  have c0 := hk.cell 0
  simp only [List.getElem?_toArray, List.getElem?_cons_zero, List.getElem?_cons_succ] at c0
  have hb := cnt_bounds l most
  have HT := hide (take_any g (cnt l most).2.1 e (cnt l most).2.2 l w h0 (fun _ _ => by omega))
  have HF := hide (count_any A n c l most w (hr.more (Nat.le_of_lt hk.lt)) h3 hm)
  have HV := hide (show cV l e most = if e = 0 ∧ (cnt l most).2.2 = 0 then (cnt l most).1 else 0 from rfl)
  clear hb hk hr h0 hm
  generalize cV l e most = V at HV
  generalize cnt l most = d at *
  obtain ⟨u, s, er⟩ := d
  simp only at HT HF HV ⊢
  generalize hq : decide (e = 0 ∧ er = 0) = q at HT
  have HQ := hide hq
  clear hq
  cases q with
  | true =>
    have hv := HV.out
    rw [if_pos (of_decide_eq_true HQ.out)] at hv
    rw [hv]
    clear hv
    go_enter Try.func67, Try.ntmps67
    go_wp2_with (first | (go_at_call 100; refine HF.out.mono ?_; rintro e w' ⟨rfl, rfl⟩) | (go_at_call 98; refine HT.out.mono ?_; rintro e w1 ⟨rfl, hr1, hg1⟩))
    go_ret
    exact ⟨rfl, hr1, hg1⟩
  | false =>
    have hv := HV.out
    rw [if_neg (of_decide_eq_false HQ.out)] at hv
    rw [hv]
    clear hv
    go_enter Try.func67, Try.ntmps67
    go_wp2_with (first | (go_at_call 100; refine HF.out.mono ?_; rintro e w' ⟨rfl, rfl⟩) | (go_at_call 98; refine HT.out.mono ?_; rintro e w1 ⟨rfl, hr1, hg1⟩))
    go_ret
    exact ⟨rfl, hr1, hg1⟩
def endE (l : List UInt8) (e : Nat) : Nat := if l = [] then e else tkE e 10
theorem end_any (g e : Nat) (l : List UInt8) (w : World) (h : Rdr w g l e) :
    Calls Try.prog 68 #[.pointer (some ⟨g, 0, none⟩)] w fun x w' => x = .returned (.int .i64 (endE l e)) ∧ Rdr w' g l (endE l e) ∧ w.grownBy w' (some g) := by
  have h0 := h
  obtain ⟨A, n, c, hk, hr, h1, h2, h3⟩ := h
  have c0 := hk.cell 0
  have c1 := hk.cell 1
  simp only [List.getElem?_toArray, List.getElem?_cons_zero, List.getElem?_cons_succ] at c0 c1
  have hlen := RdB.len hr
  by_cases hn : 0 < n
  · have he : endE l e = tkE e 10 := by unfold endE; rw [if_neg]; intro hh; subst hh; simp at hlen; omega
    rw [he]
    have HT := hide (take_any g 0 e 10 l w h0 (fun _ _ => by omega))
    have hL : tkL l e 0 10 = l := by unfold tkL; split <;> simp
    rw [hL] at HT
    clear hlen hk hr h0 he hL
    go_enter Try.func68, Try.ntmps68
    go_wp2_with (go_at_call 98; refine HT.out.mono ?_; rintro e w1 ⟨rfl, hr1, hg1⟩; obtain ⟨A1, n1, cc, hk1, hr2, _⟩ := id hr1; have d1 := hk1.cell 1; simp only [List.getElem?_toArray, List.getElem?_cons_zero, List.getElem?_cons_succ] at d1; clear hk1 hr2)
    go_ret
    exact ⟨rfl, hr1, hg1⟩
  · have he : endE l e = e := by unfold endE; rw [if_pos (List.eq_nil_of_length_eq_zero (by omega))]
    rw [he]
    clear hlen hk hr he
    go_enter Try.func68, Try.ntmps68
    go_wp2
    go_ret
    exact ⟨rfl, h0, World.grownBy.refl _ _⟩
end Go.Proofs.Ytbjmdnemeidpjaa
/- append of a string's bytes onto an owned slice; a slice of strings that is read; bytes as a string. No program is named here. -/
namespace Go.Proofs.Ytbjmdnemeidpjaa
set_option linter.unusedSimpArgs false
set_option linter.unusedVariables false
open Go.RowKit

theorem strCells_bv (s : ByteArray) : Lib.strCells s = s.data.toList.map bv := rfl
theorem size_toList (s : ByteArray) : s.data.toList.length = s.size := by rw [Array.length_toList]; rfl

section
variable {P : Program} (w : World)
theorem run_append_room_str (t u ty e : TypeId) (i : TypeInfo) (ht : P.underlying t = some (.slice e)) (hu : P.underlying u = some .string) (hi : P.info? e = some i) (hs1 : i.size = 1)
    (b off sLen sCap : Nat) (s : ByteArray) (hroom : sLen + s.size ≤ sCap)
    (hc : ∀ j, j < s.size → (w.cell? ⟨b, off + sLen + j, none⟩).isSome = true) (hf : ∀ j, j < s.size → w.frozen? ⟨b, off + sLen + j, none⟩ = false) :
    (Builtin.append_ #[t, u] ty #[.slice (some ⟨b, off, none⟩) sLen sCap, .string s]).run P w = .ok (.slice (some ⟨b, off, none⟩) (sLen + s.size) sCap) (w.setCells b (off + sLen) (Lib.strCells s)) := by
  have hfc := Lib.run_firstCells_string (P := P) w 1 s
  have hst := run_storeCells_cells (P := P) b (off + sLen) (Lib.strCells s) 0 w (by simpa [Lib.strCells_length] using hc) (by simpa [Lib.strCells_length] using hf) (Lib.strCells_oneCell s)
  simp only [Nat.add_zero] at hst
  simp [Builtin.append_, run_underlying ht, run_underlying hu, sizeOf, typeInfo, hi, hs1, Builtin.lenOf, hroom, hfc, Addr.add_lit, hst]

theorem run_append_ow_str (lo : Nat) (t u ty e : TypeId) (i : TypeInfo) (ht : P.underlying t = some (.slice e)) (hu : P.underlying u = some .string) (hi : P.info? e = some i) (hz : i.zero = some (.int .u8 0))
    (hsize : i.size = 1) (hby : i.bytes = 1)
    (v : Value) (n : Nat) (xs : List Value) (hown : Ow w lo e 1 v n xs) (s : ByteArray)
    (h63 : n + s.size ≤ maxLen) (hbytes : n + s.size ≤ 140737488355328) (hbase : lo ≤ w.heap.size) :
    ∃ v' w', (Builtin.append_ #[t, u] ty #[v, .string s]).run P w = .ok v' w' ∧ Ow w' lo e 1 v' (n + s.size) (xs ++ s.data.toList.map bv) ∧ w.grownBy w' v.ownBlock := by
  have hxl : xs.length = n := by simpa using hown.1
  have grow : ∀ (a0 : Addr) (cap : Nat), v = .slice (some a0) n cap → cap < n + s.size → (∀ j u, xs[j]? = some u → w.cell? (a0.add j) = some u) →
      ∃ v' w', (Builtin.append_ #[t, u] ty #[v, .string s]).run P w = .ok v' w' ∧ Ow w' lo e 1 v' (n + s.size) (xs ++ s.data.toList.map bv) ∧ w.grownBy w' v.ownBlock := by
    rintro a0 cap rfl hfull hcell0
    have hr := Lib.run_append_grow_string (P := P) w t u ty e i (.int .u8 0) ht hu hi hz a0 n cap xs (by rw [hsize, Nat.mul_one]; exact hxl) hcell0 s hfull (by simp only [maxLen] at h63; omega) (by rw [hby]; exact growslice_fits hfull (by omega))
    have hge := grownCap_ge w (n + s.size) cap e
    have hcm := grownCap_le_maxLen w (n + s.size) cap e h63
    refine ⟨_, _, hr, Ow.of_own ⟨by rw [List.length_append, hxl, List.length_map, size_toList, Nat.mul_one], .inr ⟨w.heap.size, _, _, rfl, hbase, heap_alloc_new w.drew _, hge, hcm, ?_, ?_⟩⟩, ⟨rfl, rfl, rfl, by simp, fun k hk _ => heap_alloc_old w.drew _ hk⟩⟩
    · have hzs : (Value.int IntKind.u8 0).cells.size = 1 := rfl
      simp only [Array.size_append, List.size_toArray, size_zeroCells, Lib.strCells_length, hxl, hzs, Nat.mul_one]
      omega
    · simp only [Array.toList_append, List.append_assoc]
      rw [← List.append_assoc]
      have : (xs ++ Lib.strCells s).length = (n + s.size) * 1 := by rw [List.length_append, hxl, Lib.strCells_length, Nat.mul_one]
      rw [← this]
      exact List.take_left
  rcases hown.2 with ⟨rfl, rfl⟩ | ⟨a0, rfl, hlo, rfl⟩ | ⟨g, off, cap, rfl, hlo, hlt, hnc, hcm, hroom, hx⟩
  · obtain rfl : xs = [] := hown.nil_of
    obtain ⟨v', w', hr, h2, h3, h4⟩ := Lib.run_append_own_string (P := P) w lo t u ty e i ht hu hi hz hsize hby (.slice none 0 0) 0 [] (World.ownsRow_nil w _ e 1) s h63 hbytes hbase
    exact ⟨v', w', hr, Ow.of_own h2, h3⟩
  · obtain rfl : xs = [] := hown.nil_of
    by_cases hs0 : s.size = 0
    · have hnil : s.data.toList = [] := List.eq_nil_of_length_eq_zero (by rw [size_toList]; exact hs0)
      obtain ⟨⟩ | _ := Nat.eq_zero_or_pos s.size
      all_goals
        refine ⟨.slice (some a0) 0 0, w, ?_, by simpa [hs0, hnil] using hown, World.grownBy.refl w _⟩
        have hfc := Lib.run_firstCells_string (P := P) w 1 s
        have hsc : Lib.strCells s = [] := by rw [strCells_bv, hnil]; rfl
        rw [hsc] at hfc
        simp [Builtin.append_, run_underlying ht, run_underlying hu, sizeOf, typeInfo, hi, hsize, Builtin.lenOf, hs0]
        rw [hs0] at hfc
        simp [hfc, storeCells]
    · exact grow a0 0 rfl (by omega) (by intro j u hu; simp at hu)
  · by_cases hfit : n + s.size ≤ cap
    · have hrun := run_append_room_str (P := P) w t u ty e i ht hu hi hsize g off n cap s hfit
        (fun j hj => by rw [Nat.add_assoc]; exact (hroom _ (by omega)).1) (fun j hj => by rw [Nat.add_assoc]; exact (hroom _ (by omega)).2)
      have hsl := Lib.strCells_length s
      refine ⟨_, _, hrun, ⟨by rw [List.length_append, hxl, List.length_map, size_toList, Nat.mul_one], .inr (.inr ⟨g, off, cap, rfl, hlo, by rw [setCells_size]; exact hlt, hfit, hcm, fun j hj => ?_, fun j hj => ?_⟩)⟩, setCells_grown g _ _ w⟩
      · rw [World.frozen?_setCells]
        refine ⟨?_, (hroom j hj).2⟩
        by_cases hin : n ≤ j ∧ j < n + s.size
        · have h := World.cell?_setCells_in g (Lib.strCells s) (off + n) w (fun q hq => by rw [Nat.add_assoc]; exact (hroom _ (by omega)).1) (j - n) (by omega)
          rw [show off + n + (j - n) = off + j by omega] at h
          rw [h]; rfl
        · rw [World.cell?_setCells_out g (Lib.strCells s) (off + n) w _ (fun _ _ => by simp only; omega)]
          exact (hroom j hj).1
      · have hj : j < (xs ++ Lib.strCells s).length := hj
        show _ = some (xs ++ Lib.strCells s)[j]
        rw [List.length_append] at hj
        by_cases hin : j < xs.length
        · rw [World.cell?_setCells_out g (Lib.strCells s) (off + n) w _ (fun _ _ => by simp only; omega), List.getElem_append_left hin]
          exact hx j hin
        · have h := World.cell?_setCells_in g (Lib.strCells s) (off + n) w (fun q hq => by rw [Nat.add_assoc]; exact (hroom _ (by omega)).1) (j - xs.length) (by omega)
          rw [show off + n + (j - xs.length) = off + j by omega] at h
          rw [h, List.getElem_append_right (by omega)]
    · exact grow ⟨g, off, none⟩ cap rfl (by omega) (fun j u hu => by
        obtain ⟨hj, hu⟩ := List.getElem?_eq_some_iff.1 hu
        rw [Addr.add_lit, hx j hj, hu])

theorem wpList_append_ow_str {ops : Array Oper} {rest : List Oper} {o : Oper} {a : Act} {Q : Exit → Act → World → Prop} (hgd : o.guard = none) (sl x : Operand) (t u : TypeId)
    (ho : o.op = .call { callee := .builtin .append, args := #[sl, x], argTypes := #[t, u] })
    (lo : Nat) (e : TypeId) (i : TypeInfo) (ht : P.underlying t = some (.slice e)) (hu : P.underlying u = some .string) (hi : P.info? e = some i) (hz : i.zero = some (.int .u8 0))
    (hsize : i.size = 1) (hby : i.bytes = 1)
    (v : Value) (n : Nat) (xs : List Value) (hs : a.eval sl = v) (hown : Ow w lo e 1 v n xs) (s : ByteArray) (hx : a.eval x = .string s)
    (h63 : n + s.size ≤ maxLen) (hbytes : n + s.size ≤ 140737488355328) (hbase : lo ≤ w.heap.size)
    (h : ∀ v' w', Ow w' lo e 1 v' (n + s.size) (xs ++ s.data.toList.map bv) → w.grownBy w' v.ownBlock → wpList P ops Q rest (a.put o.dst v') w') : wpList P ops Q (o :: rest) a w := by
  refine wpList_plain hgd fun K hK => ?_
  obtain ⟨v', w', hr, h2, h3⟩ := run_append_ow_str (P := P) w lo t u o.type e i ht hu hi hz hsize hby v n xs hown s h63 hbytes hbase
  unfold Oper.wp execOp
  simp only [ho, resolve, invoke, builtin, Sem.run_bind, Sem.run_pure, Result.andThen_ok, List.map_toArray, List.map_cons, List.map_nil, hs, hx, hr]
  exact hK _ _ (h v' w' h2 h3)
end
end Go.Proofs.Ytbjmdnemeidpjaa
/- code.Uints, code.Ints, code.Texts, code.New, (*Reader).Text. -/
namespace Go.Proofs.Ytbjmdnemeidpjaa
open Go.RowKit
set_option linter.unusedVariables false
set_option linter.unusedSimpArgs false

def u64v (x : Nat) : Value := .int .u64 (x : Int)
def strv (s : ByteArray) : Value := .string s
def encs (l : List Nat) : List UInt8 := (l.map enc).flatten
theorem encs_snoc (l : List Nat) (k : Nat) (x : Nat) (h : l[k]? = some x) : encs (l.take (k + 1)) = encs (l.take k) ++ enc x := by
  unfold encs
  rw [List.take_add_one, h]; simp
theorem encs_len (l : List Nat) : (encs l).length ≤ 10 * l.length := by
  unfold encs
  induction l with
  | nil => simp
  | cons x l ih =>
    simp only [List.map_cons, List.flatten_cons, List.length_append, List.length_cons]
    have h : (enc x).length ≤ 10 := (encF_len 9 x).2
    omega
set_option maxRecDepth 100000 in
theorem uints_any (A : Option Addr) (n c : Nat) (l : List Nat) (w : World) (hr : Rd w w.heap.size 1 A n (l.map u64v)) (hn : n ≤ 65536) (hl : ∀ x ∈ l, x < 18446744073709551616) :
    Calls Try.prog 70 #[.slice A n c] w fun e w' => ∃ v, e = .returned v ∧ Ow w' w.heap.size 5 1 v (encs l).length ((encs l).map bv) ∧ Below w.heap.size w w' := by
  have hlen := hr.len
  have HL := hide hl
  have HLEN := hide hlen
  clear hl hlen
  go_enter Try.func70, Try.ntmps70
  go_wp2
  go_loopw [3, 5, 8] (fun v _ i wr => ∃ k m : Nat, k ≤ n ∧ i = .int .i64 k ∧ m ≤ 10 * k ∧ Ow wr w.heap.size 5 1 v m ((encs (l.take k)).map bv) ∧ Below w.heap.size w wr) (fun _ _ i _ => n - (intOf i).toNat)
  case atStart => exact ⟨0, 0, Nat.zero_le _, rfl, by omega, Ow.nil _ _ _ _, Below.refl _ _⟩
  case round =>
    obtain ⟨k, m, hk, rfl, hm, own, hb⟩ := hrel
    by_cases hk1 : k < n
    · obtain ⟨b, off, rfl, hbb, x, hx, hc⟩ := hr.get hk1
      have hc' := (hb.cell (p := ⟨b, off + k, none⟩) hbb).trans hc
      unfold u64v at hc'
      have HX := hide hx
      have HXL := hide (HL.out x (List.mem_of_getElem? hx))
      have hel := (encF_len 9 x).2
      clear hx hc
      go_wp2_with (go_at_call 101; refine (put_any _ m _ x w.heap.size _ own hb.size HXL.out (by omega)).mono ?_; rintro e w1 ⟨v1, rfl, own1, hb1⟩)
      go_roundw
      case rel => exact ⟨k + 1, m + (enc x).length, by omega, by go_num, by unfold enc; omega, by rw [encs_snoc l k x HX.out]; exact own1, hb.trans hb1⟩
      case measure => simp [intOf]; omega
    · go_wp2
      go_ret
      have ht : l.take k = l := List.take_of_length_le (by have := HLEN.out; omega)
      rw [ht] at own
      have hm : m = (encs l).length := by have := own.1; simpa using this.symm
      rw [hm] at own
      exact ⟨_, rfl, own, hb⟩
set_option maxRecDepth 100000 in
theorem ints_any (A : Option Addr) (n c : Nat) (l : List Int) (w : World) (hr : Rd w w.heap.size 1 A n (l.map i64v)) (hn : n ≤ 65536) (hl : ∀ x ∈ l, -9223372036854775808 ≤ x ∧ x ≤ 9223372036854775807) :
    Calls Try.prog 71 #[.slice A n c] w fun e w' => ∃ v, e = .returned v ∧ Ow w' w.heap.size 5 1 v (encs (l.map turnN)).length ((encs (l.map turnN)).map bv) ∧ Below w.heap.size w w' := by
  have hlen := hr.len
  have HL := hide hl
  have HLEN := hide hlen
  clear hl hlen
  go_enter Try.func71, Try.ntmps71
  go_wp2
  go_loopw [3, 5, 8] (fun v _ i wr => ∃ k m : Nat, k ≤ n ∧ i = .int .i64 k ∧ m ≤ 10 * k ∧ Ow wr w.heap.size 5 1 v m ((encs ((l.map turnN).take k)).map bv) ∧ Below w.heap.size w wr) (fun _ _ i _ => n - (intOf i).toNat)
  case atStart => exact ⟨0, 0, Nat.zero_le _, rfl, by omega, Ow.nil _ _ _ _, Below.refl _ _⟩
  case round =>
    obtain ⟨k, m, hk, rfl, hm, own, hb⟩ := hrel
    by_cases hk1 : k < n
    · obtain ⟨b, off, rfl, hbb, x, hx, hc⟩ := hr.get hk1
      have hc' := (hb.cell (p := ⟨b, off + k, none⟩) hbb).trans hc
      unfold i64v at hc'
      have HX := hide hx
      have HXL := hide (HL.out x (List.mem_of_getElem? hx))
      have HTL := hide (turnN_lt x HXL.out.1 HXL.out.2)
      have hel := (encF_len 9 (turnN x)).2
      clear hx hc
      go_wp2_with (first | (go_at_call 102; refine (turn_any x _ HXL.out.1 HXL.out.2).mono ?_; rintro e w' ⟨rfl, rfl⟩) | (go_at_call 101; refine (put_any _ m _ (turnN x) w.heap.size _ own hb.size HTL.out (by omega)).mono ?_; rintro e w1 ⟨v1, rfl, own1, hb1⟩))
      go_roundw
      case rel => exact ⟨k + 1, m + (enc (turnN x)).length, by omega, by go_num, by unfold enc; omega, by rw [encs_snoc (l.map turnN) k (turnN x) (by rw [List.getElem?_map, HX.out]; rfl)]; exact own1, hb.trans hb1⟩
      case measure => simp [intOf]; omega
    · go_wp2
      go_ret
      have ht : (l.map turnN).take k = l.map turnN := List.take_of_length_le (by have := HLEN.out; simp; omega)
      rw [ht] at own
      have hm : m = (encs (l.map turnN)).length := by have := own.1; simpa using this.symm
      rw [hm] at own
      exact ⟨_, rfl, own, hb⟩

/-- The bytes of a text. -/
def encT (s : ByteArray) : List UInt8 := enc s.size ++ s.data.toList
def encTs (l : List ByteArray) : List UInt8 := (l.map encT).flatten
theorem encTs_snoc (l : List ByteArray) (k : Nat) (x : ByteArray) (h : l[k]? = some x) : encTs (l.take (k + 1)) = encTs (l.take k) ++ encT x := by
  unfold encTs
  rw [List.take_add_one, h]; simp
theorem encT_len (s : ByteArray) : (encT s).length ≤ 10 + s.size := by
  unfold encT enc
  have := (encF_len 9 s.size).2
  rw [List.length_append, size_toList]
  omega
set_option maxRecDepth 100000 in
theorem texts_any (A : Option Addr) (n c q : Nat) (l : List ByteArray) (w : World) (hr : Rd w w.heap.size 1 A n (l.map strv)) (hn : n ≤ 65536) (hl : ∀ x ∈ l, x.size ≤ 65536) :
    Calls Try.prog 72 #[.slice A n c] w fun e w' => ∃ v, e = .returned v ∧ Ow w' w.heap.size 5 1 v (encTs l).length ((encTs l).map bv) ∧ Below w.heap.size w w' := by
  obtain ⟨i0, hi0, hz0, hz1, hz2⟩ := info_parts Try.info8
  have hlen := hr.len
  have HL := hide hl
  have HLEN := hide hlen
  clear hl hlen
  go_enter Try.func72, Try.ntmps72
  go_wp2
  go_loopw [3, 5, 8] (fun v _ i wr => ∃ k m : Nat, k ≤ n ∧ i = .int .i64 k ∧ m ≤ 65546 * k ∧ Ow wr w.heap.size 5 1 v m ((encTs (l.take k)).map bv) ∧ Below w.heap.size w wr) (fun _ _ i _ => n - (intOf i).toNat)
  case atStart => exact ⟨0, 0, Nat.zero_le _, rfl, by omega, Ow.nil _ _ _ _, Below.refl _ _⟩
  case round =>
    obtain ⟨k, m, hk, rfl, hm, own, hb⟩ := hrel
    by_cases hk1 : k < n
    · obtain ⟨b, off, rfl, hbb, x, hx, hc⟩ := hr.get hk1
      have hc' := (hb.cell (p := ⟨b, off + k, none⟩) hbb).trans hc
      unfold strv at hc'
      have HX := hide hx
      have hxl := HL.out x (List.mem_of_getElem? hx)
      have hel := (encF_len 9 x.size).2
      have HEL := hide (show (enc x.size).length ≤ 10 from hel)
      have hw : IntKind.u64.wrap (x.size : Int) = x.size := by rw [u64_wrap]; omega
      clear hx hc hel
      go_wp2_with (first
        | (go_at_call 101; refine (put_any _ m _ x.size w.heap.size _ own hb.size (by omega) (by omega)).mono ?_; rintro e w1 ⟨v1, rfl, own1, hb1⟩)
        | (at_builtin; refine wpList_append_ow_str _ rfl (.tmp 16) (.tmp 17) _ _ rfl w.heap.size 5 i0 Try.underlying67 Try.underlying9 hi0 hz0 hz1 hz2 v1 _ _ rfl own1 x rfl (by have := HEL.out; simp only [maxLen]; omega) (by have := HEL.out; omega) (by have := hb1.size; have := hb.size; omega) ?_; intro v2 w2 own2 hg2))
      go_roundw
      case rel =>
        refine ⟨k + 1, m + (enc x.size).length + x.size, by omega, by go_num, by have := HEL.out; omega, ?_, (hb.trans hb1).grown hg2 (by have := hb1.size; have := hb.size; omega) (fun q hq => own1.lt q hq)⟩
        rw [encTs_snoc l k x HX.out, encT, ← List.append_assoc, List.map_append]
        exact own2
      case measure => simp [intOf]; omega
    · go_wp2
      go_ret
      have ht : l.take k = l := List.take_of_length_le (by have := HLEN.out; omega)
      rw [ht] at own
      have hm : m = (encTs l).length := by have := own.1; simpa using this.symm
      rw [hm] at own
      exact ⟨_, rfl, own, hb⟩
/-! ### New, Text -/
theorem newR_any (A : Option Addr) (n c : Nat) (l : List UInt8) (w : World) (hr : RdB w w.heap.size A n l) (hn : n ≤ 140737488351232) :
    Calls Try.prog 63 #[.slice A n c] w fun e w' => ∃ g, e = .returned (.pointer (some ⟨g, 0, none⟩)) ∧ w.heap.size ≤ g ∧ Rdr w' g l 0 ∧ Below w.heap.size w w' := by
  go_enter Try.func63, Try.ntmps63
  go_wp2_with (go_at_call 96; refine (clone_any A n c l _ hr hn).mono ?_; rintro e w1 ⟨v1, rfl, own1, hb1⟩; obtain ⟨A1, c1, rfl, hc1, hm1, r1⟩ := own1.form; clear own1)
  go_ret
  have hsz := hb1.size
  refine ⟨w1.heap.size, rfl, hsz, ⟨A1, n, c1, Blk.new _ _ _, r1.alloc (Nat.le_refl _) _, hc1, hm1, hn⟩, hb1.alloc hsz _⟩
def tE (l : List UInt8) (most : Int) : Nat := if (cnt l most).2.2 = 0 ∧ l.length - (cnt l most).2.1 < (cnt l most).1 then 15 else (cnt l most).2.2
def tV (l : List UInt8) (e : Nat) (most : Int) : List UInt8 := if e = 0 ∧ tE l most = 0 then (l.drop (cnt l most).2.1).take (cnt l most).1 else []
theorem string_any (w : World) (A : Option Addr) (n c : Nat) (l : List UInt8) {B : Nat} (h : RdB w B A n l) : (convert 67 9 (.slice A n c)).run Try.prog w = .ok (.string ⟨l.toArray⟩) w := by
  have hl := RdB.len h
  subst hl
  cases A with
  | none =>
    have h0 : l = [] := by
      rcases Nat.eq_zero_or_pos l.length with h1 | h1
      · exact List.eq_nil_of_length_eq_zero h1
      · obtain ⟨_, _, h2, _⟩ := h.at_ h1
        cases h2
    subst h0
    exact Lib.run_convert_nil_bytes w _ _ _ c Try.underlying67 Try.underlying5 Try.underlying9
  | some a =>
    refine run_convert_bytes_back w _ _ _ a c l Try.underlying67 Try.underlying5 Try.underlying9 (fun j hj => ?_)
    obtain ⟨b, off, e, _, hc⟩ := RdB.cell h hj
    injection e with e
    subst e
    rw [Addr.add_lit, hc]
set_option maxHeartbeats 1000000 in
set_option maxRecDepth 100000 in
theorem text_any (g e : Nat) (l : List UInt8) (most : Int) (w : World) (h : Rdr w g l e) (hm : most ≤ 9223372036854775807) :
    Calls Try.prog 66 #[.pointer (some ⟨g, 0, none⟩), .int .i64 most] w fun x w' => x = .returned (.string ⟨(tV l e most).toArray⟩) ∧ Rdr w' g (tkL l e ((cnt l most).2.1 + (cnt l most).1) (tE l most)) (tkE e (tE l most)) ∧ w.grownBy w' (some g) := by
  have h0 := h
  obtain ⟨A, n, c, hk, hr, h1, h2, h3⟩ := h
  have c0 := hk.cell 0
  simp only [List.getElem?_toArray, List.getElem?_cons_zero, List.getElem?_cons_succ] at c0
  have hlen := RdB.len hr
  have hb := cnt_bounds l most
  have hsz : e = 0 → tE l most = 0 → (cnt l most).2.1 + (cnt l most).1 ≤ l.length := by
    intro _ hte
    unfold tE at hte
    split at hte
    · omega
    · omega
  have HT := hide (fun h1 h2 => take_any g ((cnt l most).2.1 + (cnt l most).1) e (tE l most) l w h0 (fun _ _ => hsz h1 h2))
  have HB := hide (fun (z : Int) (hne : ¬ (e = 0 ∧ tE l most = 0)) => take_bad g e (tE l most) z l w h0 hne)
  have HF := hide (count_any A n c l most w (hr.more (Nat.le_of_lt hk.lt)) h3 hm)
  have HV := hide (show tV l e most = if e = 0 ∧ tE l most = 0 then (l.drop (cnt l most).2.1).take (cnt l most).1 else [] from rfl)
  have HTE := hide (show tE l most = if (cnt l most).2.2 = 0 ∧ l.length - (cnt l most).2.1 < (cnt l most).1 then 15 else (cnt l most).2.2 from rfl)
  have HR := hide hr
  have HSZ := hide hsz
  have HLEN := hide hlen
  have hglt := hk.lt
  clear hk h0 hm hr hsz hlen
  generalize tV l e most = V at HV ⊢
  generalize tE l most = te at *
  generalize cnt l most = d at *
  obtain ⟨u, s, er⟩ := d
  simp only at HT HF HV HTE HSZ hb ⊢
  obtain ⟨_, hs0, hs1, her⟩ := hb
  have hsn : s ≤ n := by have := HLEN.out; omega
  clear hs0
  have hm2 := h2
  unfold maxLen at h2
  by_cases h0 : er = 0
  · have b0 : ((er : Int) == 0) = true := by rw [h0]; rfl
    have H0 := hide h0
    clear h0 her
    by_cases hu : n - s < u
    · have hte : te = 15 := by rw [HTE.out, if_pos ⟨H0.out, by rw [HLEN.out]; exact hu⟩]
      subst hte
      have hv : V = [] := by rw [HV.out, if_neg (by omega)]
      subst hv
      have hu2 : (n : Int) - (s : Int) < (u : Int) := by omega
      have HL : ∀ z : Nat, tkL l e z 15 = l := fun z => if_neg (by omega)
      rw [HL]
      have HLL := hide HL
      clear HL hu
      go_enter Try.func66, Try.ntmps66
      go_wp2_with fail
      refine HF.out.mono ?_
      rintro e1 w' ⟨rfl, rfl⟩
      go_wp2_with fail
      refine (HB.out _ (by omega)).mono ?_
      rintro e1 w1 ⟨rfl, hr1, hg1⟩
      rw [HLL.out] at hr1
      rw [decide_eq_false (by omega)]
      go_wp2_with fail
      go_ret
      exact ⟨rfl, hr1, hg1⟩
    · have hte : te = er := by rw [HTE.out, if_neg (by rw [HLEN.out]; intro h; exact hu h.2)]
      subst hte
      have hu2 : (u : Int) ≤ (n : Int) - (s : Int) := by omega
      have hsu : s + u ≤ n := by omega
      clear hu
      by_cases he : e = 0
      · have hv : V = (l.drop s).take u := by rw [HV.out, if_pos ⟨he, H0.out⟩]
        subst hv
        have ht2 := HT.out he H0.out
        rw [show ((s + u : Nat) : Int) = (s : Int) + (u : Int) from by omega] at ht2
        have HT2 := hide ht2
        clear ht2
        have HE := hide he
        have hstr : ∀ w1 : World, w.grownBy w1 (some g) → (convert 67 9 (.slice (if c = s then A else A.map (·.add (s * 1))) u (c - s))).run Try.prog w1 = .ok (.string ⟨((l.drop s).take u).toArray⟩) w1 := by
          intro w1 hg
          have hc1 := HR.out.cut (k := s) (cap := c) hsn h1
          have hc2 := hc1.take (k := u) (by omega)
          rw [Nat.mul_one, Nat.mul_one, ← List.map_drop, ← List.map_take] at hc2
          rw [Nat.mul_one]
          exact string_any w1 _ u (c - s) _ (hc2.grown hg (Nat.le_of_lt hglt) (fun q hq => by cases hq; exact Nat.le_refl _))
        clear he HV HTE HB
        have hneg : ¬ (s + u : Int) < 0 := by omega
        by_cases hcs : c = s
        · have HCS := hide hcs
          have hcd : (c = s) = True := by simp [HCS.out]
          simp only [if_pos hcs] at hstr
          have HSTR := hide hstr
          clear hcs hstr
          go_enter Try.func66, Try.ntmps66
          go_wp2_with fail
          refine HF.out.mono ?_
          rintro e1 w' ⟨rfl, rfl⟩
          go_wp2_with fail
          refine HT2.out.mono ?_
          rintro e1 w1 ⟨rfl, hr1, hg1⟩
          rw [decide_eq_true ⟨HE.out, H0.out⟩]
          have hs1 := HSTR.out w1 hg1
          go_wp2_with fail
          go_ret
          exact ⟨rfl, hr1, hg1⟩
        · simp only [if_neg hcs, Nat.mul_one] at hstr
          have HSTR := hide hstr
          clear hstr
          go_enter Try.func66, Try.ntmps66
          go_wp2_with fail
          refine HF.out.mono ?_
          rintro e1 w' ⟨rfl, rfl⟩
          go_wp2_with fail
          refine HT2.out.mono ?_
          rintro e1 w1 ⟨rfl, hr1, hg1⟩
          rw [decide_eq_true ⟨HE.out, H0.out⟩]
          have hs1 := HSTR.out w1 hg1
          go_wp2_with fail
          go_ret
          exact ⟨rfl, hr1, hg1⟩
      · have hv : V = [] := by rw [HV.out, if_neg (fun h => he h.1)]
        subst hv
        have HL : tkL l e (s + u) te = l := if_neg (fun h => he h.1)
        have HB2 := hide (HB.out ((s : Int) + u) (fun h => he h.1))
        have hde : decide (e = 0 ∧ te = 0) = false := decide_eq_false (fun h => he h.1)
        have HDE := hide hde
        have hz : ((s : Int) + u).toNat = s + u := by omega
        have HZ := hide hz
        clear hde hz he
        rw [HL]
        have HLL := hide HL
        clear HL
        go_enter Try.func66, Try.ntmps66
        go_wp2_with fail
        refine HF.out.mono ?_
        rintro e1 w' ⟨rfl, rfl⟩
        go_wp2_with fail
        refine HB2.out.mono ?_
        rintro e1 w1 ⟨rfl, hr1, hg1⟩
        rw [HZ.out, HLL.out] at hr1
        rw [HDE.out]
        go_wp2_with fail
        go_ret
        exact ⟨rfl, hr1, hg1⟩
  · have b0 : ((er : Int) == 0) = false := by simp; omega
    have hte : te = er := by rw [HTE.out, if_neg (fun h => h0 h.1)]
    subst hte
    have hv : V = [] := by rw [HV.out, if_neg (fun h => h0 h.2)]
    subst hv
    have HL : ∀ z : Nat, tkL l e z te = l := fun z => if_neg (fun h => h0 h.2)
    rw [HL]
    have HLL := hide HL
    have hde : decide (e = 0 ∧ te = 0) = false := decide_eq_false (fun h => h0 h.2)
    have HDE := hide hde
    have HB2 := hide (fun z => HB.out z (fun h => h0 h.2))
    clear HL hde h0
    go_enter Try.func66, Try.ntmps66
    go_wp2_with fail
    refine HF.out.mono ?_
    rintro e1 w' ⟨rfl, rfl⟩
    go_wp2_with fail
    refine (HB2.out _).mono ?_
    rintro e1 w1 ⟨rfl, hr1, hg1⟩
    rw [HLL.out] at hr1
    rw [HDE.out]
    go_wp2_with fail
    go_ret
    exact ⟨rfl, hr1, hg1⟩
end Go.Proofs.Ytbjmdnemeidpjaa
/- alive answers true. -/
namespace Go.Proofs.Ytbjmdnemeidpjaa
open Go.RowKit
set_option linter.unusedVariables false
set_option linter.unusedSimpArgs false

def k0 : List UInt8 := [172, 2, 5, 1, 97, 9]
def k1 : List UInt8 := [5, 1, 97, 9]
def k2 : List UInt8 := [1, 97, 9]
theorem f0 : uV k0 0 = 300 ∧ tkL k0 0 (dec k0).2.1 (dec k0).2.2 = k1 ∧ tkE 0 (dec k0).2.2 = 0 := by decide +kernel
theorem f1 : unturnZ (uV k1 0) = -3 ∧ tkL k1 0 (dec k1).2.1 (dec k1).2.2 = k2 ∧ tkE 0 (dec k1).2.2 = 0 := by decide +kernel
theorem f2 : tV k2 0 1 = [97] ∧ tkL k2 0 ((cnt k2 1).2.1 + (cnt k2 1).1) (tE k2 1) = [9] ∧ tkE 0 (tE k2 1) = 0 := by decide +kernel
theorem f3 : cV [9] 0 8 = 0 ∧ tkL [9] 0 (cnt [9] 8).2.1 (cnt [9] 8).2.2 = [9] ∧ tkE 0 (cnt [9] 8).2.2 = 17 := by decide +kernel
theorem f4 : endE [9] 17 = 17 := by decide +kernel
theorem f5 : encs [300, 0] = [172, 2, 0] := by decide +kernel
theorem f6 : encs ([-3].map turnN) = [5] := by decide +kernel
def tab : ByteArray := ⟨#[97, 98]⟩
def tnil : ByteArray := ⟨#[]⟩
theorem f7 : encTs [tab, tnil] = [2, 97, 98, 0] := by decide +kernel
theorem f8 : turnN (-3) = 5 ∧ unturnZ 5 = -3 := by decide +kernel
theorem Rd.litv (w : World) (xs : List Value) (e : TypeId) (n : Nat) (hs : xs.length = n) (B : Nat) (hB : B = w.heap.size + 1) : Rd (w.alloc (.cells xs.toArray e)) B 1 (some ⟨w.heap.size, 0, none⟩) n xs := by
  subst hB
  exact Rd.litm w xs.toArray e (0, 0) n 1 (by simpa using hs)

end Go.Proofs.Ytbjmdnemeidpjaa
/- alive of layer 5. -/
namespace Go.Proofs.Ytbjmdnemeidpjaa
open Go.RowKit
attribute [local go_sem] Oper.semAt_some
set_option linter.unusedVariables false
set_option linter.unusedSimpArgs false
def hA : List Int := histL [0, 1, 1, 5]
theorem hA_eq : histL [0, 1, 1, 5] = hA := by rw [hA]
theorem gap4 : (if bIn 4 = true then gv (bLo 4) (bHi 4) else gv 0 0) = gv 4 7 := by kernel_rfl
theorem in4 : bIn 4 = true := by kernel_rfl
theorem gap65 : (if bIn 65 = true then gv (bLo 65) (bHi 65) else gv 0 0) = gv 0 0 := by kernel_rfl
theorem in65 : bIn 65 = false := by kernel_rfl
theorem hA_len : hA.length = 65 := by decide +kernel
theorem hA_at : hA[0]? = some 0 ∧ hA[1]? = some 1 ∧ hA[2]? = some 2 ∧ hA[4]? = some 1 := by decide +kernel
theorem hA_ok : ∀ x ∈ hA, -9223372036854775808 ≤ x ∧ x ≤ 9223372036854775807 := by decide +kernel
theorem hA_full : fullTo hA 65 = [(1, 1), (2, 2), (4, 1)] := by decide +kernel
theorem hA_sum : hA.sum = 4 := by decide +kernel
theorem hA_merge : mergeE [hA, hA] = 0 ∧ (mergeR [hA, hA])[2]? = some 4 ∧ (mergeR [hA, hA]).length = 65 := by decide +kernel
theorem hA_add : addE hA (-9) = 0 ∧ (addL hA (-9))[0]? = some 1 ∧ (addL hA (-9)).length = 65 := by decide +kernel
def hM : List Int := mergeR [hA, hA]
def hN : List Int := addL hA (-9)
theorem hN_len : hN.length = 65 := by decide +kernel
theorem hM_len : hM.length = 65 := by decide +kernel
theorem hA_flat : (flat [hA, hA]).toArray.size = 2 * 65 := by decide +kernel
def wsum (l : List (Nat × Int)) : Int := l.foldl (fun s x => wrap64 (s + wrap64 ((x.1 : Int) * x.2))) 0
theorem wsum_snoc (l : List (Nat × Int)) (x : Nat × Int) : wsum (l ++ [x]) = wrap64 (wsum l + wrap64 ((x.1 : Int) * x.2)) := by unfold wsum; rw [List.foldl_append]; rfl
theorem hA_rank : rankF hA 2 = some 2 := by decide +kernel
theorem b_62 : bkt 4611686018427387904 = 64 := by decide +kernel
theorem wpList_run_value {P : Program} {w w' : World} {ops : Array Oper} {rest : List Oper} {op : Oper} {a : Act} {Q : Exit → Act → World → Prop} (hgd : op.guard = none) (v : Value)
    (hrun : (execOp a.eval op).run P w = .ok (.value v) w') (h : wpList P ops Q rest (a.put op.dst v) w') : wpList P ops Q (op :: rest) a w :=
  wpList_plain hgd fun _ hK => by
    unfold Oper.wp
    rw [hrun]
    exact hK _ _ h
set_option maxRecDepth 100000 in
theorem build_hA (w : World) : (Instr.buildSlice 103 2 #[(0, .agg (hc hA)), (1, .agg (hc hA))]).run Try.prog w = .ok (.slice (some ⟨w.heap.size, 0, none⟩) 2 2) (w.alloc (.cells (flat [hA, hA]).toArray 27)) := by kernel_rfl
theorem execBuild (ρ : Operand → Value) (op : Oper) (t : TypeId) (n : Nat) (x y : Operand) (ho : op.op = .buildSlice t n #[(0, x), (1, y)]) (w w' : World) (v : Value)
    (h : (Instr.buildSlice t n #[(0, ρ x), (1, ρ y)]).run Try.prog w = .ok v w') : (execOp ρ op).run Try.prog w = .ok (.value v) w' := by
  unfold execOp
  simp only [ho]
  simp [Sem.run_bind, h, Result.andThen]
end Go.Proofs.Ytbjmdnemeidpjaa
/- The document's Rank, and Total, Rank and Full of the program. -/
namespace Go.Proofs.Ytbjmdnemeidpjaa
set_option linter.unusedSimpArgs false
set_option linter.unusedVariables false
open Go.RowKit
set_option maxRecDepth 100000
theorem wideZ_hi {hi lo : Int} (h0 : 0 ≤ lo) (h1 : lo < word) : hiZ (wideZ hi lo) = hi ∧ loZ (wideZ hi lo) = lo := by
  unfold hiZ loZ wideZ word at *
  omega
/-- What is left of K behind the first b counts. -/
theorem rank_none {l : List Int} {K : Int} (hok : okH l = true) (hK : 0 ≤ K) (hl : l.length = 65) (h : ∀ b, b < 65 → (l.take (b + 1)).sum ≤ K) : rankF l K = none := by
  unfold rankF
  rw [if_neg (by simp [hok]; omega)]
  rw [List.find?_eq_none]
  intro b hb
  have := h b (List.mem_range.1 hb)
  simp; omega
theorem rank_some {l : List Int} {K : Int} {b : Nat} (hok : okH l = true) (hK : 0 ≤ K) (hb : b < 65) (h1 : ∀ j, j < b → (l.take (j + 1)).sum ≤ K) (h2 : K < (l.take (b + 1)).sum) : rankF l K = some b := by
  unfold rankF
  rw [if_neg (by simp [hok]; omega)]
  rw [List.find?_eq_some_iff_getElem]
  refine ⟨decide_eq_true h2, b, by simpa using hb, by simp, fun j hj => ?_⟩
  have := h1 j hj
  simp; omega
end Go.Proofs.Ytbjmdnemeidpjaa
/- Full: the buckets that are not empty, in order. -/
namespace Go.Proofs.Ytbjmdnemeidpjaa
set_option linter.unusedSimpArgs false
set_option linter.unusedVariables false
open Go.RowKit
set_option maxRecDepth 100000
/-- From the bucket y on the next one that is not empty is b. -/
def NxF (l : List Int) (y b : Nat) (v : Int) (y' : Nat) : Prop := y ≤ b ∧ b < 65 ∧ l[b]? = some v ∧ v ≠ 0 ∧ (∀ j, y ≤ j → j < b → l[j]? = some 0) ∧ y' = b + 1
def FinF (l : List Int) (y : Nat) : Prop := y ≤ 65 ∧ ∀ j, y ≤ j → j < 65 → l[j]? = some 0
theorem sees_row {l : List Int} {Lc : List AObj} {i : Nat} (hi : Lc[i]? = some (.row (hR l))) {us vs : List Value} {ρ0 : Nat → Option Value} {w : World}
    (h : ∃ F ρ H, Env F ρ H w ∧ (∀ (i : Nat) o, Lc[i]? = some o → o.live = true → H i = some o ∧ ∃ h, ρ0 i = some h ∧ ρ i = some h) ∧ RAs w F ρ [] us ∧ RAs w F ρ [.ptr i 0] vs) :
    us = [] ∧ ∃ b t, vs = [.pointer (some ⟨b, 0, none⟩)] ∧ Blk w b t (hc l) := by
  obtain ⟨F, ρ, H, E, ho, h1, h2⟩ := h
  cases h1
  refine ⟨rfl, ?_⟩
  obtain ⟨v, rfl, hv⟩ := h2.one_out
  cases hv with | @ptr _ _ b hρ =>
  obtain ⟨hHi, hh, e1, e2⟩ := ho i _ hi rfl
  obtain ⟨h', e3, ⟨b', t, vs, rfl, hB, hR'⟩, _⟩ := E.rep i _ hHi rfl
  rw [hρ] at e3; injection e3 with e3; injection e3 with e3; injection e3 with e3; injection e3 with e3
  subst e3
  have := (hR_flat l).eq hR'
  have hv : vs = hc l := by
    apply Array.ext'
    rw [this]; rfl
  subst hv
  exact ⟨b, t, rfl, hB⟩
theorem wpListIn_load_blk2 {P : Program} {F : Fence} {n : Nat} {w : World} {ops : Array Oper} {rest : List Oper} {op : Oper} {a : Act} {Q : Exit → Act → World → Prop} (hgd : op.guard = none) (t t' : TypeId) (x : Operand) (ho : op.op = .load t x)
    (b : Nat) (hx : a.eval x = .pointer (some ⟨b, 0, none⟩)) (cs : Array Value) (d : TypeDesc) (hB : Blk w b t' cs)
    (hu : P.underlying t = some d) (hd : d.isRow = true) (hi : (P.info? t).map (·.size) = some cs.size)
    (h : wpListIn F n P ops Q rest (a.put op.dst (.agg cs)) w) : wpListIn F n P ops Q (op :: rest) a w :=
  wpListIn_plain hgd fun _ hK => by
    refine ⟨fun f hf => by simp [Oper.about, ho] at hf, ?_⟩
    rw [Oper.semAt_eq _ _ _ (fun c h => by rw [ho] at h; cases h)]
    unfold execOp
    have hr : (loadVar t ⟨b, 0, none⟩).run P w = .ok (.agg cs) w := run_loadVar_row w b t' t cs (0, 0) d hB hu (by cases d <;> simp_all) hi
    simp only [ho, hx, Instr.loadAt, Instr.sureAddr, Sem.run_bind, Sem.run_pure, Result.andThen_ok, hr]
    exact hK _ _ h
attribute [local go_sem] Oper.semAt_some
set_option maxHeartbeats 1000000 in
theorem fullN {l : List Int} (hl : l.length = 65) {Lc : List AObj} {i : Nat} (hi : Lc[i]? = some (.row (hR l))) :
    IterN Try.prog 80 [] [.ptr i 0] Lc 0 (fun y x y' => ∃ b v, NxF l y b v y' ∧ x = [iA (b : Nat), iA v]) (FinF l) := by
  intro us vs lp ρ0
  refine ⟨fun y vals y' => ∃ b v, NxF l y b v y' ∧ vals = [.int .i64 (b : Nat), .int .i64 v], fun y vals y' h => ?_, ?_⟩
  · obtain ⟨b, v, h, rfl⟩ := h
    exact ⟨_, ⟨b, v, h, rfl⟩, fun w F ρ => .cons (.d (.v _)) (.cons (.d (.v _)) .nil)⟩
  intro J Jx hJ hN hNx hY O w h0
  obtain ⟨rfl, g, t, rfl, hB⟩ := sees_row hi (hJ 0 O w h0).1
  have H9 := hide hl
  have HB := hide hB
  clear hJ hN hNx hB hi
  refine (callsIn_wide (n := 1)).1 (callsIn_of_wp Try.func80 rfl trivial ?_ rfl)
  simp only [Try.ntmps80, List.size_toArray, List.length_cons, List.length_nil, Nat.reduceAdd, Nat.reduceSub, Array.replicate_succ, Array.replicate_zero, List.push_toArray, List.append_toArray, List.nil_append, List.cons_append]
  gi_wp2_with (refine wpListIn_load_blk2 rfl 27 t (.tmp 1) rfl g rfl (hc l) _ HB.out Try.underlying27 rfl (info69l H9.out) ?_)
  gi_loopw [3, 4, 6] (fun _ _ i wr => ∃ (k y : Nat) (O : Nat → Prop), k ≤ 65 ∧ y ≤ k ∧ (∀ j, y ≤ j → j < k → l[j]? = some 0) ∧ i = .int .i64 k ∧ J y O wr) (fun _ _ i _ => 65 - (intOf i).toNat)
  case atStart => exact ⟨0, 0, O, by omega, by omega, fun j h1 h2 => by omega, rfl, h0⟩
  case round =>
    obtain ⟨k, y, O1, hk, hyk, hz, rfl, hJ⟩ := hrel
    have HZ := hide hz
    clear hz
    by_cases hk1 : k < 65
    · obtain ⟨x, hx⟩ : ∃ x, l[k]? = some x := ⟨l[k]'(by have := H9.out; omega), List.getElem?_eq_getElem _⟩
      have hix := fun w => index_h l k x w hk1 hx
      by_cases h0 : x = 0
      · subst h0
        have HX := hide hx
        clear hx
        gi_wp2
        refine ⟨fun _ h => (by cases h), ?_⟩
        gi_wp2
        go_roundw
        case rel => exact ⟨k + 1, y, O1, by omega, by omega, fun j h1 h2 => by
                      rcases Nat.lt_or_ge j k with q | q
                      · exact HZ.out j h1 q
                      · rw [show j = k by omega]; exact HX.out, by go_num, hJ⟩
        case measure => simp [intOf]; omega
      · have hne : (x != 0) = true := by simpa using h0
        have HNx := hide (show NxF l y k x (k + 1) from ⟨hyk, hk1, hx, h0, HZ.out, rfl⟩)
        obtain ⟨fn, tmps, assign, body, hy, hR⟩ := hY y O1 _ _ (k + 1) ⟨k, x, HNx.out, rfl⟩ hJ
        clear hx hJ h0
        gi_wp2
        refine hR.mono ?_
        rintro e W3 ⟨O', hfar, hO', ⟨rfl, hJ3⟩ | ⟨rfl, hJx3⟩⟩
        · clear hR hy hfar
          gi_wp2
          go_roundw
          case rel => exact ⟨k + 1, k + 1, O', by omega, by omega, fun j h1 h2 => by omega, by go_num, hJ3⟩
          case measure => simp [intOf]; omega
        · clear hR hy hfar
          gi_wp2
          refine bodyPost_ret (results_none rfl _ _ _) rfl ?_
          exact ⟨⟨_, rfl⟩, _, .inr hJx3⟩
    · obtain rfl : k = 65 := by omega
      gi_wp2
      go_end0
      exact ⟨⟨_, rfl⟩, O1, .inl ⟨y, ⟨hyk, HZ.out⟩, hJ⟩⟩
end Go.Proofs.Ytbjmdnemeidpjaa
/- HistCounts, its law: every Of, Add and Merge is answered as the document says. -/
namespace Go.Proofs.Ytbjmdnemeidpjaa
set_option linter.unusedSimpArgs false
set_option linter.unusedVariables false
open Go.RowKit
set_option maxRecDepth 100000
theorem eqIn_h (l l' : List Int) (hl : l.length = 65) (hl' : l'.length = 65) (w : World) : (Op.equalIn 10000 27 (.agg (hc l)) (.agg (hc l'))).run Try.prog w = .ok (decide (l = l')) w := by
  obtain ⟨i, hi, _⟩ : ∃ i, Try.prog.info? 2 = some i ∧ True := by
    have : (Try.prog.info? 2).isSome = true := by kernel_rfl
    obtain ⟨i, hi⟩ := Option.isSome_iff_exists.1 this
    exact ⟨i, hi, trivial⟩
  have hc1 : Try.prog.cellsOf 2 = 1 := by kernel_rfl
  rw [run_equalIn_array w 9999 (hc l) (hc l') Try.underlying27 hi, hc1, eqItems_h l l' hl hl' w _ (fun i hi => List.mem_range.1 hi)]
  have : ((List.range 65).all fun i => decide (l[i]? = l'[i]?)) = decide (l = l') := by
    rw [Bool.eq_iff_iff, List.all_eq_true, decide_eq_true_eq]
    refine ⟨fun h => ext65 hl hl' fun b hb => ?_, fun h => by subst h; simp⟩
    have := h b (List.mem_range.2 hb)
    rw [of_decide_eq_true this]
  rw [this]
section
variable {L : List AObj} {ty n : Nat} {x y : Operand} {t' : TypeId}
theorem guardT : Try.prog.eqGuardType Try.prog.depth 27 = false := by kernel_rfl
theorem eqH {l l' : List Int} (hl : l.length = 65) (hl' : l'.length = 65) : Does Try.prog (.binOp .eql 27 x y t') ty L n [.d (hD l), .d (hD l')] e0 (.d (.v (.bool (decide (l = l'))))) :=
  does_ra2 rfl fun o w F ρ ev u v ho h1 h2 hu hv => by
    have := FlatW.eq (.d (hD_flat l)) hu
    subst this
    have := FlatW.eq (.d (hD_flat l')) hv
    subst this
    exact exec_eq ho h1 h2 (run_eqGuard_agg w .eql _ _ _ _ _ guardT) (by rw [run_eql_struct, eqIn_h l l' hl hl']; rfl)
theorem neH {l l' : List Int} (hl : l.length = 65) (hl' : l'.length = 65) : Does Try.prog (.binOp .neq 27 x y t') ty L n [.d (hD l), .d (hD l')] e0 (.d (.v (.bool (!decide (l = l'))))) :=
  does_ra2 rfl fun o w F ρ ev u v ho h1 h2 hu hv => by
    have := FlatW.eq (.d (hD_flat l)) hu
    subst this
    have := FlatW.eq (.d (hD_flat l')) hv
    subst this
    exact exec_eq ho h1 h2 (run_eqGuard_agg w .neq _ _ _ _ _ guardT) (by rw [run_neq_struct, eqIn_h l l' hl hl']; rfl)
end
theorem neHH {L : List AObj} {ty n : Nat} {x y : Operand} {t' : TypeId} {l : List Int} (hl : l.length = 65) : Does Try.prog (.binOp .neq 27 x y t') ty L n [.d (hD l), .d (hD l)] e0 (.d (.v (.bool false))) := by
  have h := neH (L := L) (ty := ty) (n := n) (x := x) (y := y) (t' := t') hl hl
  rw [show (!decide (l = l)) = false by simp] at h
  exact h
theorem eqHH {L : List AObj} {ty n : Nat} {x y : Operand} {t' : TypeId} {l : List Int} (hl : l.length = 65) : Does Try.prog (.binOp .eql 27 x y t') ty L n [.d (hD l), .d (hD l)] e0 (.d (.v (.bool true))) := by
  have h := eqH (L := L) (ty := ty) (n := n) (x := x) (y := y) (t' := t') hl hl
  rw [show decide (l = l) = true by simp] at h
  exact h
theorem copyL_sat (l : List Int) (hn : l.length ≤ 1000000) : Sat Try.prog 11 [.d (lD l)] [] (.own 0) [.sl 1 (l.map lR)] := by
  have hm : (l.map lR).length = l.length := List.length_map _
  refine sat_of_vc (T := tiOf Try.prog) (E := E0) Try.func11 rfl rfl hE0 hm0 rfl ?_
  conv => whnf
  repeat (any_goals (first
    | exact True.intro
    | (refine Or.inl ?_; conv => whnf)
    | (refine And.intro (fun _ => ?_) tf; conv => whnf)
    | (refine And.intro ft (fun _ => ?_); conv => whnf)
    | (refine And.intro (by kernel_rfl) ?_; conv => whnf)
    | (refine And.intro (by decide) ?_; conv => whnf)
    | (refine And.intro (fun _ => ?_) (fun h => absurd h (by decide)); conv => whnf)
    | (refine And.intro (fun h => absurd h (by decide)) (fun _ => ?_); conv => whnf)
    | (refine And.intro (fun _ => ?_) (fun _ => ?_) <;> conv => whnf)
    | (refine ⟨_, _, apd 1 8 (by kernel_rfl) rfl (by simp; omega), ?_⟩; conv => whnf)))
  all_goals refine ⟨[(0, 1)], ?_⟩
  repeat (any_goals (first | exact True.intro | exact rfl | with_reducible_and_instances rfl | exact (by kernel_rfl) | refine And.intro ?_ ?_))
  all_goals conv => whnf
theorem s69 : (tiOf Try.prog 27).size = 65 := by kernel_rfl
theorem mergeR_len (ls : List (List Int)) : (mergeR ls).length = 65 := by
  unfold mergeR
  split
  · simp [mergeL]
  · rfl
theorem flat_hR : ∀ (l : List Int), flatDs (hR l) = true
  | [] => by simp [flatDs]
  | z :: l => by
    show flatDs (iD z :: hR l) = true
    rw [flatDs, flat_hR l]; rfl
theorem flat_hD (l : List Int) : flatD (hD l) = true := by
  show flatD (.agg (hR l)) = true
  rw [flatD]; exact flat_hR l
theorem flat_hA (l : List Int) : flatA (.d (hD l)) = true := by rw [flatA]; exact flat_hD l
theorem flat_hE (l : List Int) (e : Int) : flatA (.tup [.d (hD l), iA e]) = true := by
  rw [flatA, flatAs, flatAs, flatAs, flat_hA]; rfl
theorem lt_hA (l : List Int) : AV.lt 0 (.d (hD l)) = true := by rw [AV.lt]
theorem z69 : List.map D.v (tiOf Try.prog 27).zero = hR z65 := by kernel_rfl
theorem z68 : List.map D.v (tiOf Try.prog 26).zero = hR z65 := by kernel_rfl
theorem fit69 {l : List Int} (h : l.length = 65) : 0 + (hR l).length ≤ (List.map D.v (tiOf Try.prog 27).zero).length := by rw [z69]; exact sets_fit z65_len h
theorem fit68 {l : List Int} (h : l.length = 65) : 0 + (hR l).length ≤ (List.map D.v (tiOf Try.prog 26).zero).length := by rw [z68]; exact sets_fit z65_len h
theorem set69 {l : List Int} (h : l.length = 65) : sets (List.map D.v (tiOf Try.prog 27).zero) 0 (hR l) = hR l := by rw [z69]; exact rows_whole z65_len h
theorem set68 {l : List Int} (h : l.length = 65) : sets (List.map D.v (tiOf Try.prog 26).zero) 0 (hR l) = hR l := by rw [z68]; exact rows_whole z65_len h
theorem add_merge (q : List Int) (v : Int) (hq : q.length = 65) (hv : in64 v) (hx : ∀ z ∈ q, in64 z) : addL q v = mergeR [q, histL [v]] ∧ addE q v = mergeE [q, histL [v]] := by
  have hb := bkt_lt v hv.2
  have hok := histL_ok [v]
  have hs : ∀ j, sumAt [q, histL [v]] j = q[j]?.getD 0 + (histL [v])[j]?.getD 0 := fun j => by simp [sumAt]
  have hw : ∀ j, j < 65 → (histL [v])[j]?.getD 0 = if bkt v = j then 1 else 0 := fun j hj => by
    rw [histL_get [v] j hj]
    simp [List.countP_cons]
    split <;> rfl
  have hqj : ∀ j, j < 65 → q[j]?.getD 0 ≤ 9223372036854775807 := fun j hj => by
    rw [List.getElem?_eq_getElem (by omega)]
    exact (hx _ (List.getElem_mem _)).2
  by_cases h1 : okH q = true
  · have hall : [q, histL [v]].all okH = true := by simp [h1, hok]
    by_cases h2 : q[bkt v]? = some 9223372036854775807
    · have e : addE q v = 12 := by unfold addE; rw [if_neg (by simp [h1]), if_pos h2]
      obtain ⟨m1, m2⟩ := merge_over hall hb (by rw [hs, hw _ hb, if_pos rfl, h2]; simp)
      rw [m1, m2, e]
      exact ⟨by unfold addL; rw [e]; rfl, rfl⟩
    · have e : addE q v = 0 := by unfold addE; rw [if_neg (by simp [h1]), if_neg h2]
      obtain ⟨m1, m2⟩ := merge_fine hall (fun k hk => by
        rw [hs, hw k hk]
        have := hqj k hk
        split
        · rename_i e; subst e
          rcases Int.lt_or_eq_of_le this with q1 | q1
          · omega
          · exfalso
            apply h2
            rw [List.getElem?_eq_getElem (by omega)] at q1 ⊢
            simpa using q1
        · omega)
      rw [m1, m2, e]
      refine ⟨?_, rfl⟩
      unfold addL
      rw [e, if_pos rfl]
      refine ext65 (by rw [bump_len, hq]) (by simp [mergeL]) fun b hb2 => ?_
      have : (mergeL [q, histL [v]])[b]?.getD 0 = sumAt [q, histL [v]] b := by unfold mergeL; rw [List.getElem?_map, List.getElem?_range hb2]; rfl
      rw [this, hs, hw b hb2]
      unfold bump
      rw [List.getElem?_set]
      by_cases e : bkt v = b
      · subst e; simp [hq, hb]
      · simp [e]
  · have h1 : okH q = false := by simpa using h1
    have e : addE q v = 10 := by unfold addE; rw [if_pos h1]
    obtain ⟨m1, m2⟩ := merge_form (ls := [q, histL [v]]) (by simp [h1])
    rw [m1, m2, e]
    exact ⟨by unfold addL; rw [e]; rfl, rfl⟩
theorem dropK0 {k : List D → Prop} (xs : List D) (h : k xs) : dropK xs 0 k := by cases xs <;> exact h
/-! ### the arguments -/
theorem ty_long1 {P : Program} {m : Nat} {t : TypeId} {ds : List D} (h : Ty P (m + 1) t ds) (hu : P.underlying t = some (.int .i64)) : ∃ z, ds = [iD z] ∧ in64 z := by
  have h : TyB (Ty P m) P t ds := h
  unfold TyB at h
  rw [hu] at h
  obtain ⟨z, h1, h2⟩ := h
  exact ⟨z, h1, wf_i64 h2⟩
theorem ty_longs {P : Program} {t e : TypeId} {x : D} (h : TyV P t x) (hu : P.underlying t = some (.slice e)) (he : P.underlying e = some (.int .i64)) (hc : P.cellsOf e = 1) : ∃ l : List Int, x = lD l ∧ ∀ z ∈ l, in64 z := by
  obtain ⟨rows, rfl, h1, _⟩ := ty_slice h hu
  obtain ⟨l, rfl, h2⟩ := rows_map (f := lR) (p := in64) fun r hr => ty_long1 (h1 r hr) he
  exact ⟨l, by rw [hc], h2⟩
theorem flat_ints (l : List Int) : (l.map lR).flatten = hR l := by
  induction l with
  | nil => rfl
  | cons z l ih => rw [List.map_cons, List.flatten_cons, ih]; rfl
theorem ty_harr {P : Program} {m : Nat} {t e : TypeId} {ds : List D} (h : Ty P (m + 2) t ds) (hu : P.underlying t = some (.array 65 e)) (he : P.underlying e = some (.int .i64)) : ∃ q : List Int, ds = hR q ∧ q.length = 65 ∧ ∀ z ∈ q, in64 z := by
  have h : TyB (Ty P (m + 1)) P t ds := h
  unfold TyB at h
  rw [hu] at h
  obtain ⟨dss, rfl, h1, h2⟩ := h
  obtain ⟨l, rfl, h3⟩ := rows_map (f := lR) (p := in64) fun r hr => ty_long1 (h2 r hr) he
  exact ⟨l, flat_ints l, by simpa using h1, h3⟩
theorem ty_harrs {P : Program} {t a e : TypeId} {x : D} (h : TyV P t x) (hu : P.underlying t = some (.slice a)) (ha : P.underlying a = some (.array 65 e)) (he : P.underlying e = some (.int .i64)) (hc : P.cellsOf a = 65) : ∃ ls : List (List Int), x = .sl 65 (ls.map hR) ∧ (∀ l ∈ ls, l.length = 65) ∧ ∀ l ∈ ls, ∀ z ∈ l, in64 z := by
  obtain ⟨rows, rfl, h1, _⟩ := ty_slice h hu
  obtain ⟨ls, rfl, h2⟩ := rows_map (f := hR) (p := fun q => q.length = 65 ∧ ∀ z ∈ q, in64 z) fun r hr => ty_harr (h1 r hr) ha he
  exact ⟨ls, by rw [hc], fun l hl => (h2 l hl).1, fun l hl => (h2 l hl).2⟩
theorem ty_harr1 {P : Program} {t e : TypeId} {x : D} (h : TyV P t x) (hu : P.underlying t = some (.array 65 e)) (he : P.underlying e = some (.int .i64)) : ∃ q : List Int, x = hD q ∧ q.length = 65 ∧ ∀ z ∈ q, in64 z := by
  unfold TyV at h
  rw [hu] at h
  obtain ⟨ds, rfl, h⟩ := h
  obtain ⟨q, rfl, h1, h2⟩ := ty_harr h hu he
  exact ⟨q, rfl, h1, h2⟩
end Go.Proofs.Ytbjmdnemeidpjaa
/- HistRanks, its law: every Total, Rank and Full is answered as the document says. -/
namespace Go.Proofs.Ytbjmdnemeidpjaa
set_option linter.unusedSimpArgs false
set_option linter.unusedVariables false
open Go.RowKit
set_option maxRecDepth 100000
theorem full_sat (l : List Int) : Sat Try.prog 35 [.d (hD l)] [] (.fn (.func 80) [] [.ptr 0 0]) [.row (hR l)] := by
  refine sat_of_vc (T := tiOf Try.prog) (E := E0) Try.func35 rfl rfl hE0 hm0 rfl ?_
  conv => whnf
  repeat (any_goals (first
    | exact True.intro
    | (refine Or.inl ?_; conv => whnf)
    | (refine And.intro (fun _ => ?_) tf; conv => whnf)
    | (refine And.intro ft (fun _ => ?_); conv => whnf)
    | (refine And.intro (by kernel_rfl) ?_; conv => whnf)
    | (refine And.intro (by decide) ?_; conv => whnf)
    | (refine And.intro (fun _ => ?_) (fun h => absurd h (by decide)); conv => whnf)
    | (refine And.intro (fun h => absurd h (by decide)) (fun _ => ?_); conv => whnf)
    | (refine And.intro (fun _ => ?_) (fun _ => ?_) <;> conv => whnf)))
  all_goals refine ⟨[], ?_⟩
  repeat (any_goals (first | exact True.intro | exact rfl | with_reducible_and_instances rfl | exact (by kernel_rfl) | refine And.intro ?_ ?_))
  all_goals conv => whnf
theorem sum65 {l : List Int} (hl : l.length = 65) (hx : ∀ z ∈ l, in64 z) : in64 (hiZ l.sum) := by
  have := sum_abs l hx
  rw [hl] at this
  unfold hiZ word in64
  omega
/-- A wide number that is handed in. -/
theorem ty_wide {x : D} (h : TyV Try.prog 25 x) : ∃ K, x = wD K ∧ in64 (hiZ K) := by
  unfold TyV at h
  have hu := Try.underlying25
  rw [hu] at h
  obtain ⟨ds, rfl, g⟩ := h
  have g2 : TyB (Ty Try.prog 8) Try.prog 25 ds := g
  unfold TyB at g2
  rw [hu] at g2
  obtain ⟨dss, e0, g3⟩ := g2
  obtain ⟨d1, r1, e1, h1, g4⟩ := g3
  obtain ⟨d2, r2, e2, h2, g5⟩ := g4
  have g5 : r2 = [] := g5
  subst e0 e1 e2 g5
  obtain ⟨hi, rfl, hh⟩ := ty_long1 h1 Try.underlying2
  have h2 : TyB (Ty Try.prog 7) Try.prog 23 d2 := h2
  unfold TyB at h2
  rw [Try.underlying23] at h2
  obtain ⟨lo, rfl, hl⟩ := h2
  simp only [Lit.wf, Bool.and_eq_true, decide_eq_true_eq] at hl
  have hl : 0 ≤ lo ∧ lo ≤ 18446744073709551615 := hl
  obtain ⟨e1, e2⟩ := wideZ_hi (hi := hi) hl.1 (by unfold word; omega)
  refine ⟨wideZ hi lo, ?_, by rw [e1]; exact hh⟩
  show D.agg [iD hi, .v (.int .u64 lo)] = D.agg [.v (.int .i64 (hiZ (wideZ hi lo))), .v (.int .u64 (loZ (wideZ hi lo)))]
  rw [e1, e2]
end Go.Proofs.Ytbjmdnemeidpjaa
/- Cells as rows of 72 words. -/
namespace Go.Proofs.Ytbjmdnemeidpjaa
set_option linter.unusedSimpArgs false
set_option linter.unusedVariables false
open Go.RowKit
set_option maxRecDepth 100000
abbrev uZ (z : Int) : D := .v (.int .u64 z)
def cR (c : Cel) : List D := iD c.n :: iD (hiZ c.s) :: uZ (loZ c.s) :: iD c.mn :: iD c.mx :: iD c.ce :: iD c.po :: hR c.h
abbrev cD (c : Cel) : D := .agg (cR c)
theorem cR_len {c : Cel} (h : c.h.length = 65) : (cR c).length = 72 := by
  show (hR c.h).length + 7 = 72
  rw [hR_len]; omega
theorem sC : (tiOf Try.prog 29).size = 72 := by kernel_rfl
theorem zeC : List.map D.v (tiOf Try.prog 29).zero = cR zC := by kernel_rfl
theorem sF : (tiOf Try.prog 32).size = 72 := by kernel_rfl
theorem zeF : List.map D.v (tiOf Try.prog 32).zero = cR zC := by kernel_rfl
theorem whole_cell {s : Nat} {c : Cel} (hs : s = 72) (hl : c.h.length = 65) : ((cR c).drop 0).take s = cR c := by
  rw [List.drop_zero, List.take_of_length_le (by rw [cR_len hl]; omega)]
theorem clen {s : Nat} {c : Cel} (hs : s = 72) (hl : c.h.length = 65) : (cR c).length = s := by rw [cR_len hl]; omega
theorem sum_cell {n s mn mx ce po : Int} {h : List Int} {k : Nat} (hs : k = 2) : ((cR ⟨n, s, mn, mx, ce, po, h⟩).drop 1).take k = [iD (hiZ s), uZ (loZ s)] := by subst hs; rfl
theorem s25 : (tiOf Try.prog 25).size = 2 := by kernel_rfl
theorem hist_cell {s : Nat} {c : Cel} (hs : s = 65) (hl : c.h.length = 65) : ((cR c).drop 7).take s = hR c.h := by
  show (hR c.h).take s = _
  exact hR_take hs hl
theorem cell_sets {c d : Cel} (hc : c.h.length = 65) (hd : d.h.length = 65) : sets (cR c) 0 (cR d) = cR d := by
  rw [sets_eq _ _ _ (by rw [cR_len hc, cR_len hd]; omega), List.drop_of_length_le (by rw [cR_len hc, cR_len hd]; omega)]
  simp
theorem cell_fit {c d : Cel} (hc : c.h.length = 65) (hd : d.h.length = 65) : 0 + (cR c).length ≤ (cR d).length := by rw [cR_len hc, cR_len hd]; omega
theorem fitC {c : Cel} (h : c.h.length = 65) : 0 + (cR c).length ≤ (List.map D.v (tiOf Try.prog 29).zero).length := by rw [zeC]; exact cell_fit h rfl
theorem setC {c : Cel} (h : c.h.length = 65) : sets (List.map D.v (tiOf Try.prog 29).zero) 0 (cR c) = cR c := by rw [zeC]; exact cell_sets rfl h
theorem setzC : sets (List.map D.v (tiOf Try.prog 29).zero) 0 (List.map D.v (tiOf Try.prog 29).zero) = cR zC := by rw [zeC]; exact cell_sets rfl rfl
theorem fitzC : 0 + (List.map D.v (tiOf Try.prog 29).zero).length ≤ (List.map D.v (tiOf Try.prog 29).zero).length := by omega
theorem fitF {c : Cel} (h : c.h.length = 65) : 0 + (cR c).length ≤ (List.map D.v (tiOf Try.prog 32).zero).length := by rw [zeF]; exact cell_fit h rfl
theorem setF {c : Cel} (h : c.h.length = 65) : sets (List.map D.v (tiOf Try.prog 32).zero) 0 (cR c) = cR c := by rw [zeF]; exact cell_sets rfl h
theorem setzF : sets (List.map D.v (tiOf Try.prog 32).zero) 0 (List.map D.v (tiOf Try.prog 32).zero) = cR zC := by rw [zeF]; exact cell_sets rfl rfl
theorem fitzF : 0 + (List.map D.v (tiOf Try.prog 32).zero).length ≤ (List.map D.v (tiOf Try.prog 32).zero).length := by omega
theorem fit1 {c : Cel} {k : Nat} {x : D} (h : c.h.length = 65) (hk : k ≤ 71) : k + [x].length ≤ (cR c).length := by
  rw [cR_len h, List.length_singleton]; omega
theorem at_hi {n s mn mx ce po : Int} {h : List Int} : List.drop (0 + 1) (cR ⟨n, s, mn, mx, ce, po, h⟩) = iD (hiZ s) :: List.drop 2 (cR ⟨n, s, mn, mx, ce, po, h⟩) := rfl
theorem at_lo {n s mn mx ce po : Int} {h : List Int} : List.drop (0 + 2) (cR ⟨n, s, mn, mx, ce, po, h⟩) = uZ (loZ s) :: List.drop 3 (cR ⟨n, s, mn, mx, ce, po, h⟩) := rfl
theorem whole_z {s : Nat} (hs : s = 72) : ((cR zC).drop 0).take s = cR zC := whole_cell hs rfl
theorem clenz {s : Nat} (hs : s = 72) : (cR zC).length = s := clen hs rfl
theorem set_n {n s mn mx ce po : Int} {h : List Int} (x : Int) : sets (cR ⟨n, s, mn, mx, ce, po, h⟩) 0 [iD x] = cR ⟨x, s, mn, mx, ce, po, h⟩ := rfl
theorem set_s {n s mn mx ce po : Int} {h : List Int} (x : Int) : sets (cR ⟨n, s, mn, mx, ce, po, h⟩) (0 + 1) [iD (hiZ x), uZ (loZ x)] = cR ⟨n, x, mn, mx, ce, po, h⟩ := rfl
theorem set_mn {n s mn mx ce po : Int} {h : List Int} (x : Int) : sets (cR ⟨n, s, mn, mx, ce, po, h⟩) (0 + 3) [iD x] = cR ⟨n, s, x, mx, ce, po, h⟩ := rfl
theorem set_mx {n s mn mx ce po : Int} {h : List Int} (x : Int) : sets (cR ⟨n, s, mn, mx, ce, po, h⟩) (0 + 4) [iD x] = cR ⟨n, s, mn, x, ce, po, h⟩ := rfl
theorem set_ce {n s mn mx ce po : Int} {h : List Int} (x : Int) : sets (cR ⟨n, s, mn, mx, ce, po, h⟩) (0 + 5) [iD x] = cR ⟨n, s, mn, mx, x, po, h⟩ := rfl
theorem set_po {n s mn mx ce po : Int} {h : List Int} (x : Int) : sets (cR ⟨n, s, mn, mx, ce, po, h⟩) (0 + 6) [iD x] = cR ⟨n, s, mn, mx, ce, x, h⟩ := rfl
theorem set_hh {n s mn mx ce po : Int} {h : List Int} {h' : List Int} (hc : h.length = 65) (hh : h'.length = 65) : sets (cR ⟨n, s, mn, mx, ce, po, h⟩) (0 + 7) (hR h') = cR ⟨n, s, mn, mx, ce, po, h'⟩ := by
  have hc : (Cel.mk n s mn mx ce po h).h.length = 65 := hc
  rw [sets_eq _ _ _ (by rw [cR_len hc, hR_len]; omega), List.drop_of_length_le (by rw [cR_len hc, hR_len]; omega)]
  simp [cR]
theorem drop_id {n : Nat} {l : List D} : List.drop n l = List.drop n l := rfl
theorem at_n {n s mn mx ce po : Int} {h : List Int} : List.drop 0 (cR ⟨n, s, mn, mx, ce, po, h⟩) = iD n :: List.drop 1 (cR ⟨n, s, mn, mx, ce, po, h⟩) := rfl
theorem at_mn {n s mn mx ce po : Int} {h : List Int} : List.drop (0 + 3) (cR ⟨n, s, mn, mx, ce, po, h⟩) = iD mn :: List.drop 4 (cR ⟨n, s, mn, mx, ce, po, h⟩) := rfl
theorem at_mx {n s mn mx ce po : Int} {h : List Int} : List.drop (0 + 4) (cR ⟨n, s, mn, mx, ce, po, h⟩) = iD mx :: List.drop 5 (cR ⟨n, s, mn, mx, ce, po, h⟩) := rfl
theorem at_ce {n s mn mx ce po : Int} {h : List Int} : List.drop (0 + 5) (cR ⟨n, s, mn, mx, ce, po, h⟩) = iD ce :: List.drop 6 (cR ⟨n, s, mn, mx, ce, po, h⟩) := rfl
theorem at_po {n s mn mx ce po : Int} {h : List Int} : List.drop (0 + 6) (cR ⟨n, s, mn, mx, ce, po, h⟩) = iD po :: List.drop 7 (cR ⟨n, s, mn, mx, ce, po, h⟩) := rfl
theorem note_sat (c : Cel) (b : Bool) (hc : CelOK c) (hS : Sat Try.prog 13 [.d (cD c)] [] (bA (rightC c)) []) : Sat Try.prog 17 [.d (cD c), bA b] [] (.tup [.d (cD (noteC c b).1), iA (noteC c b).2]) [] := by
  have hl := hc.hl
  have h1 := hc.ce
  have h2 := hc.po
  refine sat_of_vc (T := tiOf Try.prog) (E := E0) Try.func17 rfl rfl hE0 hm0 rfl ?_
  conv => whnf
  iterate 6
    repeat (any_goals (first
      | exact True.intro
      | (refine ⟨_, drop_id, ?_⟩; conv => whnf)
      | (refine ⟨_, _, at_n, ?_⟩; conv => whnf)
      | (refine ⟨_, _, at_hi, ?_⟩; conv => whnf)
      | (refine ⟨_, _, at_lo, ?_⟩; conv => whnf)
      | (refine ⟨_, _, at_mn, ?_⟩; conv => whnf)
      | (refine ⟨_, _, at_mx, ?_⟩; conv => whnf)
      | (refine ⟨_, _, at_ce, ?_⟩; conv => whnf)
      | (refine ⟨_, _, at_po, ?_⟩; conv => whnf)
      | (refine ⟨_, whole_z sC, clenz sC, ?_⟩; conv => whnf)
      | (refine ⟨_, setzC, ?_⟩; conv => whnf)
      | (refine And.intro (clenz sC) ?_; conv => whnf)
      | (refine And.intro fitzC ?_; conv => whnf)
      | (refine ⟨_, whole_cell sC hl, clen sC hl, ?_⟩; conv => whnf)
      | (refine And.intro (clen sC hl) ?_; conv => whnf)
      | (refine And.intro (fitC hl) ?_; conv => whnf)
      | (refine ⟨_, setC hl, ?_⟩; conv => whnf)
      | (refine ⟨_, whole_z sF, clenz sF, ?_⟩; conv => whnf)
      | (refine ⟨_, setzF, ?_⟩; conv => whnf)
      | (refine And.intro (clenz sF) ?_; conv => whnf)
      | (refine And.intro fitzF ?_; conv => whnf)
      | (refine ⟨_, whole_cell sF hl, clen sF hl, ?_⟩; conv => whnf)
      | (refine And.intro (clen sF hl) ?_; conv => whnf)
      | (refine And.intro (fitF hl) ?_; conv => whnf)
      | (refine ⟨_, setF hl, ?_⟩; conv => whnf)
      | (refine And.intro (fit1 hl (by decide)) ?_; conv => whnf)
      | (refine And.intro (fit1 rfl (by decide)) ?_; conv => whnf)
      | (refine ⟨_, sum_cell s25, rfl, ?_⟩; conv => whnf)
      | (refine ⟨_, set_n _, ?_⟩; conv => whnf)
      | (refine ⟨_, set_mn _, ?_⟩; conv => whnf)
      | (refine ⟨_, set_mx _, ?_⟩; conv => whnf)
      | (refine ⟨_, set_ce _, ?_⟩; conv => whnf)
      | (refine ⟨_, set_po _, ?_⟩; conv => whnf)
      | (refine ⟨_, set_s _, ?_⟩; conv => whnf)
      | (refine ⟨_, set_hi _, ?_⟩; conv => whnf)
      | (refine ⟨_, set_lo _, ?_⟩; conv => whnf)
      | (refine And.intro (fun _ => ?_) tf; conv => whnf)
      | (refine And.intro ft (fun _ => ?_); conv => whnf)
      | (refine And.intro (by kernel_rfl) ?_; conv => whnf)
      | (refine And.intro (by decide) ?_; conv => whnf)
      | (refine And.intro (fun _ => ?_) (fun h => absurd h (by decide)); conv => whnf)
      | (refine And.intro (fun h => absurd h (by decide)) (fun _ => ?_); conv => whnf)
      | (refine And.intro (fun _ => ?_) (fun _ => ?_) <;> conv => whnf)
      | (refine ⟨_, _, hS.pu rfl rfl, ?_⟩; conv => whnf)))
    all_goals try (refine Or.inl ?_; conv => whnf)
  · have hr : rightC c = false := (by (try simp only [decide_eq_true_eq, decide_eq_false_iff_not, Bool.not_eq_true', Bool.not_eq_false', Bool.not_eq_true, Bool.not_eq_false, beq_iff_eq, bne_iff_ne, beq_eq_false_iff_ne, bne_eq_false_iff_eq, ne_eq, Decidable.not_not, Int.natCast_eq_zero] at *); first | omega | assumption | (simp_all; done) | (simp_all; omega))
    have e : noteC c b = (zC, 10) := by unfold noteC; rw [if_pos hr]
    rw [e]
    all_goals refine ⟨[], ?_⟩
    repeat (any_goals (first | exact True.intro | exact rfl | with_reducible_and_instances rfl | exact (by kernel_rfl) | refine And.intro ?_ ?_))
    all_goals conv => whnf
  · have hr : rightC c = true := (by (try simp only [decide_eq_true_eq, decide_eq_false_iff_not, Bool.not_eq_true', Bool.not_eq_false', Bool.not_eq_true, Bool.not_eq_false, beq_iff_eq, bne_iff_ne, beq_eq_false_iff_ne, bne_eq_false_iff_eq, ne_eq, Decidable.not_not, Int.natCast_eq_zero] at *); first | omega | assumption | (simp_all; done) | (simp_all; omega))
    subst b
    have e : noteC c true = (zC, 12) := by unfold noteC big; rw [if_neg (by rw [hr]; simp), if_pos (by simp at *; assumption)]
    rw [e]
    all_goals refine ⟨[], ?_⟩
    repeat (any_goals (first | exact True.intro | exact rfl | with_reducible_and_instances rfl | exact (by kernel_rfl) | refine And.intro ?_ ?_))
    all_goals conv => whnf
  · have hr : rightC c = true := (by (try simp only [decide_eq_true_eq, decide_eq_false_iff_not, Bool.not_eq_true', Bool.not_eq_false', Bool.not_eq_true, Bool.not_eq_false, beq_iff_eq, bne_iff_ne, beq_eq_false_iff_ne, bne_eq_false_iff_eq, ne_eq, Decidable.not_not, Int.natCast_eq_zero] at *); first | omega | assumption | (simp_all; done) | (simp_all; omega))
    subst b
    have hb : c.ce ≠ 9223372036854775807 := by simp at *; assumption
    have e : noteC c true = (⟨c.n, c.s, c.mn, c.mx, c.ce + 1, c.po, c.h⟩, 0) := by unfold noteC big; rw [if_neg (by rw [hr]; simp), if_neg (by simpa using hb)]; rfl
    have w : IntKind.i64.wrap (c.ce + 1) = c.ce + 1 := wi (by unfold in64 at h1; have := (right_iff.1 hr).ce; omega) (by unfold in64 at h1; omega)
    rw [e, w]
    all_goals refine ⟨[], ?_⟩
    repeat (any_goals (first | exact True.intro | exact rfl | with_reducible_and_instances rfl | exact (by kernel_rfl) | refine And.intro ?_ ?_))
    all_goals conv => whnf
  · have hr : rightC c = true := (by (try simp only [decide_eq_true_eq, decide_eq_false_iff_not, Bool.not_eq_true', Bool.not_eq_false', Bool.not_eq_true, Bool.not_eq_false, beq_iff_eq, bne_iff_ne, beq_eq_false_iff_ne, bne_eq_false_iff_eq, ne_eq, Decidable.not_not, Int.natCast_eq_zero] at *); first | omega | assumption | (simp_all; done) | (simp_all; omega))
    subst b
    have e : noteC c false = (zC, 12) := by unfold noteC big; rw [if_neg (by rw [hr]; simp), if_pos (by simp at *; assumption)]
    rw [e]
    all_goals refine ⟨[], ?_⟩
    repeat (any_goals (first | exact True.intro | exact rfl | with_reducible_and_instances rfl | exact (by kernel_rfl) | refine And.intro ?_ ?_))
    all_goals conv => whnf
  · have hr : rightC c = true := (by (try simp only [decide_eq_true_eq, decide_eq_false_iff_not, Bool.not_eq_true', Bool.not_eq_false', Bool.not_eq_true, Bool.not_eq_false, beq_iff_eq, bne_iff_ne, beq_eq_false_iff_ne, bne_eq_false_iff_eq, ne_eq, Decidable.not_not, Int.natCast_eq_zero] at *); first | omega | assumption | (simp_all; done) | (simp_all; omega))
    subst b
    have hb : c.po ≠ 9223372036854775807 := by simp at *; assumption
    have e : noteC c false = (⟨c.n, c.s, c.mn, c.mx, c.ce, c.po + 1, c.h⟩, 0) := by unfold noteC big; rw [if_neg (by rw [hr]; simp), if_neg (by simpa using hb)]; rfl
    have w : IntKind.i64.wrap (c.po + 1) = c.po + 1 := wi (by unfold in64 at h2; have := (right_iff.1 hr).po; omega) (by unfold in64 at h2; omega)
    rw [e, w]
    all_goals refine ⟨[], ?_⟩
    repeat (any_goals (first | exact True.intro | exact rfl | with_reducible_and_instances rfl | exact (by kernel_rfl) | refine And.intro ?_ ?_))
    all_goals conv => whnf
end Go.Proofs.Ytbjmdnemeidpjaa
/- safe.Add. -/
namespace Go.Proofs.Ytbjmdnemeidpjaa
open Go.RowKit
set_option linter.unusedVariables false
set_option linter.unusedSimpArgs false
theorem toInt_i64 (x : BitVec 64) : IntKind.i64.wrap (x.toNat : Int) = x.toInt := by
  have h := x.isLt
  rw [IntKind.wrap_i64, BitVec.toInt_eq_toNat_cond]
  split <;> omega
theorem xor_toInt (a b : Int) : bits .xor .i64 a b = (BitVec.ofInt 64 a ^^^ BitVec.ofInt 64 b).toInt := by
  rw [← toInt_i64]; rfl
theorem and_toInt (a b : Int) : bits .and .i64 a b = (BitVec.ofInt 64 a &&& BitVec.ofInt 64 b).toInt := by
  rw [← toInt_i64]; rfl
theorem msb_in (a : Int) (h1 : -9223372036854775808 ≤ a) (h2 : a ≤ 9223372036854775807) : (BitVec.ofInt 64 a).msb = decide (a < 0) := by
  rw [BitVec.msb_eq_toInt, BitVec.toInt_ofInt]
  have : a.bmod (2 ^ 64) = a := by
    unfold Int.bmod
    simp only []
    split <;> omega
  rw [this]
theorem over_sign (a b s : Int) (a1 : -9223372036854775808 ≤ a) (a2 : a ≤ 9223372036854775807) (b1 : -9223372036854775808 ≤ b) (b2 : b ≤ 9223372036854775807) (s1 : -9223372036854775808 ≤ s) (s2 : s ≤ 9223372036854775807) :
    decide (bits .and .i64 (bits .xor .i64 a s) (bits .xor .i64 b s) < 0) = ((decide (a < 0) ^^ decide (s < 0)) && (decide (b < 0) ^^ decide (s < 0))) := by
  rw [and_toInt, ← BitVec.msb_eq_toInt, BitVec.msb_and, xor_toInt, xor_toInt, BitVec.ofInt_toInt, BitVec.ofInt_toInt, BitVec.msb_xor, BitVec.msb_xor, msb_in a a1 a2, msb_in b b1 b2, msb_in s s1 s2]
theorem over_add (a b : Int) (a1 : -9223372036854775808 ≤ a) (a2 : a ≤ 9223372036854775807) (b1 : -9223372036854775808 ≤ b) (b2 : b ≤ 9223372036854775807) :
    decide (bits .and .i64 (bits .xor .i64 a (wrap64 (a + b))) (bits .xor .i64 b (wrap64 (a + b))) < 0) = decide (a + b < -9223372036854775808 ∨ 9223372036854775807 < a + b) := by
  have hw : wrap64 (a + b) = (a + b + 9223372036854775808) % 18446744073709551616 - 9223372036854775808 := by unfold wrap64; omega
  generalize wrap64 (a + b) = s at *
  rw [over_sign a b s a1 a2 b1 b2 (by omega) (by omega)]
  by_cases h1 : a < 0 <;> by_cases h2 : b < 0 <;> by_cases h3 : s < 0 <;> simp [h1, h2, h3] <;> omega
def addR (a b : Int) : Int × Nat := if a + b < -9223372036854775808 ∨ 9223372036854775807 < a + b then (0, 12) else (a + b, 0)
set_option maxRecDepth 100000 in
theorem safeAdd_any (a b : Int) (w : World) (a1 : -9223372036854775808 ≤ a) (a2 : a ≤ 9223372036854775807) (b1 : -9223372036854775808 ≤ b) (b2 : b ≤ 9223372036854775807) :
    Calls Try.prog 39 #[.int .i64 a, .int .i64 b] w fun e w' => e = .returned (.tuple #[.int .i64 (addR a b).1, .int .i64 (addR a b).2]) ∧ w = w' := by
  have HO := over_add a b a1 a2 b1 b2
  have HR : Hid (addR a b = if a + b < -9223372036854775808 ∨ 9223372036854775807 < a + b then (0, 12) else (a + b, 0)) := hide rfl
  generalize addR a b = R at *
  by_cases c : a + b < -9223372036854775808 ∨ 9223372036854775807 < a + b
  · rw [decide_eq_true c] at HO
    rw [if_pos c] at HR
    clear c
    go_enter Try.func39, Try.ntmps39
    go_wp2
    go_ret2
    exact ⟨by rw [HR.out]; rfl, rfl⟩
  · rw [decide_eq_false c] at HO
    rw [if_neg c] at HR
    have hw : wrap64 (a + b) = a + b := IntWalk.wrap64_in _ (by constructor <;> omega)
    have HW := hide hw
    clear c hw
    go_enter Try.func39, Try.ntmps39
    go_wp2
    go_ret2
    refine ⟨?_, rfl⟩
    rw [HR.out]
    show Ending.returned (.tuple #[.int .i64 (wrap64 (a + b)), .int .i64 0]) = _
    rw [HW.out]
    rfl
end Go.Proofs.Ytbjmdnemeidpjaa
/- wide.Add; bits.Add64 as an operation; the sums of cells (192 bits). -/
namespace Go.Proofs.Ytbjmdnemeidpjaa
set_option linter.unusedSimpArgs false
set_option linter.unusedVariables false
open Go.RowKit
set_option maxRecDepth 100000
abbrev uN (z : Int) : AV := .d (.v (.int .u64 z))
theorem add64_runC (x y c : Int) (hx : 0 ≤ x) (hy : 0 ≤ y) (hc : 0 ≤ c) (hc1 : c ≤ 1) (w : World) : (callFunc 74 #[.int .u64 x, .int .u64 y, .int .u64 c]).run Try.prog w =
    .ok (.value (.tuple #[.int .u64 ((x + y + c) % 18446744073709551616), .int .u64 ((x + y + c) / 18446744073709551616)])) w := by
  rw [run_callFunc_extern Try.func74 (by kernel_rfl) (by kernel_rfl) (by kernel_rfl) (e := add64Entry) (by kernel_rfl), run_add64 x y c hx hy (by omega) (by omega)]
  simp only [Result.andThen]
theorem add64_does {L : List AObj} {ty n : Nat} (x y c : Int) (hx : 0 ≤ x) (hy : 0 ≤ y) (hc : 0 ≤ c) (hc1 : c ≤ 1) {a b d : Operand} {ats : Array TypeId} :
    Does Try.prog (.call { callee := .value (.func 74), args := #[a, b, d], argTypes := ats }) ty L n [.fn (.func 74) [] [], uN x, uN y, uN c] e0 (.tup [uN ((x + y + c) % 18446744073709551616), uN ((x + y + c) / 18446744073709551616)]) :=
  does_val fun o w F ρ ev ho _ hx' => by
    have hops : (Op.operands (.call { callee := .value (.func 74), args := #[a, b, d], argTypes := ats })).toList = .func 74 :: [a, b, d] := by simp [Op.operands, Call.operands]
    rw [hops] at hx'
    simp only [List.map_cons, List.map_nil] at hx'
    generalize hvf : ev (.func 74) = vf at hx'
    cases hx' with | cons hf h =>
    cases hf with | fn hfirst hcaps =>
    cases hfirst
    cases hcaps
    cases h with | cons h1 h =>
    cases h with | cons h2 h =>
    cases h with | cons h3 h =>
    have e1 := h1.v_out
    have e2 := h2.v_out
    have e3 := h3.v_out
    refine ⟨_, ?_, .tup (.cons (.d (.v _)) (.cons (.d (.v _)) .nil))⟩
    have := add64_runC x y c hx hy hc hc1 w
    simp [execOp, ho, resolve, hvf, Deferred.ofValue, invoke, e1, e2, e3]
    exact this
theorem wadd_plain (A B : Int) (hA : in128 A) (hB : in128 B) : hiZ (A + B) = hiZ A + hiZ B + (loZ A + loZ B) / word ∧ loZ (A + B) = (loZ A + loZ B) % word ∧
    (decide (bits .and .i64 (bits .xor .i64 (hiZ A) (wrap64 (hiZ (A + B)))) (bits .xor .i64 (hiZ B) (wrap64 (hiZ (A + B)))) < 0) = true ↔ ¬ in128 (A + B)) := by
  have e1 : hiZ (A + B) = hiZ A + hiZ B + (loZ A + loZ B) / word := by unfold hiZ loZ word; omega
  have e2 : loZ (A + B) = (loZ A + loZ B) % word := by unfold loZ word; omega
  refine ⟨e1, e2, ?_⟩
  have o1 : 0 ≤ (loZ A + loZ B) / word ∧ (loZ A + loZ B) / word ≤ 1 := by unfold loZ word; omega
  unfold in128 at *
  have hs : in64 (wrap64 (hiZ (A + B))) := by unfold in64 wrap64; omega
  have hw : wrap64 (hiZ (A + B)) = (hiZ (A + B) + 9223372036854775808) % 18446744073709551616 - 9223372036854775808 := by unfold wrap64; omega
  rw [over_sign _ _ _ hA.1 hA.2 hB.1 hB.2 hs.1 hs.2]
  generalize wrap64 (hiZ (A + B)) = s at *
  generalize hiZ (A + B) = z at *
  generalize hiZ A = a at *
  generalize hiZ B = b at *
  generalize (loZ A + loZ B) / word = o at *
  unfold in64 at *
  by_cases q1 : a < 0 <;> by_cases q2 : b < 0 <;> by_cases q3 : s < 0 <;> simp [q1, q2, q3] <;> omega
theorem wadd_sat (A B : Int) (hA : in128 A) (hB : in128 B) : Sat Try.prog 40 [.d (wD A), .d (wD B)] [] (if in128 (A + B) then .tup [.d (wD (A + B)), iA 0] else .tup [.d (wD 0), iA 12]) [] := by
  have a0 : 0 ≤ loZ A ∧ loZ A < word := by unfold loZ word; omega
  have b0 : 0 ≤ loZ B ∧ loZ B < word := by unfold loZ word; omega
  obtain ⟨e1, e2, e3⟩ := wadd_plain A B hA hB
  have e4 : IntKind.i64.wrap (IntKind.i64.wrap (hiZ A + hiZ B) + IntKind.i64.wrap ((loZ A + loZ B + 0) / 18446744073709551616)) = wrap64 (hiZ (A + B)) := by
    rw [e1, Int.add_zero]
    rw [IntKind.wrap_i64, IntKind.wrap_i64, IntKind.wrap_i64]
    unfold wrap64 word
    generalize (loZ A + loZ B) / 18446744073709551616 = o
    omega
  have e5 : (loZ A + loZ B + 0) % 18446744073709551616 = loZ (A + B) := by rw [e2, Int.add_zero]; rfl
  refine sat_of_vc (T := tiOf Try.prog) (E := E0) Try.func40 rfl rfl hE0 hm0 rfl ?_
  conv => whnf
  iterate 4
    repeat (any_goals (first
      | exact True.intro
      | (refine And.intro (fun _ => ?_) tf; conv => whnf)
      | (refine And.intro ft (fun _ => ?_); conv => whnf)
      | (refine And.intro (by kernel_rfl) ?_; conv => whnf)
      | (refine And.intro (by decide) ?_; conv => whnf)
      | (refine And.intro (fun _ => ?_) (fun h => absurd h (by decide)); conv => whnf)
      | (refine And.intro (fun h => absurd h (by decide)) (fun _ => ?_); conv => whnf)
      | (refine And.intro (fun _ => ?_) (fun _ => ?_) <;> conv => whnf)
      | (refine ⟨_, _, add64_does (loZ A) (loZ B) 0 a0.1 b0.1 (by omega) (by omega), ?_⟩; conv => whnf)))
    all_goals try (refine Or.inl ?_; conv => whnf)
  · rename_i h
    have h : decide (bits .and .i64 (bits .xor .i64 (hiZ A) (IntKind.i64.wrap (IntKind.i64.wrap (hiZ A + hiZ B) + IntKind.i64.wrap ((loZ A + loZ B + 0) / 18446744073709551616)))) (bits .xor .i64 (hiZ B) (IntKind.i64.wrap (IntKind.i64.wrap (hiZ A + hiZ B) + IntKind.i64.wrap ((loZ A + loZ B + 0) / 18446744073709551616)))) < 0) = true := h
    rw [e4, e3] at h
    rw [if_neg h]
    all_goals refine ⟨[], ?_⟩
    repeat (any_goals (first | exact True.intro | exact rfl | with_reducible_and_instances rfl | exact (by kernel_rfl) | refine And.intro ?_ ?_))
    all_goals conv => whnf
  · rename_i h
    have h : decide (bits .and .i64 (bits .xor .i64 (hiZ A) (IntKind.i64.wrap (IntKind.i64.wrap (hiZ A + hiZ B) + IntKind.i64.wrap ((loZ A + loZ B + 0) / 18446744073709551616)))) (bits .xor .i64 (hiZ B) (IntKind.i64.wrap (IntKind.i64.wrap (hiZ A + hiZ B) + IntKind.i64.wrap ((loZ A + loZ B + 0) / 18446744073709551616)))) < 0) = false := h
    rw [e4, ← Bool.not_eq_true, e3] at h
    have hin : in128 (A + B) := Decidable.not_not.1 h
    have e6 : wrap64 (hiZ (A + B)) = hiZ (A + B) := by unfold in128 in64 at hin; unfold wrap64; omega
    rw [if_pos hin, e4, e5, e6]
    all_goals refine ⟨[], ?_⟩
    repeat (any_goals (first | exact True.intro | exact rfl | with_reducible_and_instances rfl | exact (by kernel_rfl) | refine And.intro ?_ ?_))
    all_goals conv => whnf
def w128 : Int := 340282366920938463463374607431768211456
theorem sumS_succ {l : List Cel} {k : Nat} {c : Cel} (h : l[k]? = some c) : sumS (l.take (k + 1)) = sumS (l.take k) + c.s := by
  unfold sumS
  rw [List.map_take, List.map_take]
  exact sum_take_succ (by rw [List.getElem?_map, h]; rfl)
theorem sums_step (S s : Int) : 
    (S + s) % word = (S % word + loZ s) % word ∧ (S + s) / word % word = (S / word % word + (hiZ s) % word + (S % word + loZ s) / word) % word ∧
    (S + s) / w128 = S / w128 + (hiZ s / 18446744073709551616 + (S / word % word + (hiZ s) % word + (S % word + loZ s) / word) / word) := by
  unfold hiZ loZ word w128
  have h1 : S / 18446744073709551616 = S / 340282366920938463463374607431768211456 * 18446744073709551616 + S / 18446744073709551616 % 18446744073709551616 := by omega
  have h2 : S = S / 18446744073709551616 * 18446744073709551616 + S % 18446744073709551616 := by omega
  refine ⟨by omega, by omega, ?_⟩
  omega
theorem fdiv63 (z : Int) : z.fdiv (2 ^ min (Int.toNat 63) IntKind.i64.bits) = z / 9223372036854775808 := by
  rw [show (2 : Int) ^ min (Int.toNat 63) IntKind.i64.bits = 9223372036854775808 from by decide]
  exact Int.fdiv_eq_ediv_of_nonneg _ (by decide)
theorem sums_top (S : Int) : (S / w128 != (IntKind.i64.wrap (S / word % word)).fdiv (2 ^ min (Int.toNat 63) IntKind.i64.bits)) = !decide (in128 S) := by
  rw [fdiv63, IntKind.wrap_i64, Bool.eq_iff_iff]
  simp only [bne_iff_ne, ne_eq, Bool.not_eq_true', decide_eq_false_iff_not]
  unfold in128 in64 hiZ word w128
  omega
theorem sums_sat (l : List Cel) (hl : ∀ c ∈ l, CelOK c) (hn : l.length ≤ 1000) : Sat Try.prog 50 [.d (.sl 72 (l.map cR))] [] (if in128 (sumS l) then .tup [.d (wD (sumS l)), bA true] else .tup [.d (wD 0), bA false]) [] := by
  have hm : (l.map cR).length = l.length := List.length_map _
  have hb : ∀ k, -340282366920938463463374607431768211456 * k ≤ sumS (l.take k) ∧ sumS (l.take k) ≤ 340282366920938463463374607431768211456 * k := by
    intro k
    induction k with
    | zero => simp [sumS]
    | succ k ih =>
      by_cases hk : k < l.length
      · have hx := List.getElem?_eq_getElem hk
        have hs := (hl _ (List.getElem_mem hk)).s
        rw [sumS_succ hx]
        unfold in128 in64 hiZ word at hs
        omega
      · rw [List.take_of_length_le (by omega)] at ih ⊢
        omega
  refine sat_of_vc (T := tiOf Try.prog) (E := E0) Try.func50 rfl rfl hE0 hm0 rfl ?_
  conv => whnf
  repeat (any_goals (first
    | exact True.intro
    | (refine Or.inl ?_; conv => whnf)
    | (refine And.intro (fun _ => ?_) tf; conv => whnf)
    | (refine And.intro ft (fun _ => ?_); conv => whnf)
    | (refine And.intro (by kernel_rfl) ?_; conv => whnf)
    | (refine And.intro (by decide) ?_; conv => whnf)
    | (refine And.intro (fun _ => ?_) (fun h => absurd h (by decide)); conv => whnf)
    | (refine And.intro (fun h => absurd h (by decide)) (fun _ => ?_); conv => whnf)
    | (refine And.intro (fun _ => ?_) (fun _ => ?_) <;> conv => whnf)))
  refine ⟨Nat × Int, fun y => y.1 ≤ l.length ∧ y.2 = sumS (l.take y.1), fun y => ([(12, iA y.1), (11, iA (l.map cR).length), (10, .d (.sl 72 (l.map cR))), (6, uN (y.2 % word)), (5, uN (y.2 / word % word)), (4, iA (y.2 / w128)), (2, .ptr 0 0), (0, .d (.sl 72 (l.map cR)))], [.cells [iA 0, uN 0]]), fun y => l.length - y.1, ⟨(0, 0), ⟨Nat.zero_le _, rfl⟩, ?_⟩, ?_⟩
  · all_goals refine ⟨[], ?_⟩
    repeat (any_goals (first | exact True.intro | exact rfl | with_reducible_and_instances rfl | exact (by kernel_rfl) | refine And.intro ?_ ?_))
    all_goals conv => whnf
  rintro ⟨k, S⟩ ⟨hk, hS⟩
  have hk : k ≤ l.length := hk
  have hS : S = sumS (l.take k) := hS
  have hbk := hb k
  rw [← hS] at hbk
  conv => whnf
  by_cases hlt : k < l.length
  · have hx : l[k]? = some l[k] := List.getElem?_eq_getElem hlt
    have hc := hl _ (List.getElem_mem hlt)
    have hbs := hb (k + 1)
    have hss := sumS_succ hx
    generalize l[k] = c at hx hc hss
    rw [← hS] at hss
    obtain ⟨p1, p2, p3⟩ := sums_step S c.s
    have a0 : 0 ≤ S % word ∧ S % word < word := by unfold word; omega
    have b0 : 0 ≤ loZ c.s ∧ loZ c.s < word := by unfold loZ word; omega
    have c0 : 0 ≤ S / word % word ∧ S / word % word < word := by unfold word; omega
    have w0 : 0 ≤ IntKind.u64.wrap (hiZ c.s) ∧ IntKind.u64.wrap (hiZ c.s) = hiZ c.s % word := by rw [IntKind.wrap_u64]; unfold word; omega
    have o0 : 0 ≤ (S % word + loZ c.s + 0) / 18446744073709551616 ∧ (S % word + loZ c.s + 0) / 18446744073709551616 ≤ 1 := by unfold word at *; omega
    iterate 7
      repeat (any_goals (first
        | exact True.intro
        | (refine ⟨k, _, rfl, map_get hx, ?_⟩; conv => whnf)
        | (refine And.intro (fun _ => ?_) tf; conv => whnf)
        | (refine And.intro ft (fun _ => ?_); conv => whnf)
        | (refine And.intro (by kernel_rfl) ?_; conv => whnf)
        | (refine And.intro (by decide) ?_; conv => whnf)
        | (refine And.intro (fun _ => ?_) (fun h => absurd h (by decide)); conv => whnf)
        | (refine And.intro (fun h => absurd h (by decide)) (fun _ => ?_); conv => whnf)
        | (refine And.intro (fun _ => ?_) (fun _ => ?_) <;> conv => whnf)
        | (refine ⟨_, _, add64_does (S / word % word) (IntKind.u64.wrap (hiZ c.s)) ((S % word + loZ c.s + 0) / 18446744073709551616) c0.1 w0.1 o0.1 o0.2, ?_⟩; conv => whnf)
        | (refine ⟨_, _, add64_does (S % word) (loZ c.s) 0 a0.1 b0.1 (by omega) (by omega), ?_⟩; conv => whnf)))
      all_goals try (exfalso; simp only [decide_eq_true_eq, decide_eq_false_iff_not, Bool.not_eq_true', Bool.not_eq_false', Bool.not_eq_true, Bool.not_eq_false, beq_iff_eq, bne_iff_ne, beq_eq_false_iff_ne, bne_eq_false_iff_eq, ne_eq, Decidable.not_not] at *; first | omega | contradiction | (simp_all; done) | (simp_all; omega))
      all_goals try (refine Or.inl ?_; conv => whnf)
    refine ⟨(k + 1, S + c.s), ⟨hlt, hss.symm⟩, show l.length - (k + 1) < l.length - k by omega, ?_⟩
    all_goals refine ⟨[], ?_⟩
    repeat (any_goals (first | exact True.intro | exact rfl | with_reducible_and_instances rfl | exact (by kernel_rfl) | refine And.intro ?_ ?_))
    all_goals conv => whnf
    · exact wk1 (by omega)
    · show uN _ = uN ((S + c.s) % word)
      rw [p1, Int.add_zero]; rfl
    · show uN _ = uN ((S + c.s) / word % word)
      rw [p2, w0.2, Int.add_zero]; rfl
    · show iA _ = iA ((S + c.s) / w128)
      rw [p3, w0.2, Int.add_zero, fdiv63]
      have hcs := hc.s
      unfold in128 at hcs
      have e1 : hiZ c.s / 9223372036854775808 = hiZ c.s / 18446744073709551616 := by unfold in64 at hcs; omega
      rw [e1]
      have q1 : 0 ≤ (S / word % word + hiZ c.s % word + (S % word + loZ c.s) / word) / word ∧ (S / word % word + hiZ c.s % word + (S % word + loZ c.s) / word) / word ≤ 1 := by unfold word at *; omega
      have q2 : -1 ≤ hiZ c.s / 18446744073709551616 ∧ hiZ c.s / 18446744073709551616 ≤ 0 := by unfold in64 at hcs; omega
      have q3 : -1001 ≤ S / w128 ∧ S / w128 ≤ 1001 := by unfold w128; omega
      show iA (IntKind.i64.wrap (S / w128 + IntKind.i64.wrap (hiZ c.s / 18446744073709551616 + IntKind.i64.wrap ((S / word % word + hiZ c.s % word + (S % word + loZ c.s) / word) / word)))) = _
      generalize (S / word % word + hiZ c.s % word + (S % word + loZ c.s) / word) / word = o at q1 ⊢
      generalize hiZ c.s / 18446744073709551616 = h at q2 ⊢
      generalize S / w128 = T at q3 ⊢
      refine congrArg iA ?_
      rw [wi (n := o) (by omega) (by omega), wi (n := h + o) (by omega) (by omega), wi (by omega) (by omega)]
  · have hke : k = l.length := by omega
    subst hke
    rw [List.take_of_length_le (by omega)] at hS
    subst hS
    have ht := sums_top (sumS l)
    have e3 : IntKind.i64.wrap (sumS l / word % word) = hiZ (sumS l) ∨ ¬ in128 (sumS l) := by
      rw [IntKind.wrap_i64]
      unfold in128 in64 hiZ word
      omega
    iterate 3
      repeat (any_goals (first
        | exact True.intro
        | (refine And.intro (fun _ => ?_) tf; conv => whnf)
        | (refine And.intro ft (fun _ => ?_); conv => whnf)
        | (refine And.intro (by kernel_rfl) ?_; conv => whnf)
        | (refine And.intro (by decide) ?_; conv => whnf)
        | (refine And.intro (fun _ => ?_) (fun h => absurd h (by decide)); conv => whnf)
        | (refine And.intro (fun h => absurd h (by decide)) (fun _ => ?_); conv => whnf)
        | (refine And.intro (fun _ => ?_) (fun _ => ?_) <;> conv => whnf)))
      all_goals try (exfalso; simp only [decide_eq_true_eq, decide_eq_false_iff_not, Bool.not_eq_true', Bool.not_eq_false', Bool.not_eq_true, Bool.not_eq_false, beq_iff_eq, bne_iff_ne, beq_eq_false_iff_ne, bne_eq_false_iff_eq, ne_eq, Decidable.not_not] at *; first | omega | contradiction | (simp_all; done) | (simp_all; omega))
      all_goals try (refine Or.inl ?_; conv => whnf)
    · rename_i h
      have h : (sumS l / w128 != (IntKind.i64.wrap (sumS l / word % word)).fdiv (2 ^ min (Int.toNat 63) IntKind.i64.bits)) = true := h
      rw [ht] at h
      rw [if_neg (by simpa using h)]
      all_goals refine ⟨[], ?_⟩
      repeat (any_goals (first | exact True.intro | exact rfl | with_reducible_and_instances rfl | exact (by kernel_rfl) | refine And.intro ?_ ?_))
      all_goals conv => whnf
    · rename_i h
      have h : (sumS l / w128 != (IntKind.i64.wrap (sumS l / word % word)).fdiv (2 ^ min (Int.toNat 63) IntKind.i64.bits)) = false := h
      rw [ht] at h
      have hin : in128 (sumS l) := by simpa using h
      rw [if_pos hin]
      all_goals refine ⟨[], ?_⟩
      repeat (any_goals (first | exact True.intro | exact rfl | with_reducible_and_instances rfl | exact (by kernel_rfl) | refine And.intro ?_ ?_))
      all_goals conv => whnf
      exact congrArg (fun z => (AV.d (.agg [iD z, uZ (sumS l % word)]))) (e3.resolve_right (fun q => q hin))
end Go.Proofs.Ytbjmdnemeidpjaa
/- total with its three closures; Right. -/
namespace Go.Proofs.Ytbjmdnemeidpjaa
set_option linter.unusedSimpArgs false
set_option linter.unusedVariables false
open Go.RowKit
set_option maxRecDepth 100000
theorem safeAdd_sat (a b : Int) (ha : in64 a) (hb : in64 b) : Sat Try.prog 39 [iA a, iA b] [] (.tup [iA (addR a b).1, iA (addR a b).2]) [] :=
  .of_same (by repeat constructor) (by repeat constructor) fun w => safeAdd_any a b w ha.1 ha.2 hb.1 hb.2
theorem tot_n (c : Cel) : Sat Try.prog 47 [.fp (cR c)] [] (iA c.n) [] := by
  refine sat_of_vc (T := tiOf Try.prog) (E := E0) Try.func47 rfl rfl hE0 hm0 rfl ?_
  conv => whnf
  iterate 3
    repeat (any_goals (first
      | exact True.intro
      | (refine ⟨_, drop_id, ?_⟩; conv => whnf)
      | (refine ⟨_, _, at_n, ?_⟩; conv => whnf)
      | (refine ⟨_, _, at_hi, ?_⟩; conv => whnf)
      | (refine ⟨_, _, at_lo, ?_⟩; conv => whnf)
      | (refine ⟨_, _, at_mn, ?_⟩; conv => whnf)
      | (refine ⟨_, _, at_mx, ?_⟩; conv => whnf)
      | (refine ⟨_, _, at_ce, ?_⟩; conv => whnf)
      | (refine ⟨_, _, at_po, ?_⟩; conv => whnf)
      | (refine ⟨_, whole_z sC, clenz sC, ?_⟩; conv => whnf)
      | (refine ⟨_, setzC, ?_⟩; conv => whnf)
      | (refine And.intro (clenz sC) ?_; conv => whnf)
      | (refine And.intro fitzC ?_; conv => whnf)
      | (refine ⟨_, whole_z sF, clenz sF, ?_⟩; conv => whnf)
      | (refine ⟨_, setzF, ?_⟩; conv => whnf)
      | (refine And.intro (clenz sF) ?_; conv => whnf)
      | (refine And.intro fitzF ?_; conv => whnf)
      | (refine And.intro (fit1 rfl (by decide)) ?_; conv => whnf)
      | (refine ⟨_, sum_cell s25, rfl, ?_⟩; conv => whnf)
      | (refine ⟨_, set_n _, ?_⟩; conv => whnf)
      | (refine ⟨_, set_mn _, ?_⟩; conv => whnf)
      | (refine ⟨_, set_mx _, ?_⟩; conv => whnf)
      | (refine ⟨_, set_ce _, ?_⟩; conv => whnf)
      | (refine ⟨_, set_po _, ?_⟩; conv => whnf)
      | (refine ⟨_, set_s _, ?_⟩; conv => whnf)
      | (refine ⟨_, set_hi _, ?_⟩; conv => whnf)
      | (refine ⟨_, set_lo _, ?_⟩; conv => whnf)
      | (refine And.intro (fun _ => ?_) tf; conv => whnf)
      | (refine And.intro ft (fun _ => ?_); conv => whnf)
      | (refine And.intro (by kernel_rfl) ?_; conv => whnf)
      | (refine And.intro (by decide) ?_; conv => whnf)
      | (refine And.intro (fun _ => ?_) (fun h => absurd h (by decide)); conv => whnf)
      | (refine And.intro (fun h => absurd h (by decide)) (fun _ => ?_); conv => whnf)
      | (refine And.intro (fun _ => ?_) (fun _ => ?_) <;> conv => whnf)))
    all_goals try (refine Or.inl ?_; conv => whnf)
  all_goals refine ⟨[], ?_⟩
  repeat (any_goals (first | exact True.intro | exact rfl | with_reducible_and_instances rfl | exact (by kernel_rfl) | refine And.intro ?_ ?_))
  all_goals conv => whnf
theorem tot_ce (c : Cel) : Sat Try.prog 48 [.fp (cR c)] [] (iA c.ce) [] := by
  refine sat_of_vc (T := tiOf Try.prog) (E := E0) Try.func48 rfl rfl hE0 hm0 rfl ?_
  conv => whnf
  iterate 3
    repeat (any_goals (first
      | exact True.intro
      | (refine ⟨_, drop_id, ?_⟩; conv => whnf)
      | (refine ⟨_, _, at_n, ?_⟩; conv => whnf)
      | (refine ⟨_, _, at_hi, ?_⟩; conv => whnf)
      | (refine ⟨_, _, at_lo, ?_⟩; conv => whnf)
      | (refine ⟨_, _, at_mn, ?_⟩; conv => whnf)
      | (refine ⟨_, _, at_mx, ?_⟩; conv => whnf)
      | (refine ⟨_, _, at_ce, ?_⟩; conv => whnf)
      | (refine ⟨_, _, at_po, ?_⟩; conv => whnf)
      | (refine ⟨_, whole_z sC, clenz sC, ?_⟩; conv => whnf)
      | (refine ⟨_, setzC, ?_⟩; conv => whnf)
      | (refine And.intro (clenz sC) ?_; conv => whnf)
      | (refine And.intro fitzC ?_; conv => whnf)
      | (refine ⟨_, whole_z sF, clenz sF, ?_⟩; conv => whnf)
      | (refine ⟨_, setzF, ?_⟩; conv => whnf)
      | (refine And.intro (clenz sF) ?_; conv => whnf)
      | (refine And.intro fitzF ?_; conv => whnf)
      | (refine And.intro (fit1 rfl (by decide)) ?_; conv => whnf)
      | (refine ⟨_, sum_cell s25, rfl, ?_⟩; conv => whnf)
      | (refine ⟨_, set_n _, ?_⟩; conv => whnf)
      | (refine ⟨_, set_mn _, ?_⟩; conv => whnf)
      | (refine ⟨_, set_mx _, ?_⟩; conv => whnf)
      | (refine ⟨_, set_ce _, ?_⟩; conv => whnf)
      | (refine ⟨_, set_po _, ?_⟩; conv => whnf)
      | (refine ⟨_, set_s _, ?_⟩; conv => whnf)
      | (refine ⟨_, set_hi _, ?_⟩; conv => whnf)
      | (refine ⟨_, set_lo _, ?_⟩; conv => whnf)
      | (refine And.intro (fun _ => ?_) tf; conv => whnf)
      | (refine And.intro ft (fun _ => ?_); conv => whnf)
      | (refine And.intro (by kernel_rfl) ?_; conv => whnf)
      | (refine And.intro (by decide) ?_; conv => whnf)
      | (refine And.intro (fun _ => ?_) (fun h => absurd h (by decide)); conv => whnf)
      | (refine And.intro (fun h => absurd h (by decide)) (fun _ => ?_); conv => whnf)
      | (refine And.intro (fun _ => ?_) (fun _ => ?_) <;> conv => whnf)))
    all_goals try (refine Or.inl ?_; conv => whnf)
  all_goals refine ⟨[], ?_⟩
  repeat (any_goals (first | exact True.intro | exact rfl | with_reducible_and_instances rfl | exact (by kernel_rfl) | refine And.intro ?_ ?_))
  all_goals conv => whnf
theorem tot_po (c : Cel) : Sat Try.prog 49 [.fp (cR c)] [] (iA c.po) [] := by
  refine sat_of_vc (T := tiOf Try.prog) (E := E0) Try.func49 rfl rfl hE0 hm0 rfl ?_
  conv => whnf
  iterate 3
    repeat (any_goals (first
      | exact True.intro
      | (refine ⟨_, drop_id, ?_⟩; conv => whnf)
      | (refine ⟨_, _, at_n, ?_⟩; conv => whnf)
      | (refine ⟨_, _, at_hi, ?_⟩; conv => whnf)
      | (refine ⟨_, _, at_lo, ?_⟩; conv => whnf)
      | (refine ⟨_, _, at_mn, ?_⟩; conv => whnf)
      | (refine ⟨_, _, at_mx, ?_⟩; conv => whnf)
      | (refine ⟨_, _, at_ce, ?_⟩; conv => whnf)
      | (refine ⟨_, _, at_po, ?_⟩; conv => whnf)
      | (refine ⟨_, whole_z sC, clenz sC, ?_⟩; conv => whnf)
      | (refine ⟨_, setzC, ?_⟩; conv => whnf)
      | (refine And.intro (clenz sC) ?_; conv => whnf)
      | (refine And.intro fitzC ?_; conv => whnf)
      | (refine ⟨_, whole_z sF, clenz sF, ?_⟩; conv => whnf)
      | (refine ⟨_, setzF, ?_⟩; conv => whnf)
      | (refine And.intro (clenz sF) ?_; conv => whnf)
      | (refine And.intro fitzF ?_; conv => whnf)
      | (refine And.intro (fit1 rfl (by decide)) ?_; conv => whnf)
      | (refine ⟨_, sum_cell s25, rfl, ?_⟩; conv => whnf)
      | (refine ⟨_, set_n _, ?_⟩; conv => whnf)
      | (refine ⟨_, set_mn _, ?_⟩; conv => whnf)
      | (refine ⟨_, set_mx _, ?_⟩; conv => whnf)
      | (refine ⟨_, set_ce _, ?_⟩; conv => whnf)
      | (refine ⟨_, set_po _, ?_⟩; conv => whnf)
      | (refine ⟨_, set_s _, ?_⟩; conv => whnf)
      | (refine ⟨_, set_hi _, ?_⟩; conv => whnf)
      | (refine ⟨_, set_lo _, ?_⟩; conv => whnf)
      | (refine And.intro (fun _ => ?_) tf; conv => whnf)
      | (refine And.intro ft (fun _ => ?_); conv => whnf)
      | (refine And.intro (by kernel_rfl) ?_; conv => whnf)
      | (refine And.intro (by decide) ?_; conv => whnf)
      | (refine And.intro (fun _ => ?_) (fun h => absurd h (by decide)); conv => whnf)
      | (refine And.intro (fun h => absurd h (by decide)) (fun _ => ?_); conv => whnf)
      | (refine And.intro (fun _ => ?_) (fun _ => ?_) <;> conv => whnf)))
    all_goals try (refine Or.inl ?_; conv => whnf)
  all_goals refine ⟨[], ?_⟩
  repeat (any_goals (first | exact True.intro | exact rfl | with_reducible_and_instances rfl | exact (by kernel_rfl) | refine And.intro ?_ ?_))
  all_goals conv => whnf
def sumBy (f : Cel → Int) (l : List Cel) : Int := (l.map f).sum
theorem sumBy_succ {f : Cel → Int} {l : List Cel} {k : Nat} {c : Cel} (h : l[k]? = some c) : sumBy f (l.take (k + 1)) = sumBy f (l.take k) + f c := by
  unfold sumBy
  rw [List.map_take, List.map_take]
  exact sum_take_succ (by rw [List.getElem?_map, h]; rfl)
theorem sumBy_nonneg {f : Cel → Int} : ∀ {l : List Cel}, (∀ c ∈ l, 0 ≤ f c) → 0 ≤ sumBy f l
  | [], _ => Int.le_refl _
  | c :: l, h => by
    have := sumBy_nonneg (l := l) fun d hd => h d (List.mem_cons_of_mem _ hd)
    have := h c (List.mem_cons_self ..)
    unfold sumBy at *
    rw [List.map_cons, List.sum_cons]; omega
theorem sumBy_take {f : Cel → Int} {l : List Cel} (h : ∀ c ∈ l, 0 ≤ f c) (k : Nat) : 0 ≤ sumBy f (l.take k) ∧ sumBy f (l.take k) ≤ sumBy f l := by
  refine ⟨sumBy_nonneg fun c hc => h c (List.mem_of_mem_take hc), ?_⟩
  have e : sumBy f l = sumBy f (l.take k) + sumBy f (l.drop k) := by
    unfold sumBy
    rw [← List.sum_append, ← List.map_append, List.take_append_drop]
  have := sumBy_nonneg (f := f) (l := l.drop k) fun c hc => h c (List.mem_of_mem_drop hc)
  omega
theorem total_cells (g : FuncId) (f : Cel → Int) (l : List Cel) (hn : l.length ≤ 1000) (hf : ∀ c ∈ l, 0 ≤ f c ∧ in64 (f c)) (hg : ∀ c ∈ l, Sat Try.prog g [.fp (cR c)] [] (iA (f c)) []) (hE : E0 g = true) :
    Sat Try.prog 46 [.d (.sl 72 (l.map cR)), .fn (.func g) [] []] [] (if sumBy f l ≤ 9223372036854775807 then .tup [iA (sumBy f l), bA true] else .tup [iA 0, bA false]) [] := by
  have hm : (l.map cR).length = l.length := List.length_map _
  have h0 : ∀ c ∈ l, 0 ≤ f c := fun c hc => (hf c hc).1
  refine sat_of_vc (T := tiOf Try.prog) (E := E0) Try.func46 rfl rfl hE0 hm0 rfl ?_
  conv => whnf
  repeat (any_goals (first
    | exact True.intro
    | (refine Or.inl ?_; conv => whnf)
    | (refine And.intro (fun _ => ?_) tf; conv => whnf)
    | (refine And.intro ft (fun _ => ?_); conv => whnf)
    | (refine And.intro (by kernel_rfl) ?_; conv => whnf)
    | (refine And.intro (by decide) ?_; conv => whnf)
    | (refine And.intro (fun _ => ?_) (fun h => absurd h (by decide)); conv => whnf)
    | (refine And.intro (fun h => absurd h (by decide)) (fun _ => ?_); conv => whnf)
    | (refine And.intro (fun _ => ?_) (fun _ => ?_) <;> conv => whnf)))
  refine ⟨Nat × Int, fun y => y.1 ≤ l.length ∧ y.2 = sumBy f (l.take y.1) ∧ y.2 ≤ 9223372036854775807, fun y => ([(12, iA y.1), (11, iA (l.map cR).length), (10, .d (.sl 72 (l.map cR))), (6, iA y.2), (0, .d (.sl 72 (l.map cR))), (1, .fn (.func g) [] [])], []), fun y => l.length - y.1, ⟨(0, 0), ⟨Nat.zero_le _, rfl, by decide⟩, ?_⟩, ?_⟩
  · all_goals refine ⟨[], ?_⟩
    repeat (any_goals (first | exact True.intro | exact rfl | with_reducible_and_instances rfl | exact (by kernel_rfl) | refine And.intro ?_ ?_))
    all_goals conv => whnf
  rintro ⟨k, S⟩ ⟨hk, hS, hb⟩
  have hk : k ≤ l.length := hk
  have hS : S = sumBy f (l.take k) := hS
  have hb : S ≤ 9223372036854775807 := hb
  have ht := sumBy_take h0 k
  rw [← hS] at ht
  conv => whnf
  by_cases hlt : k < l.length
  · have hx : l[k]? = some l[k] := List.getElem?_eq_getElem hlt
    have hc := hf _ (List.getElem_mem hlt)
    have hgc := hg _ (List.getElem_mem hlt)
    have hss := sumBy_succ (f := f) hx
    have ht2 := sumBy_take h0 (k + 1)
    generalize l[k] = c at hx hc hss hgc
    rw [← hS] at hss
    have sa := safeAdd_sat S (f c) (by unfold in64; omega) hc.2
    have ea : addR S (f c) = if S + f c ≤ 9223372036854775807 then (S + f c, 0) else (0, 12) := by
      unfold addR
      by_cases q : S + f c ≤ 9223372036854775807
      · rw [if_pos q, if_neg (by omega)]
      · rw [if_neg q, if_pos (by omega)]
    rw [ea] at sa
    by_cases q : S + f c ≤ 9223372036854775807
    · rw [if_pos q] at sa
      iterate 5
        repeat (any_goals (first
          | exact True.intro
          | (rw [hE]; conv => whnf)
          | (refine ⟨k, _, rfl, map_get hx, ?_⟩; conv => whnf)
          | (refine And.intro (fun _ => ?_) tf; conv => whnf)
          | (refine And.intro ft (fun _ => ?_); conv => whnf)
          | (refine And.intro (by kernel_rfl) ?_; conv => whnf)
          | (refine And.intro (by decide) ?_; conv => whnf)
          | (refine And.intro (fun _ => ?_) (fun h => absurd h (by decide)); conv => whnf)
          | (refine And.intro (fun h => absurd h (by decide)) (fun _ => ?_); conv => whnf)
          | (refine And.intro (fun _ => ?_) (fun _ => ?_) <;> conv => whnf)
          | (refine ⟨_, _, hgc.pu rfl rfl, ?_⟩; conv => whnf)
          | (refine ⟨_, _, sa.pu rfl rfl, ?_⟩; conv => whnf)))
        all_goals try (exfalso; simp only [decide_eq_true_eq, decide_eq_false_iff_not, Bool.not_eq_true', Bool.not_eq_false', Bool.not_eq_true, Bool.not_eq_false, beq_iff_eq, bne_iff_ne, beq_eq_false_iff_ne, bne_eq_false_iff_eq, ne_eq, Decidable.not_not] at *; first | omega | contradiction | (simp_all; done) | (simp_all; omega))
        all_goals try (refine Or.inl ?_; conv => whnf)
      refine ⟨(k + 1, S + f c), ⟨hlt, hss.symm, q⟩, show l.length - (k + 1) < l.length - k by omega, ?_⟩
      all_goals refine ⟨[], ?_⟩
      repeat (any_goals (first | exact True.intro | exact rfl | with_reducible_and_instances rfl | exact (by kernel_rfl) | refine And.intro ?_ ?_))
      all_goals conv => whnf
      exact wk1 (by omega)
    · rw [if_neg q] at sa
      iterate 5
        repeat (any_goals (first
          | exact True.intro
          | (rw [hE]; conv => whnf)
          | (refine ⟨k, _, rfl, map_get hx, ?_⟩; conv => whnf)
          | (refine And.intro (fun _ => ?_) tf; conv => whnf)
          | (refine And.intro ft (fun _ => ?_); conv => whnf)
          | (refine And.intro (by kernel_rfl) ?_; conv => whnf)
          | (refine And.intro (by decide) ?_; conv => whnf)
          | (refine And.intro (fun _ => ?_) (fun h => absurd h (by decide)); conv => whnf)
          | (refine And.intro (fun h => absurd h (by decide)) (fun _ => ?_); conv => whnf)
          | (refine And.intro (fun _ => ?_) (fun _ => ?_) <;> conv => whnf)
          | (refine ⟨_, _, hgc.pu rfl rfl, ?_⟩; conv => whnf)
          | (refine ⟨_, _, sa.pu rfl rfl, ?_⟩; conv => whnf)))
        all_goals try (exfalso; simp only [decide_eq_true_eq, decide_eq_false_iff_not, Bool.not_eq_true', Bool.not_eq_false', Bool.not_eq_true, Bool.not_eq_false, beq_iff_eq, bne_iff_ne, beq_eq_false_iff_ne, bne_eq_false_iff_eq, ne_eq, Decidable.not_not] at *; first | omega | contradiction | (simp_all; done) | (simp_all; omega))
        all_goals try (refine Or.inl ?_; conv => whnf)
      rw [if_neg (by rw [hss] at ht2; omega)]
      all_goals refine ⟨[], ?_⟩
      repeat (any_goals (first | exact True.intro | exact rfl | with_reducible_and_instances rfl | exact (by kernel_rfl) | refine And.intro ?_ ?_))
      all_goals conv => whnf
  · have hke : k = l.length := by omega
    subst hke
    rw [List.take_of_length_le (by omega)] at hS
    subst hS
    iterate 3
      repeat (any_goals (first
        | exact True.intro
        | (refine And.intro (fun _ => ?_) tf; conv => whnf)
        | (refine And.intro ft (fun _ => ?_); conv => whnf)
        | (refine And.intro (by kernel_rfl) ?_; conv => whnf)
        | (refine And.intro (by decide) ?_; conv => whnf)
        | (refine And.intro (fun _ => ?_) (fun h => absurd h (by decide)); conv => whnf)
        | (refine And.intro (fun h => absurd h (by decide)) (fun _ => ?_); conv => whnf)
        | (refine And.intro (fun _ => ?_) (fun _ => ?_) <;> conv => whnf)))
      all_goals try (exfalso; simp only [decide_eq_true_eq, decide_eq_false_iff_not, Bool.not_eq_true', Bool.not_eq_false', Bool.not_eq_true, Bool.not_eq_false, beq_iff_eq, bne_iff_ne, beq_eq_false_iff_ne, bne_eq_false_iff_eq, ne_eq, Decidable.not_not] at *; first | omega | contradiction | (simp_all; done) | (simp_all; omega))
      all_goals try (refine Or.inl ?_; conv => whnf)
    rw [if_pos hb]
    all_goals refine ⟨[], ?_⟩
    repeat (any_goals (first | exact True.intro | exact rfl | with_reducible_and_instances rfl | exact (by kernel_rfl) | refine And.intro ?_ ?_))
    all_goals conv => whnf
end Go.Proofs.Ytbjmdnemeidpjaa
