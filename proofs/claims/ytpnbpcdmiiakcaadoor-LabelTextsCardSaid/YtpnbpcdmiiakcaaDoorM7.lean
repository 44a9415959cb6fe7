/- Parts CodeC, CodeD, Str, CodeE, CodeF, HistA, HistB, HistC, HistD0, HistE, Ra, Rb, Rc, Rd, Re, Rf, Rg, Rh, Ri, Rj2, Rj, Rk, Rl0, Hd, Hs, HistI, Hr, HistG, Gap, HistF, HistH, Hk, Hf, Ht, Hq, CdA, LaH, LaI, LaJ, CdB of the proof, put together. -/
import Derived.Test.YtpnbpcdmiiakcaaDoorM6
import Derived.Lib.AppendStr
import Derived.Laws.IdiomStrings
import Derived.Lib.BufferRead
import Derived.Test.YtpnbpcdmiiakcaaDoorShelf
import Derived.Laws.Externs
import Derived.Deep.RegionHeld3
import Derived.ChangeKeysEq
import Derived.RangeFuncNested
import Derived.RangeFuncBound
import Derived.RangeFuncCalls
import Derived.RangeFuncLeaves
import Derived.Shelf.Abstract
import Derived.Shelf.RegionOpen
import Derived.OwnWalkIn
import Derived.TacticsInMore
import Derived.LoopNIn
import Derived.LoopIn
import Derived.Test.YtpnbpcdmiiakcaaDoorProg
import Derived.Outline
import Derived.RangeFuncFrom
import Derived.TacticsIn
import Derived.OrdersIn
/- code.count, and the Reader's methods. -/
namespace Go.Proofs.YtpnbpcdmiiakcaaDoor
open Go.RowKit
set_option linter.unusedVariables false
set_option linter.unusedSimpArgs false

def cnt (l : List UInt8) (most : Int) : Nat × Nat × Nat := if (dec l).2.2 ≠ 0 then (0, 0, (dec l).2.2) else if max most 0 < (dec l).1 then (0, 0, 17) else dec l
theorem cnt_bounds (l : List UInt8) (most : Int) : ((cnt l most).1 : Int) ≤ max most 0 ∧ (cnt l most).2.1 ≤ l.length ∧ (cnt l most).2.1 ≤ 10 ∧ (cnt l most).2.2 ≤ 17 := by
  have h := dec_bounds l 0 0 (dec l).1 (dec l).2.1 (dec l).2.2 (by omega) (by simp) rfl
  unfold cnt
  split
  · simp; omega
  · split
    · simp; omega
    · omega

set_option maxHeartbeats 400000 in
set_option maxRecDepth 100000 in
theorem count_any (A : Option Addr) (n c : Nat) (l : List UInt8) (most : Int) (w : World) (hr : RdB w w.heap.size A n l) (hn : n ≤ 140737488351232) (hm : most ≤ 9223372036854775807) :
    Calls Tryd.prog 62 #[.slice A n c, .int .i64 most] w fun e w' => e = .returned (.tuple #[.int .i64 (cnt l most).1, .int .i64 (cnt l most).2.1, .int .i64 (cnt l most).2.2]) ∧ w = w' := by
  have hb := dec_bounds l 0 0 (dec l).1 (dec l).2.1 (dec l).2.2 (by omega) (by simp) rfl
  obtain ⟨_, hb2, hb3, hb4, hb5⟩ := hb
  have HF := hide (first_any A n c l w hr hn)
  have HC := hide (show cnt l most = if (dec l).2.2 ≠ 0 then (0, 0, (dec l).2.2) else if max most 0 < (dec l).1 then (0, 0, 17) else dec l from rfl)
  generalize hcnt : cnt l most = C at *
  clear hcnt
  generalize dec l = d at *
  obtain ⟨u, s, er⟩ := d
  simp only at HF HC hb2 hb3 hb4 hb5 ⊢
  have HM := hide hm
  clear hm
  by_cases h0 : er = 0
  · have he : ((er : Int) != 0) = false := by rw [h0]; rfl
    have HE := hide h0
    clear h0 hb3 hb4
    have hcc := HC.out
    rw [if_neg (by simp [HE.out])] at hcc
    have HCC := hide hcc
    clear hcc HC
    have HU := hide (show IntKind.u64.wrap (max most 0) = max most 0 from by have := HM.out; rw [u64_wrap]; omega)
    by_cases hneg : most < 0
    · have hmx : max most 0 = 0 := by omega
      have hu0 := HU.out
      rw [hmx] at hu0
      have HCM := HCC.out
      rw [hmx] at HCM
      clear HCC
      by_cases hu : 0 < u
      · rw [if_pos (by omega)] at HCM
        rw [HCM]
        clear HCM
        go_enter Tryd.func62, Tryd.ntmps62
        go_wp2_with (go_at_call 82; refine HF.out.mono ?_; rintro e w' ⟨rfl, rfl⟩)
        go_ret3
        exact ⟨rfl, rfl⟩
      · rw [if_neg (by omega)] at HCM
        rw [HCM, HE.out]
        clear HCM
        have huw : IntKind.i64.wrap (u : Int) = u := by rw [IntKind.wrap_i64]; omega
        go_enter Tryd.func62, Tryd.ntmps62
        go_wp2_with (go_at_call 82; refine HF.out.mono ?_; rintro e w' ⟨rfl, rfl⟩)
        go_ret3
        exact ⟨by simp [huw], rfl⟩
    · have hmx : max most 0 = most := by omega
      have hu0 := HU.out
      rw [hmx] at hu0
      have HCM := HCC.out
      rw [hmx] at HCM
      clear HCC
      by_cases hu : most < (u : Int)
      · rw [if_pos (by omega)] at HCM
        rw [HCM]
        clear HCM
        go_enter Tryd.func62, Tryd.ntmps62
        go_wp2_with (go_at_call 82; refine HF.out.mono ?_; rintro e w' ⟨rfl, rfl⟩)
        all_goals
          go_ret3
          exact ⟨rfl, rfl⟩
      · rw [if_neg (by omega)] at HCM
        rw [HCM, HE.out]
        clear HCM
        have huw : IntKind.i64.wrap (u : Int) = u := by have := HM.out; rw [IntKind.wrap_i64]; omega
        go_enter Tryd.func62, Tryd.ntmps62
        go_wp2_with (go_at_call 82; refine HF.out.mono ?_; rintro e w' ⟨rfl, rfl⟩)
        all_goals
          go_ret3
          exact ⟨by simp [huw], rfl⟩
  · have he : ((er : Int) != 0) = true := by simp; omega
    have hcc := HC.out
    rw [if_pos (by simpa using h0)] at hcc
    rw [hcc]
    clear h0 hb3 hb4 HC hcc
    go_enter Tryd.func62, Tryd.ntmps62
    go_wp2_with (go_at_call 82; refine HF.out.mono ?_; rintro e w' ⟨rfl, rfl⟩)
    go_ret3
    exact ⟨rfl, rfl⟩

/-! ### the Reader -/
/-- The reader at block g has the bytes l still to come, and the fault e. -/
def Rdr (w : World) (g : Nat) (l : List UInt8) (e : Nat) : Prop :=
  ∃ A n c, Blk w g 84 #[.slice A n c, .int .i64 (e : Int)] ∧ RdB w g A n l ∧ n ≤ c ∧ c ≤ maxLen ∧ n ≤ 140737488351232
def tkL (l : List UInt8) (e size er : Nat) : List UInt8 := if e = 0 ∧ er = 0 then l.drop size else l
def tkE (e er : Nat) : Nat := if e = 0 then er else e
theorem Rdr.lt {w : World} {g e : Nat} {l : List UInt8} (h : Rdr w g l e) : g < w.heap.size := by
  obtain ⟨A, n, c, hk, _⟩ := h
  exact hk.lt

/-! ### Uint, Count, Left, Err, End -/
def uV (l : List UInt8) (e : Nat) : Nat := if e = 0 ∧ (dec l).2.2 = 0 then (dec l).1 else 0
end Go.Proofs.YtpnbpcdmiiakcaaDoor
/- code.Turn, code.Unturn. -/
namespace Go.Proofs.YtpnbpcdmiiakcaaDoor
open Go.RowKit
set_option linter.unusedVariables false
set_option linter.unusedSimpArgs false

def unturnZ (u : Nat) : Int := if u % 2 = 0 then (u : Int) / 2 else -((u : Int) / 2) - 1
/-! ### Int, Count, Left, Err, End -/
def endE (l : List UInt8) (e : Nat) : Nat := if l = [] then e else tkE e 10
end Go.Proofs.YtpnbpcdmiiakcaaDoor
/- append of a string's bytes onto an owned slice; a slice of strings that is read; bytes as a string. No program is named here. -/
namespace Go.Proofs.YtpnbpcdmiiakcaaDoor
set_option linter.unusedSimpArgs false
set_option linter.unusedVariables false
open Go.RowKit

theorem strCells_bv (s : ByteArray) : Lib.strCells s = s.data.toList.map bv := rfl
theorem size_toList (s : ByteArray) : s.data.toList.length = s.size := by rw [Array.length_toList]; rfl

section
variable {P : Program} (w : World)
theorem run_append_room_str (t u ty e : TypeId) (i : TypeInfo) (ht : P.underlying t = some (.slice e)) (hu : P.underlying u = some .string) (hi : P.info? e = some i) (hs1 : i.size = 1)
    (b off sLen sCap : Nat) (s : ByteArray) (hroom : sLen + s.size ≤ sCap)
    (hc : ∀ j, j < s.size → (w.cell? ⟨b, off + sLen + j, none⟩).isSome = true) (hf : ∀ j, j < s.size → w.frozen? ⟨b, off + sLen + j, none⟩ = false) :
    (Builtin.append_ #[t, u] ty #[.slice (some ⟨b, off, none⟩) sLen sCap, .string s]).run P w = .ok (.slice (some ⟨b, off, none⟩) (sLen + s.size) sCap) (w.setCells b (off + sLen) (Lib.strCells s)) := by
  have hfc := Lib.run_firstCells_string (P := P) w 1 s
  have hst := run_storeCells_cells (P := P) b (off + sLen) (Lib.strCells s) 0 w (by simpa [Lib.strCells_length] using hc) (by simpa [Lib.strCells_length] using hf) (Lib.strCells_oneCell s)
  simp only [Nat.add_zero] at hst
  simp [Builtin.append_, run_underlying ht, run_underlying hu, sizeOf, typeInfo, hi, hs1, Builtin.lenOf, hroom, hfc, Addr.add_lit, hst]

theorem run_append_ow_str (lo : Nat) (t u ty e : TypeId) (i : TypeInfo) (ht : P.underlying t = some (.slice e)) (hu : P.underlying u = some .string) (hi : P.info? e = some i) (hz : i.zero = some (.int .u8 0))
    (hsize : i.size = 1) (hby : i.bytes = 1)
    (v : Value) (n : Nat) (xs : List Value) (hown : Ow w lo e 1 v n xs) (s : ByteArray)
    (h63 : n + s.size ≤ maxLen) (hbytes : n + s.size ≤ 140737488355328) (hbase : lo ≤ w.heap.size) :
    ∃ v' w', (Builtin.append_ #[t, u] ty #[v, .string s]).run P w = .ok v' w' ∧ Ow w' lo e 1 v' (n + s.size) (xs ++ s.data.toList.map bv) ∧ w.grownBy w' v.ownBlock := by
  have hxl : xs.length = n := by simpa using hown.1
  have grow : ∀ (a0 : Addr) (cap : Nat), v = .slice (some a0) n cap → cap < n + s.size → (∀ j u, xs[j]? = some u → w.cell? (a0.add j) = some u) →
      ∃ v' w', (Builtin.append_ #[t, u] ty #[v, .string s]).run P w = .ok v' w' ∧ Ow w' lo e 1 v' (n + s.size) (xs ++ s.data.toList.map bv) ∧ w.grownBy w' v.ownBlock := by
    rintro a0 cap rfl hfull hcell0
    have hr := Lib.run_append_grow_string (P := P) w t u ty e i (.int .u8 0) ht hu hi hz a0 n cap xs (by rw [hsize, Nat.mul_one]; exact hxl) hcell0 s hfull (by simp only [maxLen] at h63; omega) (by rw [hby]; exact growslice_fits hfull (by omega))
    have hge := grownCap_ge w (n + s.size) cap e
    have hcm := grownCap_le_maxLen w (n + s.size) cap e h63
    refine ⟨_, _, hr, Ow.of_own ⟨by rw [List.length_append, hxl, List.length_map, size_toList, Nat.mul_one], .inr ⟨w.heap.size, _, _, rfl, hbase, heap_alloc_new w.drew _, hge, hcm, ?_, ?_⟩⟩, ⟨rfl, rfl, rfl, by simp, fun k hk _ => heap_alloc_old w.drew _ hk⟩⟩
    · have hzs : (Value.int IntKind.u8 0).cells.size = 1 := rfl
      simp only [Array.size_append, List.size_toArray, size_zeroCells, Lib.strCells_length, hxl, hzs, Nat.mul_one]
      omega
    · simp only [Array.toList_append, List.append_assoc]
      rw [← List.append_assoc]
      have : (xs ++ Lib.strCells s).length = (n + s.size) * 1 := by rw [List.length_append, hxl, Lib.strCells_length, Nat.mul_one]
      rw [← this]
      exact List.take_left
  rcases hown.2 with ⟨rfl, rfl⟩ | ⟨a0, rfl, hlo, rfl⟩ | ⟨g, off, cap, rfl, hlo, hlt, hnc, hcm, hroom, hx⟩
  · obtain rfl : xs = [] := hown.nil_of
    obtain ⟨v', w', hr, h2, h3, h4⟩ := Lib.run_append_own_string (P := P) w lo t u ty e i ht hu hi hz hsize hby (.slice none 0 0) 0 [] (World.ownsRow_nil w _ e 1) s h63 hbytes hbase
    exact ⟨v', w', hr, Ow.of_own h2, h3⟩
  · obtain rfl : xs = [] := hown.nil_of
    by_cases hs0 : s.size = 0
    · have hnil : s.data.toList = [] := List.eq_nil_of_length_eq_zero (by rw [size_toList]; exact hs0)
      obtain ⟨⟩ | _ := Nat.eq_zero_or_pos s.size
      all_goals
        refine ⟨.slice (some a0) 0 0, w, ?_, by simpa [hs0, hnil] using hown, World.grownBy.refl w _⟩
        have hfc := Lib.run_firstCells_string (P := P) w 1 s
        have hsc : Lib.strCells s = [] := by rw [strCells_bv, hnil]; rfl
        rw [hsc] at hfc
        simp [Builtin.append_, run_underlying ht, run_underlying hu, sizeOf, typeInfo, hi, hsize, Builtin.lenOf, hs0]
        rw [hs0] at hfc
        simp [hfc, storeCells]
    · exact grow a0 0 rfl (by omega) (by intro j u hu; simp at hu)
  · by_cases hfit : n + s.size ≤ cap
    · have hrun := run_append_room_str (P := P) w t u ty e i ht hu hi hsize g off n cap s hfit
        (fun j hj => by rw [Nat.add_assoc]; exact (hroom _ (by omega)).1) (fun j hj => by rw [Nat.add_assoc]; exact (hroom _ (by omega)).2)
      have hsl := Lib.strCells_length s
      refine ⟨_, _, hrun, ⟨by rw [List.length_append, hxl, List.length_map, size_toList, Nat.mul_one], .inr (.inr ⟨g, off, cap, rfl, hlo, by rw [setCells_size]; exact hlt, hfit, hcm, fun j hj => ?_, fun j hj => ?_⟩)⟩, setCells_grown g _ _ w⟩
      · rw [World.frozen?_setCells]
        refine ⟨?_, (hroom j hj).2⟩
        by_cases hin : n ≤ j ∧ j < n + s.size
        · have h := World.cell?_setCells_in g (Lib.strCells s) (off + n) w (fun q hq => by rw [Nat.add_assoc]; exact (hroom _ (by omega)).1) (j - n) (by omega)
          rw [show off + n + (j - n) = off + j by omega] at h
          rw [h]; rfl
        · rw [World.cell?_setCells_out g (Lib.strCells s) (off + n) w _ (fun _ _ => by simp only; omega)]
          exact (hroom j hj).1
      · have hj : j < (xs ++ Lib.strCells s).length := hj
        show _ = some (xs ++ Lib.strCells s)[j]
        rw [List.length_append] at hj
        by_cases hin : j < xs.length
        · rw [World.cell?_setCells_out g (Lib.strCells s) (off + n) w _ (fun _ _ => by simp only; omega), List.getElem_append_left hin]
          exact hx j hin
        · have h := World.cell?_setCells_in g (Lib.strCells s) (off + n) w (fun q hq => by rw [Nat.add_assoc]; exact (hroom _ (by omega)).1) (j - xs.length) (by omega)
          rw [show off + n + (j - xs.length) = off + j by omega] at h
          rw [h, List.getElem_append_right (by omega)]
    · exact grow ⟨g, off, none⟩ cap rfl (by omega) (fun j u hu => by
        obtain ⟨hj, hu⟩ := List.getElem?_eq_some_iff.1 hu
        rw [Addr.add_lit, hx j hj, hu])

theorem wpList_append_ow_str {ops : Array Oper} {rest : List Oper} {o : Oper} {a : Act} {Q : Exit → Act → World → Prop} (hgd : o.guard = none) (sl x : Operand) (t u : TypeId)
    (ho : o.op = .call { callee := .builtin .append, args := #[sl, x], argTypes := #[t, u] })
    (lo : Nat) (e : TypeId) (i : TypeInfo) (ht : P.underlying t = some (.slice e)) (hu : P.underlying u = some .string) (hi : P.info? e = some i) (hz : i.zero = some (.int .u8 0))
    (hsize : i.size = 1) (hby : i.bytes = 1)
    (v : Value) (n : Nat) (xs : List Value) (hs : a.eval sl = v) (hown : Ow w lo e 1 v n xs) (s : ByteArray) (hx : a.eval x = .string s)
    (h63 : n + s.size ≤ maxLen) (hbytes : n + s.size ≤ 140737488355328) (hbase : lo ≤ w.heap.size)
    (h : ∀ v' w', Ow w' lo e 1 v' (n + s.size) (xs ++ s.data.toList.map bv) → w.grownBy w' v.ownBlock → wpList P ops Q rest (a.put o.dst v') w') : wpList P ops Q (o :: rest) a w := by
  refine wpList_plain hgd fun K hK => ?_
  obtain ⟨v', w', hr, h2, h3⟩ := run_append_ow_str (P := P) w lo t u o.type e i ht hu hi hz hsize hby v n xs hown s h63 hbytes hbase
  unfold Oper.wp execOp
  simp only [ho, resolve, invoke, builtin, Sem.run_bind, Sem.run_pure, Result.andThen_ok, List.map_toArray, List.map_cons, List.map_nil, hs, hx, hr]
  exact hK _ _ (h v' w' h2 h3)
end
end Go.Proofs.YtpnbpcdmiiakcaaDoor
/- code.Uints, code.Ints, code.Texts, code.New, (*Reader).Text. -/
namespace Go.Proofs.YtpnbpcdmiiakcaaDoor
open Go.RowKit
set_option linter.unusedVariables false
set_option linter.unusedSimpArgs false

def u64v (x : Nat) : Value := .int .u64 (x : Int)
def strv (s : ByteArray) : Value := .string s
def encs (l : List Nat) : List UInt8 := (l.map enc).flatten
theorem encs_snoc (l : List Nat) (k : Nat) (x : Nat) (h : l[k]? = some x) : encs (l.take (k + 1)) = encs (l.take k) ++ enc x := by
  unfold encs
  rw [List.take_add_one, h]; simp
set_option maxRecDepth 100000 in
theorem uints_any (A : Option Addr) (n c : Nat) (l : List Nat) (w : World) (hr : Rd w w.heap.size 1 A n (l.map u64v)) (hn : n ≤ 65536) (hl : ∀ x ∈ l, x < 18446744073709551616) :
    Calls Tryd.prog 36 #[.slice A n c] w fun e w' => ∃ v, e = .returned v ∧ Ow w' w.heap.size 5 1 v (encs l).length ((encs l).map bv) ∧ Below w.heap.size w w' := by
  have hlen := hr.len
  have HL := hide hl
  have HLEN := hide hlen
  clear hl hlen
  go_enter Tryd.func36, Tryd.ntmps36
  go_wp2
  go_loopw [3, 5, 8] (fun v _ i wr => ∃ k m : Nat, k ≤ n ∧ i = .int .i64 k ∧ m ≤ 10 * k ∧ Ow wr w.heap.size 5 1 v m ((encs (l.take k)).map bv) ∧ Below w.heap.size w wr) (fun _ _ i _ => n - (intOf i).toNat)
  case atStart => exact ⟨0, 0, Nat.zero_le _, rfl, by omega, Ow.nil _ _ _ _, Below.refl _ _⟩
  case round =>
    obtain ⟨k, m, hk, rfl, hm, own, hb⟩ := hrel
    by_cases hk1 : k < n
    · obtain ⟨b, off, rfl, hbb, x, hx, hc⟩ := hr.get hk1
      have hc' := (hb.cell (p := ⟨b, off + k, none⟩) hbb).trans hc
      unfold u64v at hc'
      have HX := hide hx
      have HXL := hide (HL.out x (List.mem_of_getElem? hx))
      have hel := (encF_len 9 x).2
      clear hx hc
      go_wp2_with (go_at_call 57; refine (put_any _ m _ x w.heap.size _ own hb.size HXL.out (by omega)).mono ?_; rintro e w1 ⟨v1, rfl, own1, hb1⟩)
      go_roundw
      case rel => exact ⟨k + 1, m + (enc x).length, by omega, by go_num, by unfold enc; omega, by rw [encs_snoc l k x HX.out]; exact own1, hb.trans hb1⟩
      case measure => simp [intOf]; omega
    · go_wp2
      go_ret
      have ht : l.take k = l := List.take_of_length_le (by have := HLEN.out; omega)
      rw [ht] at own
      have hm : m = (encs l).length := by have := own.1; simpa using this.symm
      rw [hm] at own
      exact ⟨_, rfl, own, hb⟩
/-- The bytes of a text. -/
def encT (s : ByteArray) : List UInt8 := enc s.size ++ s.data.toList
def encTs (l : List ByteArray) : List UInt8 := (l.map encT).flatten
theorem encTs_snoc (l : List ByteArray) (k : Nat) (x : ByteArray) (h : l[k]? = some x) : encTs (l.take (k + 1)) = encTs (l.take k) ++ encT x := by
  unfold encTs
  rw [List.take_add_one, h]; simp
set_option maxRecDepth 100000 in
theorem texts_any (A : Option Addr) (n c q : Nat) (l : List ByteArray) (w : World) (hr : Rd w w.heap.size 1 A n (l.map strv)) (hn : n ≤ 65536) (hl : ∀ x ∈ l, x.size ≤ 65536) :
    Calls Tryd.prog 35 #[.slice A n c] w fun e w' => ∃ v, e = .returned v ∧ Ow w' w.heap.size 5 1 v (encTs l).length ((encTs l).map bv) ∧ Below w.heap.size w w' := by
  obtain ⟨i0, hi0, hz0, hz1, hz2⟩ := info_parts Tryd.info8
  have hlen := hr.len
  have HL := hide hl
  have HLEN := hide hlen
  clear hl hlen
  go_enter Tryd.func35, Tryd.ntmps35
  go_wp2
  go_loopw [3, 5, 8] (fun v _ i wr => ∃ k m : Nat, k ≤ n ∧ i = .int .i64 k ∧ m ≤ 65546 * k ∧ Ow wr w.heap.size 5 1 v m ((encTs (l.take k)).map bv) ∧ Below w.heap.size w wr) (fun _ _ i _ => n - (intOf i).toNat)
  case atStart => exact ⟨0, 0, Nat.zero_le _, rfl, by omega, Ow.nil _ _ _ _, Below.refl _ _⟩
  case round =>
    obtain ⟨k, m, hk, rfl, hm, own, hb⟩ := hrel
    by_cases hk1 : k < n
    · obtain ⟨b, off, rfl, hbb, x, hx, hc⟩ := hr.get hk1
      have hc' := (hb.cell (p := ⟨b, off + k, none⟩) hbb).trans hc
      unfold strv at hc'
      have HX := hide hx
      have hxl := HL.out x (List.mem_of_getElem? hx)
      have hel := (encF_len 9 x.size).2
      have HEL := hide (show (enc x.size).length ≤ 10 from hel)
      have hw : IntKind.u64.wrap (x.size : Int) = x.size := by rw [u64_wrap]; omega
      clear hx hc hel
      go_wp2_with (first
        | (go_at_call 57; refine (put_any _ m _ x.size w.heap.size _ own hb.size (by omega) (by omega)).mono ?_; rintro e w1 ⟨v1, rfl, own1, hb1⟩)
        | (at_builtin; refine wpList_append_ow_str _ rfl (.tmp 16) (.tmp 17) _ _ rfl w.heap.size 5 i0 Tryd.underlying41 Tryd.underlying9 hi0 hz0 hz1 hz2 v1 _ _ rfl own1 x rfl (by have := HEL.out; simp only [maxLen]; omega) (by have := HEL.out; omega) (by have := hb1.size; have := hb.size; omega) ?_; intro v2 w2 own2 hg2))
      go_roundw
      case rel =>
        refine ⟨k + 1, m + (enc x.size).length + x.size, by omega, by go_num, by have := HEL.out; omega, ?_, (hb.trans hb1).grown hg2 (by have := hb1.size; have := hb.size; omega) (fun q hq => own1.lt q hq)⟩
        rw [encTs_snoc l k x HX.out, encT, ← List.append_assoc, List.map_append]
        exact own2
      case measure => simp [intOf]; omega
    · go_wp2
      go_ret
      have ht : l.take k = l := List.take_of_length_le (by have := HLEN.out; omega)
      rw [ht] at own
      have hm : m = (encTs l).length := by have := own.1; simpa using this.symm
      rw [hm] at own
      exact ⟨_, rfl, own, hb⟩
/-! ### New, Text -/
def tE (l : List UInt8) (most : Int) : Nat := if (cnt l most).2.2 = 0 ∧ l.length - (cnt l most).2.1 < (cnt l most).1 then 15 else (cnt l most).2.2
def tV (l : List UInt8) (e : Nat) (most : Int) : List UInt8 := if e = 0 ∧ tE l most = 0 then (l.drop (cnt l most).2.1).take (cnt l most).1 else []
theorem string_any (w : World) (A : Option Addr) (n c : Nat) (l : List UInt8) {B : Nat} (h : RdB w B A n l) : (convert 41 9 (.slice A n c)).run Tryd.prog w = .ok (.string ⟨l.toArray⟩) w := by
  have hl := RdB.len h
  subst hl
  cases A with
  | none =>
    have h0 : l = [] := by
      rcases Nat.eq_zero_or_pos l.length with h1 | h1
      · exact List.eq_nil_of_length_eq_zero h1
      · obtain ⟨_, _, h2, _⟩ := h.at_ h1
        cases h2
    subst h0
    exact Lib.run_convert_nil_bytes w _ _ _ c Tryd.underlying41 Tryd.underlying5 Tryd.underlying9
  | some a =>
    refine run_convert_bytes_back w _ _ _ a c l Tryd.underlying41 Tryd.underlying5 Tryd.underlying9 (fun j hj => ?_)
    obtain ⟨b, off, e, _, hc⟩ := RdB.cell h hj
    injection e with e
    subst e
    rw [Addr.add_lit, hc]
end Go.Proofs.YtpnbpcdmiiakcaaDoor
/- alive answers true. -/
namespace Go.Proofs.YtpnbpcdmiiakcaaDoor
open Go.RowKit
set_option linter.unusedVariables false
set_option linter.unusedSimpArgs false

def k1 : List UInt8 := [5, 1, 97, 9]
def k2 : List UInt8 := [1, 97, 9]
theorem f1 : unturnZ (uV k1 0) = -3 ∧ tkL k1 0 (dec k1).2.1 (dec k1).2.2 = k2 ∧ tkE 0 (dec k1).2.2 = 0 := by decide +kernel
theorem f2 : tV k2 0 1 = [97] ∧ tkL k2 0 ((cnt k2 1).2.1 + (cnt k2 1).1) (tE k2 1) = [9] ∧ tkE 0 (tE k2 1) = 0 := by decide +kernel
theorem f4 : endE [9] 17 = 17 := by decide +kernel
end Go.Proofs.YtpnbpcdmiiakcaaDoor
/- Histograms: Bucket, Of. -/
namespace Go.Proofs.YtpnbpcdmiiakcaaDoor
open Go.RowKit
set_option linter.unusedVariables false
set_option linter.unusedSimpArgs false
/-- A long's bucket. -/
def bkt (v : Int) : Nat := if v < 0 then 0 else if v = 0 then 1 else Lib.bitLen v.toNat + 1
/-! ### the cells of a histogram -/
def hc (l : List Int) : Array Value := (l.map i64v).toArray
def z65 : List Int := List.replicate 65 0
/-- One more in a bucket. -/
def bump (l : List Int) (b : Nat) : List Int := l.set b (l[b]?.getD 0 + 1)
def histL (xs : List Int) : List Int := xs.foldl (fun l v => bump l (bkt v)) z65
end Go.Proofs.YtpnbpcdmiiakcaaDoor
/- Histograms: valid, Add. -/
namespace Go.Proofs.YtpnbpcdmiiakcaaDoor
open Go.RowKit
set_option linter.unusedVariables false
set_option linter.unusedSimpArgs false
def okH (l : List Int) : Bool := l.all (fun x => decide (0 ≤ x))
def addE (l : List Int) (v : Int) : Nat := if okH l = false then 10 else if l[bkt v]? = some 9223372036854775807 then 12 else 0
def addL (l : List Int) (v : Int) : List Int := if addE l v = 0 then bump l (bkt v) else z65
end Go.Proofs.YtpnbpcdmiiakcaaDoor
/- Wide sums: wide.Sum, Total. -/
namespace Go.Proofs.YtpnbpcdmiiakcaaDoor
open Go.RowKit
set_option linter.unusedVariables false
set_option linter.unusedSimpArgs false
end Go.Proofs.YtpnbpcdmiiakcaaDoor
/- Wide numbers: Cmp, Of; Rank. -/
namespace Go.Proofs.YtpnbpcdmiiakcaaDoor
open Go.RowKit
set_option linter.unusedVariables false
set_option linter.unusedSimpArgs false
end Go.Proofs.YtpnbpcdmiiakcaaDoor
/- Histograms: Merge. -/
namespace Go.Proofs.YtpnbpcdmiiakcaaDoor
open Go.RowKit
set_option linter.unusedVariables false
set_option linter.unusedSimpArgs false
def flat (ls : List (List Int)) : List Value := (ls.map fun l => l.map i64v).flatten
theorem hflat_get : ∀ (ls : List (List Int)) (k j : Nat) (l : List Int), (∀ l ∈ ls, l.length = 65) → ls[k]? = some l → j < 65 → (flat ls)[k * 65 + j]? = l[j]?.map i64v
  | [], k, j, l, _, h, _ => by simp at h
  | x :: r, 0, j, l, hl, h, hj => by
    have hx := hl x (by simp)
    simp only [List.getElem?_cons_zero, Option.some.injEq] at h
    subst h
    unfold flat
    rw [List.map_cons, List.flatten_cons, Nat.zero_mul, Nat.zero_add, List.getElem?_append_left (by simp; omega), List.getElem?_map]
  | x :: r, k + 1, j, l, hl, h, hj => by
    have hx := hl x (by simp)
    simp only [List.getElem?_cons_succ] at h
    have ih := hflat_get r k j l (fun y hy => hl y (List.mem_cons_of_mem _ hy)) h hj
    unfold flat at ih ⊢
    rw [List.map_cons, List.flatten_cons, List.getElem?_append_right (by simp; omega), ← ih]
    congr 1
    simp
    omega
theorem hflat_len : ∀ (ls : List (List Int)), (∀ l ∈ ls, l.length = 65) → (flat ls).length = ls.length * 65
  | [], _ => by simp [flat]
  | x :: r, hl => by
    have ih := hflat_len r (fun y hy => hl y (List.mem_cons_of_mem _ hy))
    have hx := hl x (by simp)
    unfold flat at ih ⊢
    rw [List.map_cons, List.flatten_cons, List.length_append, ih, List.length_map, hx, List.length_cons]
    omega
theorem Rd.row {w : World} {B n : Nat} {A : Option Addr} {ls : List (List Int)} (h : Rd w B 65 A n (flat ls)) (hl : ∀ l ∈ ls, l.length = 65) {k : Nat} (hk : k < n) :
    ∃ b off, A = some ⟨b, off, none⟩ ∧ b < B ∧ ∃ l, ls[k]? = some l ∧ l.length = 65 ∧ w.rangeAt b (off + k * 65) (hc l).toList := by
  have hlen := h.1
  rw [hflat_len ls hl] at hlen
  obtain ⟨b, off, e, hb, hc'⟩ := h.2 (by omega)
  have hkl : k < ls.length := by omega
  have hmem := List.getElem_mem hkl
  refine ⟨b, off, e, hb, ls[k], List.getElem?_eq_getElem hkl, hl _ hmem, fun j v hv => ?_⟩
  have hv' : ls[k][j]?.map i64v = some v := by
    have : (hc ls[k]).toList[j]? = ls[k][j]?.map i64v := by simp [hc]
    rw [← this]; exact hv
  have hj : j < 65 := by
    rcases Nat.lt_or_ge j ls[k].length with h1 | h1
    · rw [hl _ hmem] at h1; exact h1
    · rw [List.getElem?_eq_none h1] at hv'; simp at hv'
  have hf := hflat_get ls k j ls[k] hl (List.getElem?_eq_getElem hkl) hj
  rw [hv'] at hf
  have h2 : k * 65 + j < (flat ls).length := (List.getElem?_eq_some_iff.1 hf).1
  have h3 := hc' (k * 65 + j) h2
  rw [Nat.add_assoc, h3]
  rw [List.getElem?_eq_getElem h2] at hf
  exact hf
end Go.Proofs.YtpnbpcdmiiakcaaDoor
/- Numbers of any length, in limbs (the document's), by conditions. -/
namespace Go.Proofs.YtpnbpcdmiiakcaaDoor
set_option linter.unusedSimpArgs false
set_option linter.unusedVariables false
open Go.RowKit
set_option maxRecDepth 100000
abbrev lR (d : Int) : List D := [iD d]
abbrev lD (l : List Int) : D := .sl 1 (l.map lR)
abbrev nD (neg : Bool) (l : List Int) : D := .agg [.v (.bool neg), lD l]
/-! ### canonical limbs -/
def valL : List Int → Nat
  | [] => 0
  | d :: l => d.toNat + 65536 * valL l
def digL (l : List Int) : Prop := ∀ d ∈ l, 0 ≤ d ∧ d < 65536
def canL (n : Nat) : List Int := if h : n = 0 then [] else ((n % 65536 : Nat) : Int) :: canL (n / 65536)
termination_by n
decreasing_by exact Nat.div_lt_self (Nat.pos_of_ne_zero h) (by omega)
/-- The document's number. -/
abbrev numD (z : Int) : D := nD (decide (z < 0)) (canL z.natAbs)
end Go.Proofs.YtpnbpcdmiiakcaaDoor
/- Numbers of any length: made, Whole, Of, Neg over whole numbers. -/
namespace Go.Proofs.YtpnbpcdmiiakcaaDoor
set_option linter.unusedSimpArgs false
set_option linter.unusedVariables false
open Go.RowKit
set_option maxRecDepth 100000
end Go.Proofs.YtpnbpcdmiiakcaaDoor
/- Numbers of any length: above. -/
namespace Go.Proofs.YtpnbpcdmiiakcaaDoor
set_option linter.unusedSimpArgs false
set_option linter.unusedVariables false
open Go.RowKit
set_option maxRecDepth 100000
def lb (l : List Int) (i : Nat) : Int := (l[i]?).getD 0
end Go.Proofs.YtpnbpcdmiiakcaaDoor
/- Numbers of any length: plus. -/
namespace Go.Proofs.YtpnbpcdmiiakcaaDoor
set_option linter.unusedSimpArgs false
set_option linter.unusedVariables false
open Go.RowKit
set_option maxRecDepth 100000
/-- How far a sum has come. -/
structure PlusI (a b : List Int) (k : Nat) (c : Int) (out : List Int) : Prop where
  len : out.length = k
  dig : digL out
  c0 : 0 ≤ c
  c1 : c ≤ 1
  eq : valL out + 65536 ^ k * (c.toNat + valL (a.drop k) + valL (b.drop k)) = valL a + valL b
end Go.Proofs.YtpnbpcdmiiakcaaDoor
/- Numbers of any length: minus. -/
namespace Go.Proofs.YtpnbpcdmiiakcaaDoor
set_option linter.unusedSimpArgs false
set_option linter.unusedVariables false
open Go.RowKit
set_option maxRecDepth 100000
/-- How far a difference has come: c is borrowed. -/
structure MinI (a b : List Int) (k : Nat) (c : Int) (out : List Int) : Prop where
  len : out.length = k
  dig : digL out
  c0 : 0 ≤ c
  c1 : c ≤ 1
  eq : (valL out : Int) + 65536 ^ k * ((valL (a.drop k) : Int) - valL (b.drop k) - c) = (valL a : Int) - valL b
end Go.Proofs.YtpnbpcdmiiakcaaDoor
/- Numbers of any length: Add, Cmp. -/
namespace Go.Proofs.YtpnbpcdmiiakcaaDoor
set_option linter.unusedSimpArgs false
set_option linter.unusedVariables false
open Go.RowKit
set_option maxRecDepth 100000
end Go.Proofs.YtpnbpcdmiiakcaaDoor
/- Numbers of any length: bounds of their lengths; Cmp. -/
namespace Go.Proofs.YtpnbpcdmiiakcaaDoor
set_option linter.unusedSimpArgs false
set_option linter.unusedVariables false
open Go.RowKit
set_option maxRecDepth 100000
end Go.Proofs.YtpnbpcdmiiakcaaDoor
/- Numbers of any length: Long. -/
namespace Go.Proofs.YtpnbpcdmiiakcaaDoor
set_option linter.unusedSimpArgs false
set_option linter.unusedVariables false
open Go.RowKit
set_option maxRecDepth 100000
end Go.Proofs.YtpnbpcdmiiakcaaDoor
/- Numbers of any length: told, Plus, Minus, Total, Sum. -/
namespace Go.Proofs.YtpnbpcdmiiakcaaDoor
set_option linter.unusedSimpArgs false
set_option linter.unusedVariables false
open Go.RowKit
set_option maxRecDepth 100000
end Go.Proofs.YtpnbpcdmiiakcaaDoor
/- Bits of limbs. -/
namespace Go.Proofs.YtpnbpcdmiiakcaaDoor
set_option linter.unusedSimpArgs false
set_option linter.unusedVariables false
open Go.RowKit
end Go.Proofs.YtpnbpcdmiiakcaaDoor
/- Numbers of any length: Div. -/
namespace Go.Proofs.YtpnbpcdmiiakcaaDoor
set_option linter.unusedSimpArgs false
set_option linter.unusedVariables false
open Go.RowKit
set_option maxRecDepth 100000
end Go.Proofs.YtpnbpcdmiiakcaaDoor
/- Numbers of any length: Mul. -/
namespace Go.Proofs.YtpnbpcdmiiakcaaDoor
set_option linter.unusedSimpArgs false
set_option linter.unusedVariables false
open Go.RowKit
set_option maxRecDepth 100000
/-- How far a row of a product has come. -/
structure MulI (a b : List Int) (i k : Nat) (c : Int) (out : List Int) : Prop where
  len : out.length = a.length + b.length + 1
  dig : digL out
  c0 : 0 ≤ c
  c1 : c ≤ 65535
  val : valL out + 65536 ^ (i + k) * c.toNat = valL (a.take i) * valL b + 65536 ^ i * (lb a i).toNat * valL (b.take k)
end Go.Proofs.YtpnbpcdmiiakcaaDoor
/- Numbers of any length: plain bounds. -/
namespace Go.Proofs.YtpnbpcdmiiakcaaDoor
set_option linter.unusedSimpArgs false
set_option linter.unusedVariables false
open Go.RowKit
set_option maxRecDepth 100000
end Go.Proofs.YtpnbpcdmiiakcaaDoor
/- Numbers of any length: sums of rows, two words. -/
namespace Go.Proofs.YtpnbpcdmiiakcaaDoor
set_option linter.unusedSimpArgs false
set_option linter.unusedVariables false
open Go.RowKit
set_option maxRecDepth 100000
/-! ### two words -/
def word : Int := 18446744073709551616
/-- The two words of a number. -/
def hiZ (z : Int) : Int := z / word
def loZ (z : Int) : Int := z % word
instance in64_dec (z : Int) : Decidable (in64 z) := by unfold in64; infer_instance
end Go.Proofs.YtpnbpcdmiiakcaaDoor
/- The histograms' contracts, as the conditions want them. -/
namespace Go.Proofs.YtpnbpcdmiiakcaaDoor
set_option linter.unusedSimpArgs false
set_option linter.unusedVariables false
open Go.RowKit
set_option maxRecDepth 100000
theorem Sat.of_sl {P : Program} {g : FuncId} {s : Nat} {rows : List (List D)} {us : List Value} {args : List AV} {vals : List Value} {r : AV} {rv : Value} (hf : FlatVs rows.flatten us) (ha : FlatWs args vals) (hr : FlatW r rv)
    (h : ∀ (w : World) (A : Option Addr) (c : Nat), rows.length ≤ c → c ≤ maxLen → Rd w w.heap.size s A rows.length us → Calls P g (Value.slice A rows.length c :: vals).toArray w fun e w' => e = .returned rv ∧ Below w.heap.size w w') : Sat P g (.d (.sl s rows) :: args) [] r [] := by
  intro F ρ w vs En hv
  cases hv with | cons hv hvs => cases hv with | d hv =>
  obtain ⟨A, c, rfl, h1, h2, h3⟩ := hv.sl_rd En.fb hf
  have := ha.eq hvs
  subst this
  refine (h w A c h1 h2 h3).mono ?_
  rintro e w' ⟨rfl, hb⟩
  obtain ⟨S, E'⟩ := step_below En hb
  exact ⟨rv, rfl, F, ρ, S, Keep.refl _, E', hr.ra⟩
abbrev hR (l : List Int) : List D := l.map iD
abbrev hD (l : List Int) : D := .agg (hR l)
/-- A wide number. -/
abbrev wD (z : Int) : D := .agg [.v (.int .i64 (hiZ z)), .v (.int .u64 (loZ z))]
end Go.Proofs.YtpnbpcdmiiakcaaDoor
/- Histograms, the plain laws: counts, running sums, ranks, parts; the document's Bucket; arrays compared. -/
namespace Go.Proofs.YtpnbpcdmiiakcaaDoor
open Go.RowKit
set_option linter.unusedVariables false
set_option linter.unusedSimpArgs false
/-! ### arrays compared -/
/-! ### the document's Bucket -/
end Go.Proofs.YtpnbpcdmiiakcaaDoor
/- The document's histograms: Of, right, Merge, Rank. -/
namespace Go.Proofs.YtpnbpcdmiiakcaaDoor
set_option linter.unusedSimpArgs false
set_option linter.unusedVariables false
open Go.RowKit
set_option maxRecDepth 100000
end Go.Proofs.YtpnbpcdmiiakcaaDoor
/- Full: the maker of the iterator, and the iterator's contract. -/
namespace Go.Proofs.YtpnbpcdmiiakcaaDoor
open Go.RowKit
set_option linter.unusedVariables false
set_option linter.unusedSimpArgs false
attribute [local go_sem] Oper.semAt_some
end Go.Proofs.YtpnbpcdmiiakcaaDoor
/- Gaps: Right, Has. -/
namespace Go.Proofs.YtpnbpcdmiiakcaaDoor
open Go.RowKit
set_option linter.unusedVariables false
set_option linter.unusedSimpArgs false
end Go.Proofs.YtpnbpcdmiiakcaaDoor
/- gap.New, Bounds. -/
namespace Go.Proofs.YtpnbpcdmiiakcaaDoor
open Go.RowKit
set_option linter.unusedVariables false
set_option linter.unusedSimpArgs false
end Go.Proofs.YtpnbpcdmiiakcaaDoor
/- alive of layer 5. -/
namespace Go.Proofs.YtpnbpcdmiiakcaaDoor
open Go.RowKit
attribute [local go_sem] Oper.semAt_some
set_option linter.unusedVariables false
set_option linter.unusedSimpArgs false
def hA : List Int := histL [0, 1, 1, 5]
def hN : List Int := addL hA (-9)
end Go.Proofs.YtpnbpcdmiiakcaaDoor
/- The document's Rank, and Total, Rank and Full of the program. -/
namespace Go.Proofs.YtpnbpcdmiiakcaaDoor
set_option linter.unusedSimpArgs false
set_option linter.unusedVariables false
open Go.RowKit
set_option maxRecDepth 100000
end Go.Proofs.YtpnbpcdmiiakcaaDoor
/- Full: the buckets that are not empty, in order. -/
namespace Go.Proofs.YtpnbpcdmiiakcaaDoor
set_option linter.unusedSimpArgs false
set_option linter.unusedVariables false
open Go.RowKit
set_option maxRecDepth 100000
attribute [local go_sem] Oper.semAt_some
end Go.Proofs.YtpnbpcdmiiakcaaDoor
/- HistCounts, its law: every Of, Add and Merge is answered as the document says. -/
namespace Go.Proofs.YtpnbpcdmiiakcaaDoor
set_option linter.unusedSimpArgs false
set_option linter.unusedVariables false
open Go.RowKit
set_option maxRecDepth 100000
section
variable {L : List AObj} {ty n : Nat} {x y : Operand} {t' : TypeId}
end
/-! ### the arguments -/
end Go.Proofs.YtpnbpcdmiiakcaaDoor
/- HistRanks, its law: every Total, Rank and Full is answered as the document says. -/
namespace Go.Proofs.YtpnbpcdmiiakcaaDoor
set_option linter.unusedSimpArgs false
set_option linter.unusedVariables false
open Go.RowKit
set_option maxRecDepth 100000
end Go.Proofs.YtpnbpcdmiiakcaaDoor
/- code, by conditions: Uints, Ints, Texts, bytes.Clone; the reader. -/
namespace Go.Proofs.YtpnbpcdmiiakcaaDoor
set_option linter.unusedSimpArgs false
set_option linter.unusedVariables false
open Go.RowKit
set_option maxRecDepth 100000
section
variable {P : Program} {g : FuncId}
/-- A contract whose answer is a slice of its own, out of an elder one. -/
theorem Sat.ownNew1 {s0 s : Nat} {rows0 rows : List (List D)} {us0 us : List Value} {e : TypeId} (hf0 : FlatVs rows0.flatten us0) (hf : FlatVs rows.flatten us) (hs : ∀ r ∈ rows, r.length = s) (h0 : 0 < rows.length)
    (h : ∀ (w : World) (A : Option Addr) (c : Nat), rows0.length ≤ c → c ≤ maxLen → Rd w w.heap.size s0 A rows0.length us0 → Calls P g #[.slice A rows0.length c] w fun x w' => ∃ v, x = .returned v ∧ Ow w' w.heap.size e s v rows.length us ∧ Below w.heap.size w w') :
    Sat P g [.d (.sl s0 rows0)] [] (.own 0) [.sl s rows] := by
  intro F ρ w vals En hv
  obtain ⟨v, rfl, hv'⟩ := hv.one_out
  cases hv' with | d hv =>
    obtain ⟨A, c, rfl, h1, h2, hr⟩ := hv.sl_rd En.fb hf0
    refine (h w A c h1 h2 hr).mono ?_
    rintro x w' ⟨v, rfl, how, hb⟩
    have hlt : ∀ k, blkOf v = some k → k < w'.heap.size := fun k hk => by
      obtain ⟨g, off, cap, rfl, _, hg, _⟩ := how.open_ h0
      injection hk with hk
      subst hk
      exact hg
    have hG : w.grownBy w' none := ⟨hb.os, hb.tape, hb.output, hb.size, fun b h _ => hb.block b h⟩
    have hnone : hp ([] : List AObj) 0 = none := rfl
    obtain ⟨A', c', he, g1, g2, hrd⟩ := how.form
    subst he
    have how0 : Ow w' 0 0 s (.slice A' rows.length c') rows.length us := ⟨how.1, by
      rcases how.2 with h | ⟨a, h, _, h'⟩ | ⟨g, off, cap, h, _, h'⟩
      · exact .inl h
      · exact .inr (.inl ⟨a, h, Nat.zero_le _, h'⟩)
      · exact .inr (.inr ⟨g, off, cap, h, Nat.zero_le _, h'⟩)⟩
    obtain ⟨S, K, E⟩ := En.new (n := 0) (o' := .sl s rows) (h := .slice A' rows.length c') hnone hG (fun b hb' => ⟨how.lt b (by rw [← blk_own rfl]; exact hb'), hlt b hb'⟩) ⟨_, how0, hf.rds, hs⟩
    have e : updF (hp []) 0 (some (.sl s rows)) = hp [.sl s rows] := by
      funext i
      match i with
      | 0 => rfl
      | i + 1 => rfl
    rw [e] at S E
    exact ⟨_, rfl, F, _, S, K, E, .own (updF_same _ _ _)⟩
end
abbrev byD (x : UInt8) : D := .v (.int .u8 (x.toNat : Int))
abbrev bR (x : UInt8) : List D := [byD x]
abbrev bsD (l : List UInt8) : D := .sl 1 (l.map bR)
theorem bR_flats : ∀ (l : List UInt8), FlatVs (l.map bR).flatten (l.map bv)
  | [] => .nil
  | _ :: l => .cons (.v _) rfl (bR_flats l)
abbrev uR (x : Nat) : List D := [.v (.int .u64 (x : Int))]
theorem uR_flats : ∀ (l : List Nat), FlatVs (l.map uR).flatten (l.map u64v)
  | [] => .nil
  | _ :: l => .cons (.v _) rfl (uR_flats l)
abbrev styD (s : ByteArray) : D := .v (.string s)
theorem strR_flats : ∀ (l : List ByteArray), FlatVs (l.map fun s => [styD s]).flatten (l.map strv)
  | [] => .nil
  | _ :: l => .cons (.v _) rfl (strR_flats l)
theorem one_len {α : Type} {f : α → D} {l : List α} : ∀ r ∈ l.map (fun x => [f x]), r.length = 1 := fun r hr => by
  obtain ⟨x, _, rfl⟩ := List.mem_map.1 hr; rfl
theorem uints_sat (l : List Nat) (hn : l.length ≤ 65536) (hl : ∀ x ∈ l, x < 18446744073709551616) (h0 : 0 < (encs l).length) : Sat Tryd.prog 36 [.d (.sl 1 (l.map uR))] [] (.own 0) [.sl 1 ((encs l).map bR)] :=
  .ownNew1 (uR_flats l) (bR_flats (encs l)) one_len (by rw [List.length_map]; exact h0) fun w A c _ _ hr => by
    rw [List.length_map] at hr ⊢
    rw [List.length_map]
    exact uints_any A _ c l w hr hn hl
theorem texts_sat (l : List ByteArray) (hn : l.length ≤ 65536) (hl : ∀ x ∈ l, x.size ≤ 65536) (h0 : 0 < (encTs l).length) : Sat Tryd.prog 35 [.d (.sl 1 (l.map fun s => [styD s]))] [] (.own 0) [.sl 1 ((encTs l).map bR)] :=
  .ownNew1 (strR_flats l) (bR_flats (encTs l)) one_len (by rw [List.length_map]; exact h0) fun w A c _ _ hr => by
    rw [List.length_map] at hr ⊢
    rw [List.length_map]
    exact texts_any A _ c 0 l w hr hn hl
theorem bclone_sat (l : List UInt8) (hn : l.length ≤ 65536) (h0 : 0 < l.length) : Sat Tryd.prog 46 [.d (bsD l)] [] (.own 0) [.sl 1 (l.map bR)] :=
  .ownNew1 (bR_flats l) (bR_flats l) one_len (by rw [List.length_map]; exact h0) fun w A c _ _ hr => by
    rw [List.length_map] at hr ⊢
    exact clone_any A _ c l w hr (by omega)
theorem count_sat (l : List UInt8) (most : Int) (hm : in64 most) (hn : l.length ≤ 65536) : Sat Tryd.prog 62 [.d (bsD l), iA most] [] (.tup [iA ((cnt l most).1 : Nat), iA ((cnt l most).2.1 : Nat), iA ((cnt l most).2.2 : Nat)]) [] :=
  .of_sl (bR_flats l) (.cons (.d (.v _)) .nil) (.tup (.cons (.d (.v _)) (.cons (.d (.v _)) (.cons (.d (.v _)) .nil)))) fun w A c _ _ hr => by
    rw [List.length_map] at hr ⊢
    refine (count_any A _ c l most w hr (by omega) hm.2).mono ?_
    rintro e w' ⟨rfl, rfl⟩
    exact ⟨rfl, Below.refl _ _⟩
/-- A reader: what is left, its error. -/
abbrev rdO (l : List UInt8) (e : Int) : AObj := .cells [.d (bsD l), iA e]
theorem take_sat (l : List UInt8) (k : Nat) (hk : k ≤ l.length) (hn : l.length ≤ 65536) : Sat Tryd.prog 63 [.ptr 0 0, iA k, iA 0] [rdO l 0] (bA true) [rdO (l.drop k) 0] := by
  refine sat_of_vc (T := tiOf Tryd.prog) (E := E0) Tryd.func63 rfl rfl hE0 hm0 rfl ?_
  conv => whnf
  iterate 5
    repeat' (first | exact True.intro | ((first | refine And.intro (fun _ => ?_) tf | refine And.intro ft (fun _ => ?_) | refine And.intro (by kernel_rfl) ?_ | refine And.intro (by decide) ?_ | refine And.intro (fun _ => ?_) (fun h => absurd h (by decide)) | refine And.intro (fun h => absurd h (by decide)) (fun _ => ?_) | refine ⟨_, _, from_d 1 1 (by kernel_rfl) (by simpa using hk), ?_⟩ | fail); conv => whnf) | (refine And.intro (fun _ => ?_) (fun _ => ?_) <;> conv => whnf) | fail)
    all_goals try (refine Or.inl ?_; conv => whnf)
  all_goals refine ⟨[], ?_⟩
  repeat (any_goals (first | exact True.intro | exact rfl | with_reducible_and_instances rfl | exact (by kernel_rfl) | refine And.intro ?_ ?_))
  all_goals conv => whnf
  exact congrArg (fun r => AV.d (.sl 1 r)) (List.map_drop (f := bR) (l := l) (i := k)).symm
theorem count_size (l : List UInt8) (most : Int) : (cnt l most).2.1 ≤ l.length := (cnt_bounds l most).2.1
theorem countM_sat (l : List UInt8) (most : Int) (hm : in64 most) (hn : l.length ≤ 65536) (he : (cnt l most).2.2 = 0) : Sat Tryd.prog 48 [.ptr 0 0, iA most] [rdO l 0] (iA ((cnt l most).1 : Nat)) [rdO (l.drop (cnt l most).2.1) 0] := by
  have f1 := count_sat l most hm hn
  rw [he] at f1
  have t1 := take_sat l (cnt l most).2.1 (count_size l most) hn
  refine sat_of_vc (T := tiOf Tryd.prog) (E := E0) Tryd.func48 rfl rfl hE0 hm0 rfl ?_
  conv => whnf
  iterate 5
    repeat' (first | exact True.intro | ((first | refine And.intro (fun _ => ?_) tf | refine And.intro ft (fun _ => ?_) | refine And.intro (by kernel_rfl) ?_ | refine And.intro (by decide) ?_ | refine And.intro (fun _ => ?_) (fun h => absurd h (by decide)) | refine And.intro (fun h => absurd h (by decide)) (fun _ => ?_) | refine ⟨_, _, f1.pu rfl rfl, ?_⟩ | refine ⟨_, _, t1.at1 0 rfl rfl rfl, ?_⟩ | fail); conv => whnf) | (refine And.intro (fun _ => ?_) (fun _ => ?_) <;> conv => whnf) | fail)
    all_goals try (refine Or.inl ?_; conv => whnf)
  all_goals refine ⟨[], ?_⟩
  repeat (any_goals (first | exact True.intro | exact rfl | with_reducible_and_instances rfl | exact (by kernel_rfl) | refine And.intro ?_ ?_))
  all_goals conv => whnf
/-- The string of bytes. -/
theorem str_d {L : List AObj} {ty n : Nat} {x : Operand} (l : List UInt8) : Does Tryd.prog (.convert 41 9 x) ty L n [.d (bsD l)] e0 (.d (styD ⟨l.toArray⟩)) := by
  intro o H F ρ w ev ho ht En _ _ hx
  have hops : (Op.operands (.convert 41 9 x)).toList = [x] := by simp [Op.operands]
  rw [hops] at hx
  obtain ⟨v, e, hv⟩ := hx.one_out
  cases hv with | d hv =>
  obtain ⟨A, c, rfl, h1, h2, hr⟩ := hv.sl_rd En.fb (bR_flats l)
  rw [List.length_map] at hr e
  have := string_any w A _ c l hr
  simp at e
  have hrun : (execOp ev o).run Tryd.prog w = .ok (.value (.string ⟨l.toArray⟩)) w := by
    simp [execOp, ho, e, this]
  rw [hrun]
  exact Post.same En (.d (.v _))
theorem noT {l : List UInt8} {s n : Nat} (h : s + n ≤ l.length) (hn : l.length ≤ 65536) (q : decide ((n : Int) > IntKind.i64.wrap (((l.map bR).length : Int) - (s : Int))) = true) : False := by
  have q := of_decide_eq_true q
  rw [List.length_map, wi (by omega) (by omega)] at q
  omega
theorem text_sat (l : List UInt8) (most : Int) (n s : Nat) (hm : in64 most) (hn : l.length ≤ 65536) (hc : cnt l most = (n, s, 0)) (hs : s + n ≤ l.length) : Sat Tryd.prog 47 [.ptr 0 0, iA most] [rdO l 0] (.d (styD ⟨((l.take (s + n)).drop s).toArray⟩)) [rdO (l.drop (s + n)) 0] := by
  have f1 := count_sat l most hm hn
  rw [hc] at f1
  have t1 := take_sat l (s + n) hs hn
  have e1 : IntKind.i64.wrap ((s : Int) + (n : Int)) = ((s + n : Nat) : Int) := by rw [wi (by omega) (by omega)]; rfl
  have hm2 : (l.map bR).length = l.length := List.length_map _
  refine sat_of_vc (T := tiOf Tryd.prog) (E := E0) Tryd.func47 rfl rfl hE0 hm0 rfl ?_
  conv => whnf
  iterate 3
    repeat' (first | exact True.intro | ((first | rw [e1] | refine And.intro (fun _ => ?_) tf | refine And.intro ft (fun _ => ?_) | refine And.intro (by kernel_rfl) ?_ | refine And.intro (by decide) ?_ | refine And.intro (fun _ => ?_) (fun h => absurd h (by decide)) | refine And.intro (fun h => absurd h (by decide)) (fun _ => ?_) | refine ⟨_, _, f1.pu rfl rfl, ?_⟩ | refine ⟨_, _, t1.at1 0 rfl rfl rfl, ?_⟩ | refine ⟨_, _, sl_d (lo := s) (hi := s + n) 1 1 (by kernel_rfl) (by omega) (by rw [hm2]; exact hs), ?_⟩ | refine ⟨_, _, (by rw [← List.map_take, ← List.map_drop]; exact str_d ((l.take (s + n)).drop s)), ?_⟩ | fail); conv => whnf) | (refine And.intro (fun _ => ?_) (fun _ => ?_) <;> conv => whnf) | fail)
    all_goals try (exfalso; simp only [decide_eq_true_eq, decide_eq_false_iff_not, Bool.not_eq_true', Bool.not_eq_false', Bool.not_eq_true, Bool.not_eq_false, beq_iff_eq, bne_iff_ne, beq_eq_false_iff_ne, bne_eq_false_iff_eq, ne_eq, Decidable.not_not] at *; first | omega | contradiction | (simp_all; done) | (simp_all; omega))
    all_goals try (refine Or.inl ?_; conv => whnf)
  all_goals try exact (noT hs hn ‹_›).elim
  all_goals refine ⟨[], ?_⟩
  repeat (any_goals (first | exact True.intro | exact rfl | with_reducible_and_instances rfl | exact (by kernel_rfl) | refine And.intro ?_ ?_))
  all_goals conv => whnf
theorem newR_sat (l : List UInt8) (hn : l.length ≤ 65536) (h0 : 0 < l.length) : Sat Tryd.prog 24 [.d (bsD l)] [] (.ptr 1 0) [.dead, rdO l 0] := by
  have c1 := bclone_sat l hn h0
  refine sat_of_vc (T := tiOf Tryd.prog) (E := E0) Tryd.func24 rfl rfl hE0 hm0 rfl ?_
  conv => whnf
  iterate 3
    repeat' (first | exact True.intro | ((first | refine And.intro (fun _ => ?_) tf | refine And.intro ft (fun _ => ?_) | refine And.intro (by kernel_rfl) ?_ | refine And.intro (by decide) ?_ | refine And.intro (fun _ => ?_) (fun h => absurd h (by decide)) | refine And.intro (fun h => absurd h (by decide)) (fun _ => ?_) | refine ⟨_, _, c1.nw rfl, ?_⟩ | fail); conv => whnf) | (refine And.intro (fun _ => ?_) (fun _ => ?_) <;> conv => whnf) | fail)
    all_goals try (refine Or.inl ?_; conv => whnf)
  all_goals refine ⟨[], ?_⟩
  repeat (any_goals (first | exact True.intro | exact rfl | with_reducible_and_instances rfl | exact (by kernel_rfl) | refine And.intro ?_ ?_))
  all_goals conv => whnf
end Go.Proofs.YtpnbpcdmiiakcaaDoor
/- label: slices.Clone of labels; Make. -/
namespace Go.Proofs.YtpnbpcdmiiakcaaDoor
set_option linter.unusedSimpArgs false
open Go.RowKit
set_option maxRecDepth 100000
set_option linter.unusedVariables false
def lcell (l : Lab) : List Value := [.string ⟨l.1.toArray⟩, .string ⟨l.2.toArray⟩]
def lcells (l : List Lab) : List Value := (l.map lcell).flatten
theorem labR_flat (l : Lab) : FlatVs (labR l) (lcell l) := by repeat constructor
theorem lcells_one (l : List Lab) : ∀ u ∈ lcells l, u.oneCell' = true := by
  intro u hu
  unfold lcells at hu
  rw [List.mem_flatten] at hu
  obtain ⟨c, hc, hu⟩ := hu
  obtain ⟨s, _, rfl⟩ := List.mem_map.1 hc
  simp only [lcell, List.mem_cons, List.not_mem_nil, or_false] at hu
  rcases hu with rfl | rfl <;> rfl
set_option maxRecDepth 100000 in
theorem infoLa : (Tryd.prog.info? 45).map (fun i => (i.zero, i.size, i.bytes)) = some (some (.agg #[.string ⟨#[]⟩, .string ⟨#[]⟩]), 2, 32) := by kernel_rfl
set_option maxHeartbeats 1000000 in
set_option maxRecDepth 100000 in
theorem cloneL_any (A : Option Addr) (n c : Nat) (xs : List Lab) (w : World) (hr : Rd w w.heap.size 2 A n (lcells xs)) (hn : n ≤ 1000) :
    Calls Tryd.prog 28 #[.slice A n c] w fun e w' => ∃ v, e = .returned v ∧ Ow w' w.heap.size 45 2 v n (lcells xs) ∧ Below w.heap.size w w' := by
  obtain ⟨i0, hi0, hz0, hz1, hz2⟩ := info_parts infoLa
  cases A with
  | none =>
    have h0 : n = 0 := by
      rcases Nat.eq_zero_or_pos n with h | h
      · exact h
      · obtain ⟨b, off, h, _⟩ := hr.at_ h
        cases h
    subst h0
    have hx : lcells xs = [] := hr.nil'
    have hq := Lib.run_eql_slice_nil (P := Tryd.prog) (w := w) 22
    go_enter Tryd.func28, Tryd.ntmps28
    go_wp2_with fail
    go_ret
    exact ⟨_, rfl, by rw [hx]; exact Ow.nil _ _ _ _, Below.refl _ _⟩
  | some a =>
    have hq := Lib.run_eql_slice_nil (P := Tryd.prog) (w := w) 22
    go_enter Tryd.func28, Tryd.ntmps28
    go_wp2_with (at_builtin; refine wpList_append_ow _ rfl (.tmp 5) (.tmp 6) _ rfl w.heap.size 45 i0 _ 2 32 Tryd.underlying22 hi0 hz0 hz1 hz2 rfl (by omega) (.slice (some ⟨w.heap.size, 0, none⟩) 0 0) 0 [] rfl (Ow.lit w #[] 0 (Nat.le_refl _) (by simp [maxLen]) rfl) w.heap.size (some a) n c (lcells xs) rfl (hr.alloc (Nat.le_refl _) _) (lcells_one xs) (by simp only [maxLen]; omega) (by omega) (by simp) ?_; intro v1 w1 hown1 hg1 hat1 hnn1)
    go_ret
    refine ⟨_, rfl, by simpa using hown1, ?_⟩
    exact (((Below.refl _ _).alloc (Nat.le_refl _) _).grown hg1 (by simp) (by simp [Value.ownBlock]))
set_option maxHeartbeats 1000000 in
theorem cloneL0_any (A : Option Addr) (c : Nat) (w : World) :
    Calls Tryd.prog 28 #[.slice A 0 c] w fun e w' => ∃ v, e = .returned v ∧ Ow w' w.heap.size 45 2 v 0 [] ∧ Below w.heap.size w w' ∧ ∀ k, blkOf v = some k → k < w'.heap.size := by
  obtain ⟨i0, hi0, hz0, hz1, hz2⟩ := info_parts infoLa
  cases A with
  | none =>
    have hq := Lib.run_eql_slice_nil (P := Tryd.prog) (w := w) 22
    go_enter Tryd.func28, Tryd.ntmps28
    go_wp2_with fail
    go_ret
    exact ⟨_, rfl, Ow.nil _ _ _ _, Below.refl _ _, fun k hk => by cases hk⟩
  | some a =>
    have hq := Lib.run_eql_slice_nil (P := Tryd.prog) (w := w) 22
    have hlit := hide <| Ow.lit w #[] 0 (lo := w.heap.size) (size := 2) (e := 45) (Nat.le_refl _) (by simp [maxLen]) rfl
    have hap := hide <| fun w1 ty hown => run_append_zero (P := Tryd.prog) (w := w1) (ty := ty) (t := 22) (A := some a) (c := c) (lo := w.heap.size) (size := 2) (ee := 45) (v := .slice (some ⟨w.heap.size, 0, none⟩) 0 0) (m' := 0) (xs := []) Tryd.underlying22 hi0 hown
    go_enter Tryd.func28, Tryd.ntmps28
    go_wp2_with (at_builtin; refine wpList_exec rfl _ (exec_append _ _ _ rfl _ _ rfl rfl (hap.out _ _ hlit.out)) ?_)
    go_ret
    refine ⟨_, rfl, hlit.out, (Below.refl _ _).alloc (Nat.le_refl _) _, fun k hk => ?_⟩
    injection hk with hk
    subst hk
    show w.heap.size < (w.heap.push _).size
    rw [Array.size_push]; exact Nat.lt_succ_self _
theorem cloneL_sat (l : List Lab) (hn : l.length ≤ 1000) : Sat Tryd.prog 28 [.d (.sl 2 (l.map labR))] [] (.own 0) [.sl 2 (l.map labR)] := by
  intro F ρ w vals En hv
  obtain ⟨v, rfl, hv'⟩ := hv.one_out
  cases hv' with | d hv =>
    obtain ⟨A, c, rfl, h1, h2, hr⟩ := hv.sl_rd En.fb (flat_map labR_flat l)
    rw [List.length_map] at hr ⊢
    have main : Calls Tryd.prog 28 #[.slice A l.length c] w fun e w' => ∃ v, e = .returned v ∧ Ow w' w.heap.size 45 2 v l.length (lcells l) ∧ Below w.heap.size w w' ∧ ∀ k, blkOf v = some k → k < w'.heap.size := by
      rcases Nat.eq_zero_or_pos l.length with h0 | h0
      · have : l = [] := List.eq_nil_of_length_eq_zero h0
        subst this
        exact cloneL0_any A c w
      · refine (cloneL_any A _ c l w hr hn).mono ?_
        rintro e w' ⟨v, rfl, how, hb⟩
        refine ⟨v, rfl, how, hb, fun k hk => ?_⟩
        obtain ⟨g, off, cap, rfl, _, hg, _⟩ := how.open_ h0
        injection hk with hk
        subst hk
        exact hg
    refine main.mono ?_
    rintro e w' ⟨v, rfl, how, hb, hlt⟩
    have hG : w.grownBy w' none := ⟨hb.os, hb.tape, hb.output, hb.size, fun b h _ => hb.block b h⟩
    have hnone : hp ([] : List AObj) 0 = none := rfl
    obtain ⟨A', c', he, g1, g2, hrd⟩ := how.form
    subst he
    have how0 : Ow w' 0 0 2 (.slice A' l.length c') l.length (lcells l) := ⟨how.1, by
      rcases how.2 with h | ⟨a, h, _, h'⟩ | ⟨g, off, cap, h, _, h'⟩
      · exact .inl h
      · exact .inr (.inl ⟨a, h, Nat.zero_le _, h'⟩)
      · exact .inr (.inr ⟨g, off, cap, h, Nat.zero_le _, h'⟩)⟩
    obtain ⟨S, K, E⟩ := En.new (n := 0) (o' := .sl 2 (l.map labR)) (h := .slice A' l.length c') hnone hG (fun b hb' => ⟨how.lt b (by rw [← blk_own rfl]; exact hb'), hlt b hb'⟩)
      ⟨_, by rw [List.length_map]; exact how0, (flat_map labR_flat l).rds, fun r hr => by obtain ⟨x, _, rfl⟩ := List.mem_map.1 hr; rfl⟩
    have e : updF (hp []) 0 (some (.sl 2 (l.map labR))) = hp [.sl 2 (l.map labR)] := by
      funext i
      match i with
      | 0 => rfl
      | i + 1 => rfl
    rw [e] at S E
    exact ⟨_, rfl, F, _, S, K, E, .own (updF_same _ _ _)⟩
/-- A struct that holds a slice of the call's own is lent. -/
theorem Sat.lendAgg {P : Program} {g : FuncId} {L : List AObj} {n i s : Nat} {rows : List (List D)} {x : D} {r : AV} (h : Sat P g [.d (.agg [x, .sl s rows])] [] r []) (hi : L[i]? = some (.sl s rows)) (hr : flatA r = true) : CallOK P g [.agg [.d x, .own i]] L n ⟨[i], [], []⟩ r := by
  have hl : Lend L [.d x, .own i] [.d x, .d (.sl s rows)] [i] := ⟨rfl, [], rfl, hi, rfl⟩
  have hlive := lend_live hl
  intro H F ρ w vals En hrs _ hv
  have hH : ∀ j ∈ [i], ∀ hh, ρ j = some hh → ∀ b, blkOf hh = some b → b < w.heap.size := by
    intro j hj hh hρ b hb
    obtain ⟨o, ho, hlv⟩ := hlive j hj
    obtain ⟨h0, e1, _, e3⟩ := En.rep j o (by rw [hrs j hj]; exact ho) hlv
    rw [hρ] at e1; injection e1 with e1; subst e1
    exact (e3 b hb).1
  let F1 : Nat → Prop := fun b => F b ∨ ∃ j ∈ [i], ∃ hh, ρ j = some hh ∧ blkOf hh = some b
  have E1 : Env F1 (fun _ => none) (hp []) w := ⟨fun b hb => hb.elim (En.fb b) fun ⟨j, hj, hh, h1, h2⟩ => hH j hj hh h1 b h2, fun _ _ => rfl, fun j o h => by simp [hp] at h, fun j k o o' _ _ _ h => by simp [hp] at h⟩
  obtain ⟨cs, rfl, hcs, h1⟩ : ∃ cs, vals = [.agg cs.toArray] ∧ RAs w F ρ [.d x, .own i] cs ∧ ∀ c ∈ cs, c.oneCell' = true := by
    cases hv with | cons hv hr =>
    cases hr
    cases hv with | agg h h1 => exact ⟨_, rfl, h, h1⟩
  have hra := hl.ras (F1 := F1) En (fun _ h => .inl h) hrs (fun j hj hh h1 b h2 => .inr ⟨j, hj, hh, h1, h2⟩) hcs
  have hd : RDs w F1 [x, .sl s rows] cs := RAs.toD (xs := [x, .sl s rows]) hra h1
  refine (h F1 (fun _ => none) w _ E1 (.cons (.d (.agg hd)) .nil)).mono ?_
  rintro en w' ⟨v, rfl, F2, ρ2, S, _, E2, R⟩
  have hold : ∀ b, b < w.heap.size → w'.heap[b]? = w.heap[b]? := fun b hb => S.unch b hb fun ⟨i, o, _, h, _⟩ => by simp [hp] at h
  refine ⟨v, rfl, fun b => F2 b ∧ (F b ∨ w.heap.size ≤ b), ρ, ⟨S.os, S.tape, S.output, S.size, fun b hb _ => hold b hb, fun b hb => ⟨S.fsub b (.inl hb), .inl hb⟩, fun b hb => hb.2.elim .inl fun q => .inr (.inl q), fun b hb => .inr hb⟩, Keep.refl _, ?_, R.flat r hr⟩
  refine ⟨fun b hb => E2.fb b hb.1, En.abs, fun i o hi hlv => ?_, En.inj⟩
  obtain ⟨hh, e1, e2, e3⟩ := En.rep i o hi hlv
  exact ⟨hh, e1, e2.mono S.size (fun b _ hlt => hold b hlt) (fun b hb => hold b (En.fb b hb)) (fun b hb => ⟨S.fsub b (.inl hb), .inl hb⟩) (Keep.refl _), fun b hb => ⟨Nat.lt_of_lt_of_le (e3 b hb).1 S.size, fun q => q.2.elim (e3 b hb).2 fun q => by have := (e3 b hb).1; omega⟩⟩
/-- A nil stands for a slice without rows. -/
abbrev nilV : D := .v (.slice none 0 0)
theorem RD.nilS {w : World} {F : Nat → Prop} {s : Nat} {v : Value} (h : RD w F nilV v) : RD w F (.sl s []) v := by
  cases h
  exact .sl (rows := []) (cs := []) (A := none) (n := 0) (c := 0) rfl (fun r hr => by cases hr) (Nat.le_refl _) (by decide) .nil fun h => absurd h (by simp)
theorem Sat.post {P : Program} {g : FuncId} {args : List AV} {H H' : List AObj} {r r' : AV} (h : Sat P g args H r H') (hr : ∀ w F ρ v, RA w F ρ r v → RA w F ρ r' v) : Sat P g args H r' H' := fun F ρ w vals En hv =>
  (h F ρ w vals En hv).mono fun e w' ⟨v, he, F', ρ', S, K, E, R⟩ => ⟨v, he, F', ρ', S, K, E, hr _ _ _ _ R⟩
theorem RD.nilAgg {w : World} {F : Nat → Prop} {s : Nat} {x : D} {v : Value} (h : RD w F (.agg [x, nilV]) v) : RD w F (.agg [x, .sl s []]) v := by
  cases h with | agg h =>
  cases h with | cons h1 h2 h3 =>
  cases h3 with | cons h4 h5 h6 => exact .agg (.cons h1 h2 (.cons h4.nilS h5 h6))
theorem nilTup {w : World} {F : Nat → Prop} {ρ : Nat → Option Value} {s : Nat} {x : D} {y : AV} {v : Value} (h : RA w F ρ (.tup [.d (.agg [x, nilV]), y]) v) : RA w F ρ (.tup [.d (.agg [x, .sl s []]), y]) v := by
  cases h with | tup h =>
  cases h with | cons h1 h2 =>
  cases h1 with | d h1 => exact .tup (.cons (.d h1.nilAgg) h2)
/-! ### Make -/
def makeS (nm : Bt) (l : List Lab) : Ser × Int :=
  if nameL nm = true then if l.length ≤ 8 then if l.all labB = true then if rightB (nm, insS l) = true then ((nm, insS l), 0) else (([], []), 18) else (([], []), 10) else (([], []), 17) else (([], []), 10)
set_option maxHeartbeats 4000000 in
theorem make_sat (nm : Bt) (l : List Lab) : Sat Tryd.prog 8 [.d (tD nm), .d (.sl 2 (l.map labR))] [] (.tup [.d (serD (makeS nm l).1), iA (makeS nm l).2]) [] := by
  have hl : (l.map labR).length = l.length := List.length_map _
  have n1 := named_sat nm
  unfold makeS
  by_cases h1 : nameL nm = true
  case neg =>
    rw [if_neg h1]
    rw [Bool.not_eq_true] at h1
    rw [h1] at n1
    refine Sat.post (r := .tup [.d (.agg [tD [], nilV]), iA 10]) ?_ fun w F ρ v h => nilTup h
    refine sat_of_vc (T := tiOf Tryd.prog) (E := E0) Tryd.func8 rfl rfl hE0 hm0 rfl ?_
    conv => whnf
    iterate 3
      repeat' (first | exact True.intro | ((first | refine And.intro (fun _ => ?_) tf | refine And.intro ft (fun _ => ?_) | refine And.intro (by kernel_rfl) ?_ | refine And.intro (by decide) ?_ | refine And.intro (fun _ => ?_) (fun h => absurd h (by decide)) | refine And.intro (fun h => absurd h (by decide)) (fun _ => ?_) | refine ⟨_, _, n1.pu rfl rfl, ?_⟩ | fail); conv => whnf) | (refine And.intro (fun _ => ?_) (fun _ => ?_) <;> conv => whnf) | fail)
      all_goals try (refine Or.inl ?_; conv => whnf)
    all_goals try (exfalso; simp only [decide_eq_true_eq, decide_eq_false_iff_not, Bool.not_eq_true', Bool.not_eq_false', Bool.not_eq_true, Bool.not_eq_false, beq_iff_eq, bne_iff_ne, beq_eq_false_iff_ne, bne_eq_false_iff_eq, ne_eq, Decidable.not_not] at *; first | omega | contradiction | (simp_all; done) | (simp_all; omega))
    all_goals refine ⟨[], ?_⟩
    repeat (any_goals (first | exact True.intro | exact rfl | with_reducible_and_instances rfl | exact (by kernel_rfl) | refine And.intro ?_ ?_))
    all_goals conv => whnf
  rw [if_pos h1]
  rw [h1] at n1
  by_cases h2 : l.length ≤ 8
  case neg =>
    rw [if_neg h2]
    refine Sat.post (r := .tup [.d (.agg [tD [], nilV]), iA 17]) ?_ fun w F ρ v h => nilTup h
    refine sat_of_vc (T := tiOf Tryd.prog) (E := E0) Tryd.func8 rfl rfl hE0 hm0 rfl ?_
    conv => whnf
    iterate 4
      repeat' (first | exact True.intro | ((first | refine And.intro (fun _ => ?_) tf | refine And.intro ft (fun _ => ?_) | refine And.intro (by kernel_rfl) ?_ | refine And.intro (by decide) ?_ | refine And.intro (fun _ => ?_) (fun h => absurd h (by decide)) | refine And.intro (fun h => absurd h (by decide)) (fun _ => ?_) | refine ⟨_, _, n1.pu rfl rfl, ?_⟩ | fail); conv => whnf) | (refine And.intro (fun _ => ?_) (fun _ => ?_) <;> conv => whnf) | fail)
      all_goals try (refine Or.inl ?_; conv => whnf)
    all_goals try (exfalso; simp only [decide_eq_true_eq, decide_eq_false_iff_not, Bool.not_eq_true', Bool.not_eq_false', Bool.not_eq_true, Bool.not_eq_false, beq_iff_eq, bne_iff_ne, beq_eq_false_iff_ne, bne_eq_false_iff_eq, ne_eq, Decidable.not_not] at *; first | omega | contradiction | (simp_all; done) | (simp_all; omega))
    all_goals refine ⟨[], ?_⟩
    repeat (any_goals (first | exact True.intro | exact rfl | with_reducible_and_instances rfl | exact (by kernel_rfl) | refine And.intro ?_ ?_))
    all_goals conv => whnf
  rw [if_pos h2]
  cases hall : l.all labB with
  | false =>
    rw [if_neg (by simp)]
    refine Sat.post (r := .tup [.d (.agg [tD [], nilV]), iA 10]) ?_ fun w F ρ v h => nilTup h
    refine sat_of_vc (T := tiOf Tryd.prog) (E := E0) Tryd.func8 rfl rfl hE0 hm0 rfl ?_
    conv => whnf
    iterate 4
      repeat' (first | exact True.intro | ((first | refine And.intro (fun _ => ?_) tf | refine And.intro ft (fun _ => ?_) | refine And.intro (by kernel_rfl) ?_ | refine And.intro (by decide) ?_ | refine And.intro (fun _ => ?_) (fun h => absurd h (by decide)) | refine And.intro (fun h => absurd h (by decide)) (fun _ => ?_) | refine ⟨_, _, n1.pu rfl rfl, ?_⟩ | fail); conv => whnf) | (refine And.intro (fun _ => ?_) (fun _ => ?_) <;> conv => whnf) | fail)
      all_goals try (refine Or.inl ?_; conv => whnf)
    all_goals try (exfalso; simp only [decide_eq_true_eq, decide_eq_false_iff_not, Bool.not_eq_true', Bool.not_eq_false', Bool.not_eq_true, Bool.not_eq_false, beq_iff_eq, bne_iff_ne, beq_eq_false_iff_ne, bne_eq_false_iff_eq, ne_eq, Decidable.not_not] at *; first | omega | contradiction | (simp_all; done) | (simp_all; omega))
    refine ⟨Nat, fun i => i ≤ l.length ∧ (l.take i).all labB = true, fun i => ([(19, iA i), (18, iA (l.map labR).length), (17, .d (.sl 2 (l.map labR))), (4, .ptr 0 0), (1, .d (.sl 2 (l.map labR))), (0, .d (tD nm))], [.cells [.d (tD []), .d (.v (.slice none 0 0))]]), fun i => l.length - i, ⟨0, ⟨Nat.zero_le _, rfl⟩, ?_⟩, ?_⟩
    · all_goals refine ⟨[], ?_⟩
      repeat (any_goals (first | exact True.intro | exact rfl | with_reducible_and_instances rfl | exact (by kernel_rfl) | refine And.intro ?_ ?_))
      all_goals conv => whnf
    rintro i ⟨hi, hI⟩
    have hi : i ≤ l.length := hi
    conv => whnf
    by_cases hlt : i < l.length
    case neg =>
      have := all_tk hI (by omega)
      rw [hall] at this; cases this
    have hx : l[i]? = some l[i] := List.getElem?_eq_getElem hlt
    generalize l[i] = x at hx
    have hgx := map_get (f := labR) hx
    have v1 := valid_sat x
    have d1 : decide ((i : Int) < ((l.map labR).length : Nat)) = true := decide_eq_true (by rw [hl]; omega)
    cases hv : labB x with
    | false =>
      rw [hv] at v1
      iterate 5
        repeat' (first | exact True.intro | ((first | refine ⟨i, _, rfl, hgx, ?_⟩ | refine And.intro (fun _ => ?_) tf | refine And.intro ft (fun _ => ?_) | refine And.intro (by kernel_rfl) ?_ | refine And.intro (by decide) ?_ | refine And.intro (fun _ => ?_) (fun h => absurd h (by decide)) | refine And.intro (fun h => absurd h (by decide)) (fun _ => ?_) | refine ⟨_, _, v1.pu rfl rfl, ?_⟩ | fail); conv => whnf) | (refine And.intro (fun _ => ?_) (fun _ => ?_) <;> conv => whnf) | fail)
        all_goals try (refine Or.inl ?_; conv => whnf)
      all_goals try exact (bnl d1 ‹_›).elim
      all_goals try (exfalso; simp only [decide_eq_true_eq, decide_eq_false_iff_not, Bool.not_eq_true', Bool.not_eq_false', Bool.not_eq_true, Bool.not_eq_false, beq_iff_eq, bne_iff_ne, beq_eq_false_iff_ne, bne_eq_false_iff_eq, ne_eq, Decidable.not_not] at *; first | omega | contradiction | (simp_all; done) | (simp_all; omega))
      all_goals refine ⟨[], ?_⟩
      repeat (any_goals (first | exact True.intro | exact rfl | with_reducible_and_instances rfl | exact (by kernel_rfl) | refine And.intro ?_ ?_))
      all_goals conv => whnf
    | true =>
      rw [hv] at v1
      iterate 5
        repeat' (first | exact True.intro | ((first | refine ⟨i, _, rfl, hgx, ?_⟩ | refine And.intro (fun _ => ?_) tf | refine And.intro ft (fun _ => ?_) | refine And.intro (by kernel_rfl) ?_ | refine And.intro (by decide) ?_ | refine And.intro (fun _ => ?_) (fun h => absurd h (by decide)) | refine And.intro (fun h => absurd h (by decide)) (fun _ => ?_) | refine ⟨_, _, v1.pu rfl rfl, ?_⟩ | fail); conv => whnf) | (refine And.intro (fun _ => ?_) (fun _ => ?_) <;> conv => whnf) | fail)
        all_goals try (refine Or.inl ?_; conv => whnf)
      all_goals try exact (bnl d1 ‹_›).elim
      all_goals try (exfalso; simp only [decide_eq_true_eq, decide_eq_false_iff_not, Bool.not_eq_true', Bool.not_eq_false', Bool.not_eq_true, Bool.not_eq_false, beq_iff_eq, bne_iff_ne, beq_eq_false_iff_ne, bne_eq_false_iff_eq, ne_eq, Decidable.not_not] at *; first | omega | contradiction | (simp_all; done) | (simp_all; omega))
      refine ⟨i + 1, ⟨hlt, all_nx hI hx hv⟩, show l.length - (i + 1) < l.length - i by omega, ?_⟩
      all_goals refine ⟨[], ?_⟩
      repeat (any_goals (first | exact True.intro | exact rfl | with_reducible_and_instances rfl | exact (by kernel_rfl) | refine And.intro ?_ ?_))
      all_goals conv => whnf
      exact wk1 (by omega)
  | true =>
  rw [if_pos rfl]
  have c1 := cloneL_sat l (by omega)
  have s1 := sortF_sat l (by omega)
  have r1 := sRight_sat (nm, insS l)
  cases hr : rightB (nm, insS l) with
  | true =>
    rw [hr] at r1
    rw [if_pos rfl]
    refine sat_of_vc (T := tiOf Tryd.prog) (E := E0) Tryd.func8 rfl rfl hE0 hm0 rfl ?_
    conv => whnf
    iterate 4
      repeat' (first | exact True.intro | ((first | refine And.intro (fun _ => ?_) tf | refine And.intro ft (fun _ => ?_) | refine And.intro (by kernel_rfl) ?_ | refine And.intro (by decide) ?_ | refine And.intro (fun _ => ?_) (fun h => absurd h (by decide)) | refine And.intro (fun h => absurd h (by decide)) (fun _ => ?_) | refine ⟨_, _, n1.pu rfl rfl, ?_⟩ | fail); conv => whnf) | (refine And.intro (fun _ => ?_) (fun _ => ?_) <;> conv => whnf) | fail)
      all_goals try (refine Or.inl ?_; conv => whnf)
    all_goals try (exfalso; simp only [decide_eq_true_eq, decide_eq_false_iff_not, Bool.not_eq_true', Bool.not_eq_false', Bool.not_eq_true, Bool.not_eq_false, beq_iff_eq, bne_iff_ne, beq_eq_false_iff_ne, bne_eq_false_iff_eq, ne_eq, Decidable.not_not] at *; first | omega | contradiction | (simp_all; done) | (simp_all; omega))
    refine ⟨Nat, fun i => i ≤ l.length, fun i => ([(19, iA i), (18, iA (l.map labR).length), (17, .d (.sl 2 (l.map labR))), (4, .ptr 0 0), (1, .d (.sl 2 (l.map labR))), (0, .d (tD nm))], [.cells [.d (tD []), .d (.v (.slice none 0 0))]]), fun i => l.length - i, ⟨0, Nat.zero_le _, ?_⟩, ?_⟩
    · all_goals refine ⟨[], ?_⟩
      repeat (any_goals (first | exact True.intro | exact rfl | with_reducible_and_instances rfl | exact (by kernel_rfl) | refine And.intro ?_ ?_))
      all_goals conv => whnf
    intro i hi
    have hi : i ≤ l.length := hi
    conv => whnf
    by_cases hlt : i < l.length
    · have hx : l[i]? = some l[i] := List.getElem?_eq_getElem hlt
      generalize l[i] = x at hx
      have hgx := map_get (f := labR) hx
      have v1 := valid_sat x
      have hv : labB x = true := List.all_eq_true.1 hall x (List.mem_of_getElem? hx)
      rw [hv] at v1
      have d1 : decide ((i : Int) < ((l.map labR).length : Nat)) = true := decide_eq_true (by rw [hl]; omega)
      iterate 5
        repeat' (first | exact True.intro | ((first | refine ⟨i, _, rfl, hgx, ?_⟩ | refine And.intro (fun _ => ?_) tf | refine And.intro ft (fun _ => ?_) | refine And.intro (by kernel_rfl) ?_ | refine And.intro (by decide) ?_ | refine And.intro (fun _ => ?_) (fun h => absurd h (by decide)) | refine And.intro (fun h => absurd h (by decide)) (fun _ => ?_) | refine ⟨_, _, v1.pu rfl rfl, ?_⟩ | fail); conv => whnf) | (refine And.intro (fun _ => ?_) (fun _ => ?_) <;> conv => whnf) | fail)
        all_goals try (refine Or.inl ?_; conv => whnf)
      all_goals try exact (bnl d1 ‹_›).elim
      all_goals try (exfalso; simp only [decide_eq_true_eq, decide_eq_false_iff_not, Bool.not_eq_true', Bool.not_eq_false', Bool.not_eq_true, Bool.not_eq_false, beq_iff_eq, bne_iff_ne, beq_eq_false_iff_ne, bne_eq_false_iff_eq, ne_eq, Decidable.not_not] at *; first | omega | contradiction | (simp_all; done) | (simp_all; omega))
      refine ⟨i + 1, hlt, show l.length - (i + 1) < l.length - i by omega, ?_⟩
      all_goals refine ⟨[], ?_⟩
      repeat (any_goals (first | exact True.intro | exact rfl | with_reducible_and_instances rfl | exact (by kernel_rfl) | refine And.intro ?_ ?_))
      all_goals conv => whnf
      exact wk1 (by omega)
    · have d1 : decide ((i : Int) < ((l.map labR).length : Nat)) = false := decide_eq_false (by rw [hl]; omega)
      iterate 5
        repeat' (first | exact True.intro | ((first | refine And.intro (fun _ => ?_) tf | refine And.intro ft (fun _ => ?_) | refine And.intro (by kernel_rfl) ?_ | refine And.intro (by decide) ?_ | refine And.intro (fun _ => ?_) (fun h => absurd h (by decide)) | refine And.intro (fun h => absurd h (by decide)) (fun _ => ?_) | refine ⟨_, _, c1.nw rfl, ?_⟩ | refine ⟨_, _, s1.at1 1 rfl rfl rfl, ?_⟩ | refine ⟨_, _, r1.lendAgg rfl rfl, ?_⟩ | fail); conv => whnf) | (refine And.intro (fun _ => ?_) (fun _ => ?_) <;> conv => whnf) | fail)
        all_goals try (refine Or.inl ?_; conv => whnf)
      all_goals try exact (bnl ‹_› d1).elim
      all_goals try (exfalso; simp only [decide_eq_true_eq, decide_eq_false_iff_not, Bool.not_eq_true', Bool.not_eq_false', Bool.not_eq_true, Bool.not_eq_false, beq_iff_eq, bne_iff_ne, beq_eq_false_iff_ne, bne_eq_false_iff_eq, ne_eq, Decidable.not_not] at *; first | omega | contradiction | (simp_all; done) | (simp_all; omega))
      all_goals refine ⟨[], ?_⟩
      repeat (any_goals (first | exact True.intro | exact rfl | with_reducible_and_instances rfl | exact (by kernel_rfl) | refine And.intro ?_ ?_))
      all_goals conv => whnf
  | false =>
    rw [hr] at r1
    rw [if_neg (by simp)]
    refine Sat.post (r := .tup [.d (.agg [tD [], nilV]), iA 18]) ?_ fun w F ρ v h => nilTup h
    refine sat_of_vc (T := tiOf Tryd.prog) (E := E0) Tryd.func8 rfl rfl hE0 hm0 rfl ?_
    conv => whnf
    iterate 4
      repeat' (first | exact True.intro | ((first | refine And.intro (fun _ => ?_) tf | refine And.intro ft (fun _ => ?_) | refine And.intro (by kernel_rfl) ?_ | refine And.intro (by decide) ?_ | refine And.intro (fun _ => ?_) (fun h => absurd h (by decide)) | refine And.intro (fun h => absurd h (by decide)) (fun _ => ?_) | refine ⟨_, _, n1.pu rfl rfl, ?_⟩ | fail); conv => whnf) | (refine And.intro (fun _ => ?_) (fun _ => ?_) <;> conv => whnf) | fail)
      all_goals try (refine Or.inl ?_; conv => whnf)
    all_goals try (exfalso; simp only [decide_eq_true_eq, decide_eq_false_iff_not, Bool.not_eq_true', Bool.not_eq_false', Bool.not_eq_true, Bool.not_eq_false, beq_iff_eq, bne_iff_ne, beq_eq_false_iff_ne, bne_eq_false_iff_eq, ne_eq, Decidable.not_not] at *; first | omega | contradiction | (simp_all; done) | (simp_all; omega))
    refine ⟨Nat, fun i => i ≤ l.length, fun i => ([(19, iA i), (18, iA (l.map labR).length), (17, .d (.sl 2 (l.map labR))), (4, .ptr 0 0), (1, .d (.sl 2 (l.map labR))), (0, .d (tD nm))], [.cells [.d (tD []), .d (.v (.slice none 0 0))]]), fun i => l.length - i, ⟨0, Nat.zero_le _, ?_⟩, ?_⟩
    · all_goals refine ⟨[], ?_⟩
      repeat (any_goals (first | exact True.intro | exact rfl | with_reducible_and_instances rfl | exact (by kernel_rfl) | refine And.intro ?_ ?_))
      all_goals conv => whnf
    intro i hi
    have hi : i ≤ l.length := hi
    conv => whnf
    by_cases hlt : i < l.length
    · have hx : l[i]? = some l[i] := List.getElem?_eq_getElem hlt
      generalize l[i] = x at hx
      have hgx := map_get (f := labR) hx
      have v1 := valid_sat x
      have hv : labB x = true := List.all_eq_true.1 hall x (List.mem_of_getElem? hx)
      rw [hv] at v1
      have d1 : decide ((i : Int) < ((l.map labR).length : Nat)) = true := decide_eq_true (by rw [hl]; omega)
      iterate 5
        repeat' (first | exact True.intro | ((first | refine ⟨i, _, rfl, hgx, ?_⟩ | refine And.intro (fun _ => ?_) tf | refine And.intro ft (fun _ => ?_) | refine And.intro (by kernel_rfl) ?_ | refine And.intro (by decide) ?_ | refine And.intro (fun _ => ?_) (fun h => absurd h (by decide)) | refine And.intro (fun h => absurd h (by decide)) (fun _ => ?_) | refine ⟨_, _, v1.pu rfl rfl, ?_⟩ | fail); conv => whnf) | (refine And.intro (fun _ => ?_) (fun _ => ?_) <;> conv => whnf) | fail)
        all_goals try (refine Or.inl ?_; conv => whnf)
      all_goals try exact (bnl d1 ‹_›).elim
      all_goals try (exfalso; simp only [decide_eq_true_eq, decide_eq_false_iff_not, Bool.not_eq_true', Bool.not_eq_false', Bool.not_eq_true, Bool.not_eq_false, beq_iff_eq, bne_iff_ne, beq_eq_false_iff_ne, bne_eq_false_iff_eq, ne_eq, Decidable.not_not] at *; first | omega | contradiction | (simp_all; done) | (simp_all; omega))
      refine ⟨i + 1, hlt, show l.length - (i + 1) < l.length - i by omega, ?_⟩
      all_goals refine ⟨[], ?_⟩
      repeat (any_goals (first | exact True.intro | exact rfl | with_reducible_and_instances rfl | exact (by kernel_rfl) | refine And.intro ?_ ?_))
      all_goals conv => whnf
      exact wk1 (by omega)
    · have d1 : decide ((i : Int) < ((l.map labR).length : Nat)) = false := decide_eq_false (by rw [hl]; omega)
      iterate 5
        repeat' (first | exact True.intro | ((first | refine And.intro (fun _ => ?_) tf | refine And.intro ft (fun _ => ?_) | refine And.intro (by kernel_rfl) ?_ | refine And.intro (by decide) ?_ | refine And.intro (fun _ => ?_) (fun h => absurd h (by decide)) | refine And.intro (fun h => absurd h (by decide)) (fun _ => ?_) | refine ⟨_, _, c1.nw rfl, ?_⟩ | refine ⟨_, _, s1.at1 1 rfl rfl rfl, ?_⟩ | refine ⟨_, _, r1.lendAgg rfl rfl, ?_⟩ | fail); conv => whnf) | (refine And.intro (fun _ => ?_) (fun _ => ?_) <;> conv => whnf) | fail)
        all_goals try (refine Or.inl ?_; conv => whnf)
      all_goals try exact (bnl ‹_› d1).elim
      all_goals try (exfalso; simp only [decide_eq_true_eq, decide_eq_false_iff_not, Bool.not_eq_true', Bool.not_eq_false', Bool.not_eq_true, Bool.not_eq_false, beq_iff_eq, bne_iff_ne, beq_eq_false_iff_ne, bne_eq_false_iff_eq, ne_eq, Decidable.not_not] at *; first | omega | contradiction | (simp_all; done) | (simp_all; omega))
      all_goals refine ⟨[], ?_⟩
      repeat (any_goals (first | exact True.intro | exact rfl | with_reducible_and_instances rfl | exact (by kernel_rfl) | refine And.intro ?_ ?_))
      all_goals conv => whnf
end Go.Proofs.YtpnbpcdmiiakcaaDoor
/- label: Get, Text; the document's text. -/
namespace Go.Proofs.YtpnbpcdmiiakcaaDoor
set_option linter.unusedSimpArgs false
open Go.RowKit
set_option maxRecDepth 100000
set_option linter.unusedVariables false
def getL (l : List Lab) (nm : Bt) : Bt × Bool := match l.find? (fun x => decide (x.1 = nm)) with | some x => (x.2, true) | none => ([], false)
set_option maxHeartbeats 2000000 in
theorem get_sat (s : Ser) (nm : Bt) (hn : s.2.length ≤ 1000000) : Sat Tryd.prog 19 [.d (serD s), .d (tD nm)] [] (.tup [.d (tD (getL s.2 nm).1), bA (getL s.2 nm).2]) [] := by
  obtain ⟨sn, l⟩ := s
  have hn : l.length ≤ 1000000 := hn
  have hl : (l.map labR).length = l.length := List.length_map _
  refine sat_of_vc (T := tiOf Tryd.prog) (E := E0) Tryd.func19 rfl rfl hE0 hm0 rfl ?_
  conv => whnf
  iterate 2
    repeat' (first | exact True.intro | ((first | refine And.intro (fun _ => ?_) tf | refine And.intro ft (fun _ => ?_) | refine And.intro (by kernel_rfl) ?_ | refine And.intro (by decide) ?_ | refine And.intro (fun _ => ?_) (fun h => absurd h (by decide)) | refine And.intro (fun h => absurd h (by decide)) (fun _ => ?_) | fail); conv => whnf) | (refine And.intro (fun _ => ?_) (fun _ => ?_) <;> conv => whnf) | fail)
    all_goals try (refine Or.inl ?_; conv => whnf)
  refine ⟨Nat, fun i => i ≤ l.length ∧ (l.take i).find? (fun x => decide (x.1 = nm)) = none, fun i => ([(11, iA i), (10, iA (l.map labR).length), (9, .d (.sl 2 (l.map labR))), (1, .d (tD nm))], []), fun i => l.length - i, ⟨0, ⟨Nat.zero_le _, rfl⟩, ?_⟩, ?_⟩
  · all_goals refine ⟨[], ?_⟩
    repeat (any_goals (first | exact True.intro | exact rfl | with_reducible_and_instances rfl | exact (by kernel_rfl) | refine And.intro ?_ ?_))
    all_goals conv => whnf
  rintro i ⟨hi, hI⟩
  have hi : i ≤ l.length := hi
  conv => whnf
  by_cases hlt : i < l.length
  · have hx : l[i]? = some l[i] := List.getElem?_eq_getElem hlt
    generalize l[i] = x at hx
    have hgx := map_get (f := labR) hx
    have d1 : decide ((i : Int) < ((l.map labR).length : Nat)) = true := decide_eq_true (by rw [hl]; omega)
    by_cases hc : x.1 = nm
    · have e1 : decide (x.1 = nm) = true := decide_eq_true hc
      rw [show getL (sn, l).2 nm = (x.2, true) by show getL l nm = _; unfold getL; rw [find_hit hI hx e1]]
      iterate 5
        repeat' (first | exact True.intro | ((first | refine ⟨i, _, rfl, hgx, ?_⟩ | refine And.intro (fun _ => ?_) tf | refine And.intro ft (fun _ => ?_) | refine And.intro (by kernel_rfl) ?_ | refine And.intro (by decide) ?_ | refine And.intro (fun _ => ?_) (fun h => absurd h (by decide)) | refine And.intro (fun h => absurd h (by decide)) (fun _ => ?_) | refine ⟨_, _, eqL', ?_⟩ | fail); conv => whnf) | (refine And.intro (fun _ => ?_) (fun _ => ?_) <;> conv => whnf) | fail)
        all_goals try (refine Or.inl ?_; conv => whnf)
      all_goals try exact (bnl d1 ‹_›).elim
      all_goals try exact (bnl e1 ‹decide (x.1 = nm) = false›).elim
      all_goals refine ⟨[], ?_⟩
      repeat (any_goals (first | exact True.intro | exact rfl | with_reducible_and_instances rfl | exact (by kernel_rfl) | refine And.intro ?_ ?_))
      all_goals conv => whnf
    · have e1 : decide (x.1 = nm) = false := decide_eq_false hc
      iterate 5
        repeat' (first | exact True.intro | ((first | refine ⟨i, _, rfl, hgx, ?_⟩ | refine And.intro (fun _ => ?_) tf | refine And.intro ft (fun _ => ?_) | refine And.intro (by kernel_rfl) ?_ | refine And.intro (by decide) ?_ | refine And.intro (fun _ => ?_) (fun h => absurd h (by decide)) | refine And.intro (fun h => absurd h (by decide)) (fun _ => ?_) | refine ⟨_, _, eqL', ?_⟩ | fail); conv => whnf) | (refine And.intro (fun _ => ?_) (fun _ => ?_) <;> conv => whnf) | fail)
        all_goals try (refine Or.inl ?_; conv => whnf)
      all_goals try exact (bnl d1 ‹_›).elim
      all_goals try exact (bnl ‹decide (x.1 = nm) = true› e1).elim
      refine ⟨i + 1, ⟨hlt, find_next hI hx e1⟩, show l.length - (i + 1) < l.length - i by omega, ?_⟩
      all_goals refine ⟨[], ?_⟩
      repeat (any_goals (first | exact True.intro | exact rfl | with_reducible_and_instances rfl | exact (by kernel_rfl) | refine And.intro ?_ ?_))
      all_goals conv => whnf
      exact wk1 (by omega)
  · rw [show getL (sn, l).2 nm = ([], false) by show getL l nm = _; unfold getL; rw [List.take_of_length_le (by omega)] at hI; rw [hI]]
    iterate 5
      repeat' (first | exact True.intro | ((first | refine And.intro (fun _ => ?_) tf | refine And.intro ft (fun _ => ?_) | refine And.intro (by kernel_rfl) ?_ | refine And.intro (by decide) ?_ | refine And.intro (fun _ => ?_) (fun h => absurd h (by decide)) | refine And.intro (fun h => absurd h (by decide)) (fun _ => ?_) | fail); conv => whnf) | (refine And.intro (fun _ => ?_) (fun _ => ?_) <;> conv => whnf) | fail)
      all_goals try (refine Or.inl ?_; conv => whnf)
    all_goals try (exfalso; simp only [decide_eq_true_eq, decide_eq_false_iff_not, Bool.not_eq_true', Bool.not_eq_false', Bool.not_eq_true, Bool.not_eq_false, beq_iff_eq, bne_iff_ne, beq_eq_false_iff_ne, bne_eq_false_iff_eq, ne_eq, Decidable.not_not] at *; first | omega | contradiction | (simp_all; done) | (simp_all; omega))
    all_goals refine ⟨[], ?_⟩
    repeat (any_goals (first | exact True.intro | exact rfl | with_reducible_and_instances rfl | exact (by kernel_rfl) | refine And.intro ?_ ?_))
    all_goals conv => whnf
/-! ### strings.Join -/
theorem join_sat (xs : List Bt) (sep : Bt) (hN : xs.length ≤ 1000) (hlen : (Lib.join xs sep).length ≤ 1000000) : Sat Tryd.prog 34 [.d (.sl 1 (xs.map fun x => [tD x])), .d (tD sep)] [] (.d (tD (Lib.join xs sep))) [] := by
  have hf : ∀ xs : List Bt, FlatVs (xs.map fun x => [tD x]).flatten (xs.map fun x => Value.string ⟨x.toArray⟩) := by
    intro xs
    induction xs with
    | nil => exact .nil
    | cons x xs ih => exact .cons (.v _) rfl ih
  intro F ρ w vals En hv
  obtain ⟨v, u, rfl, hv', hu⟩ := hv.two_out
  have := hu.v_out
  subst this
  cases hv' with | d hv =>
  obtain ⟨A, c, rfl, h1, h2, hr⟩ := hv.sl_rd En.fb (hf xs)
  rw [List.length_map] at hr h1 ⊢
  have main : Calls Tryd.prog 34 #[.slice A xs.length c, .string ⟨sep.toArray⟩] w fun e w' => e = .returned (.string ⟨(Lib.join xs sep).toArray⟩) ∧ Below w.heap.size w w' := by
    rcases Nat.eq_zero_or_pos xs.length with h0 | h0
    · have : xs = [] := List.eq_nil_of_length_eq_zero h0
      subst this
      exact (Tryd.strings_Join_none A c ⟨sep.toArray⟩ w).mono fun e w' ⟨h1, h2⟩ => ⟨h1, by subst h2; exact Below.refl _ _⟩
    · obtain ⟨b, off, rfl, hb, hc⟩ := hr.2 h0
      have hm : (xs.map fun x => (⟨x.toArray⟩ : ByteArray)).map (·.data.toList) = xs := by simp [List.map_map, Function.comp_def]
      have J := Tryd.strings_Join b off c (xs.map fun x => (⟨x.toArray⟩ : ByteArray)) ⟨sep.toArray⟩ w (fun j x hx => ?_) hb (by simp; omega) (by simpa using h1) (by show (Lib.join _ sep).length ≤ _; rw [hm]; omega)
      · rw [hm, List.length_map] at J
        exact J
      · have hj : j < xs.length := by have := (List.getElem?_eq_some_iff.1 hx).1; simpa using this
        rw [hc j (by simpa using hj)]
        rw [List.getElem?_eq_getElem (by simpa using hj)] at hx
        injection hx with hx
        simp only [List.getElem_map] at hx ⊢
        rw [hx]
  refine main.mono ?_
  rintro e w' ⟨rfl, hb⟩
  obtain ⟨S, E'⟩ := step_below En hb
  exact ⟨_, rfl, F, ρ, S, Keep.refl _, E', .d (.v _)⟩
end Go.Proofs.YtpnbpcdmiiakcaaDoor
/- label: a series as text, by the program and by the document. -/
namespace Go.Proofs.YtpnbpcdmiiakcaaDoor
set_option linter.unusedSimpArgs false
open Go.RowKit
set_option maxRecDepth 100000
set_option linter.unusedVariables false
def pieceT (l : Lab) : Bt := l.1 ++ [61] ++ l.2
def bodyT : List Lab → Bt
  | [] => []
  | x :: r => [123] ++ pieceT x ++ (r.map fun y => [44] ++ pieceT y).flatten
def textS (s : Ser) : Bt := if rightB s = true then if s.2 = [] then s.1 else s.1 ++ bodyT s.2 ++ [125] else []
theorem nameL_len {l : Bt} (h : nameL l = true) : l.length ≤ 64 := by
  cases l with
  | nil => simp
  | cons x r =>
    rw [nameL_cons, Bool.and_eq_true, decide_eq_true_eq] at h
    exact h.1
theorem labB_len {x : Lab} (h : labB x = true) : x.1.length ≤ 64 ∧ x.2.length ≤ 64 := by
  unfold labB at h
  rw [Bool.and_eq_true] at h
  refine ⟨nameL_len h.2, ?_⟩
  have := h.1
  unfold valueL at this
  rw [Bool.and_eq_true, decide_eq_true_eq] at this
  exact this.1
theorem chkL_labs : ∀ {l : List Lab} {p : Option Bt}, chkL p l = true → ∀ x ∈ l, labB x = true
  | [], _, _, x, hx => by cases hx
  | y :: r, p, h, x, hx => by
    have h : (labB y && (_ && chkL (some y.1) r)) = true := h
    rw [Bool.and_eq_true, Bool.and_eq_true] at h
    rcases List.mem_cons.1 hx with e | e
    · rw [e]; exact h.1
    · exact chkL_labs h.2.2 x e
theorem right_out {s : Ser} (h : rightB s = true) : nameL s.1 = true ∧ s.2.length ≤ 8 ∧ ∀ x ∈ s.2, labB x = true := by
  unfold rightB at h
  simp only [Bool.and_eq_true, decide_eq_true_eq] at h
  exact ⟨h.1, h.2.1, chkL_labs h.2.2⟩
theorem pieceT_len {x : Lab} (h : labB x = true) : (pieceT x).length ≤ 129 := by
  have := labB_len h
  unfold pieceT
  simp
  omega
theorem tail_len : ∀ {l : List Lab}, (∀ x ∈ l, labB x = true) → (l.map fun y => [44] ++ pieceT y).flatten.length ≤ 130 * l.length
  | [], _ => by simp
  | x :: r, h => by
    have h1 := pieceT_len (h x (List.mem_cons_self ..))
    have h2 := tail_len (l := r) fun y hy => h y (List.mem_cons_of_mem _ hy)
    rw [List.map_cons, List.flatten_cons, List.length_append, List.length_append]
    simp only [List.length_cons, List.length_nil]
    omega
theorem bodyT_len {l : List Lab} (h : ∀ x ∈ l, labB x = true) : (bodyT l).length ≤ 130 * l.length := by
  cases l with
  | nil => simp [bodyT]
  | cons x r =>
    have h1 := pieceT_len (h x (List.mem_cons_self ..))
    have h2 := tail_len (l := r) fun y hy => h y (List.mem_cons_of_mem _ hy)
    unfold bodyT
    rw [List.length_append, List.length_append]
    simp only [List.length_cons, List.length_nil]
    omega
theorem bodyT_join {l : List Lab} (h : l ≠ []) : bodyT l = [123] ++ Lib.join (l.map pieceT) [44] := by
  cases l with
  | nil => exact absurd rfl h
  | cons x r =>
    rw [List.map_cons, Lib.join_cons]
    show [123] ++ pieceT x ++ (r.map fun y => [44] ++ pieceT y).flatten = _
    unfold Lib.joinTail
    rw [List.append_assoc, List.map_map]
    rfl
theorem bodyT_next : ∀ (l : List Lab) (x : Lab), bodyT (l ++ [x]) = bodyT l ++ ((if l = [] then [123] else [44]) ++ pieceT x)
  | [], x => by simp [bodyT]
  | a :: r, x => by
    rw [if_neg (by simp)]
    show [123] ++ pieceT a ++ ((r ++ [x]).map fun y => [44] ++ pieceT y).flatten = [123] ++ pieceT a ++ (r.map fun y => [44] ++ pieceT y).flatten ++ _
    simp
theorem mkT {L : List AObj} {ty n : Nat} {a1 a2 : Operand} (c : Nat) (hc : c ≤ 1000) : Does Tryd.prog (.makeSlice 66 a1 a2) ty L n [iA c, iA c] ⟨[], [], [.sl 1 (List.replicate c [tD []])]⟩ (.own n) := by
  have h := mkf (P := Tryd.prog) (t := 66) (L := L) (ty := ty) (n := n) (a1 := a1) (a2 := a2) (c := c) (kd := .i64) (kd' := .i64) 1 16 (by kernel_rfl) (by omega) (by unfold maxLen; omega)
  have e : ((tiOf Tryd.prog (tiOf Tryd.prog 66).elem).zero.map D.v) = [tD []] := by kernel_rfl
  rwa [e] at h
theorem rep_get {l : List Lab} {i : Nat} (hi : i < l.length) : ((l.take i).map fun x => [tD (pieceT x)]) ++ List.replicate (l.length - i) [tD []] = ((l.take i).map fun x => [tD (pieceT x)]) ++ [tD []] :: List.replicate (l.length - (i + 1)) [tD []] := by
  rw [show l.length - i = (l.length - (i + 1)) + 1 by omega, List.replicate_succ]
theorem rep_set {l : List Lab} {i : Nat} {x : Lab} (hx : l[i]? = some x) : ((((l.take i).map fun x => [tD (pieceT x)]) ++ List.replicate (l.length - i) [tD []]).set i [tD (pieceT x)]) = ((l.take (i + 1)).map fun x => [tD (pieceT x)]) ++ List.replicate (l.length - (i + 1)) [tD []] := by
  have hi := (List.getElem?_eq_some_iff.1 hx).1
  rw [rep_get hi, set_mid _ _ _ _ i (by simp; omega), map_take_succ hx]
  simp
set_option maxHeartbeats 4000000 in
theorem text_satS (s : Ser) : Sat Tryd.prog 14 [.d (serD s)] [] (.d (tD (textS s))) [] := by
  obtain ⟨nm, l⟩ := s
  have hl : (l.map labR).length = l.length := List.length_map _
  have r1 := sRight_sat (nm, l)
  unfold textS
  cases hr : rightB (nm, l) with
  | false =>
    rw [hr] at r1
    rw [if_neg (by simp)]
    refine sat_of_vc (T := tiOf Tryd.prog) (E := E0) Tryd.func14 rfl rfl hE0 hm0 rfl ?_
    conv => whnf
    iterate 4
      repeat' (first | exact True.intro | ((first | refine And.intro (fun _ => ?_) tf | refine And.intro ft (fun _ => ?_) | refine And.intro (by kernel_rfl) ?_ | refine And.intro (by decide) ?_ | refine And.intro (fun _ => ?_) (fun h => absurd h (by decide)) | refine And.intro (fun h => absurd h (by decide)) (fun _ => ?_) | refine ⟨_, _, r1.pu rfl rfl, ?_⟩ | fail); conv => whnf) | (refine And.intro (fun _ => ?_) (fun _ => ?_) <;> conv => whnf) | fail)
      all_goals try (refine Or.inl ?_; conv => whnf)
    all_goals try (exfalso; simp only [decide_eq_true_eq, decide_eq_false_iff_not, Bool.not_eq_true', Bool.not_eq_false', Bool.not_eq_true, Bool.not_eq_false, beq_iff_eq, bne_iff_ne, beq_eq_false_iff_ne, bne_eq_false_iff_eq, ne_eq, Decidable.not_not] at *; first | omega | contradiction | (simp_all; done) | (simp_all; omega))
    all_goals refine ⟨[], ?_⟩
    repeat (any_goals (first | exact True.intro | exact rfl | with_reducible_and_instances rfl | exact (by kernel_rfl) | refine And.intro ?_ ?_))
    all_goals conv => whnf
  | true =>
  rw [hr] at r1
  rw [if_pos rfl]
  obtain ⟨q1, q2, q3⟩ := right_out hr
  have q2 : l.length ≤ 8 := q2
  have q4 := nameL_len q1
  by_cases h0 : l = []
  · rw [if_pos h0]
    refine sat_of_vc (T := tiOf Tryd.prog) (E := E0) Tryd.func14 rfl rfl hE0 hm0 rfl ?_
    conv => whnf
    iterate 4
      repeat' (first | exact True.intro | ((first | refine And.intro (fun _ => ?_) tf | refine And.intro ft (fun _ => ?_) | refine And.intro (by kernel_rfl) ?_ | refine And.intro (by decide) ?_ | refine And.intro (fun _ => ?_) (fun h => absurd h (by decide)) | refine And.intro (fun h => absurd h (by decide)) (fun _ => ?_) | refine ⟨_, _, r1.pu rfl rfl, ?_⟩ | fail); conv => whnf) | (refine And.intro (fun _ => ?_) (fun _ => ?_) <;> conv => whnf) | fail)
      all_goals try (refine Or.inl ?_; conv => whnf)
    have e0 : ((((l.map labR).length : Nat) : Int) == 0) = true := by rw [h0]; rfl
    all_goals try exact (bnl e0 ‹_›).elim
    all_goals try (exfalso; simp only [decide_eq_true_eq, decide_eq_false_iff_not, Bool.not_eq_true', Bool.not_eq_false', Bool.not_eq_true, Bool.not_eq_false, beq_iff_eq, bne_iff_ne, beq_eq_false_iff_ne, bne_eq_false_iff_eq, ne_eq, Decidable.not_not] at *; first | omega | contradiction | (simp_all; done) | (simp_all; omega))
    all_goals refine ⟨[], ?_⟩
    repeat (any_goals (first | exact True.intro | exact rfl | with_reducible_and_instances rfl | exact (by kernel_rfl) | refine And.intro ?_ ?_))
    all_goals conv => whnf
  rw [if_neg h0]
  have hpos : 0 < l.length := List.length_pos_iff.2 h0
  have e0 : ((((l.map labR).length : Nat) : Int) == 0) = false := by rw [hl]; rw [beq_eq_false_iff_ne]; omega
  have jl : (Lib.join (l.map pieceT) [44]).length ≤ 1040 := by
    have := bodyT_len q3
    rw [bodyT_join h0, List.length_append] at this
    have : (nm, l).2.length = l.length := rfl
    omega
  have j1 := join_sat (l.map pieceT) [44] (by rw [List.length_map]; omega) (by omega)
  rw [List.map_map] at j1
  rw [bodyT_join h0]
  refine sat_of_vc (T := tiOf Tryd.prog) (E := E0) Tryd.func14 rfl rfl hE0 hm0 rfl ?_
  conv => whnf
  iterate 4
    repeat' (first | exact True.intro | ((first | refine And.intro (fun _ => ?_) tf | refine And.intro ft (fun _ => ?_) | refine And.intro (by kernel_rfl) ?_ | refine And.intro (by decide) ?_ | refine And.intro (fun _ => ?_) (fun h => absurd h (by decide)) | refine And.intro (fun h => absurd h (by decide)) (fun _ => ?_) | refine ⟨_, _, r1.pu rfl rfl, ?_⟩ | refine ⟨_, _, mkT (l.map labR).length (by omega), ?_⟩ | fail); conv => whnf) | (refine And.intro (fun _ => ?_) (fun _ => ?_) <;> conv => whnf) | fail)
    all_goals try (refine Or.inl ?_; conv => whnf)
  all_goals try exact (bnl ‹_› e0).elim
  refine ⟨Nat, fun i => i ≤ l.length, fun i => ([(22, iA i), (21, iA (l.map labR).length), (20, .d (.sl 2 (l.map labR))), (3, .own 1), (1, .ptr 0 0)], [.cells [.d (tD nm), .d (.sl 2 (l.map labR))], .sl 1 (((l.take i).map fun x => [tD (pieceT x)]) ++ List.replicate (l.length - i) [tD []])]), fun i => l.length - i, ⟨0, Nat.zero_le _, ?_⟩, ?_⟩
  · all_goals refine ⟨[], ?_⟩
    repeat (any_goals (first | exact True.intro | exact rfl | with_reducible_and_instances rfl | exact (by kernel_rfl) | refine And.intro ?_ ?_))
    all_goals conv => whnf
    rw [hl]; rfl
  intro i hi
  have hi : i ≤ l.length := hi
  conv => whnf
  by_cases hlt : i < l.length
  · have hx : l[i]? = some l[i] := List.getElem?_eq_getElem hlt
    generalize l[i] = x at hx
    have hgx := map_get (f := labR) hx
    have hlb := labB_len (q3 x (List.mem_of_getElem? hx))
    have d1 : decide ((i : Int) < ((l.map labR).length : Nat)) = true := decide_eq_true (by rw [hl]; omega)
    have hri2 : (((l.take i).map fun x => [tD (pieceT x)]) ++ List.replicate (l.length - i) [tD []])[i]? = some [tD []] := by
      rw [rep_get hlt, List.getElem?_append_right (by simp; omega)]
      simp [Nat.min_eq_left (Nat.le_of_lt hlt)]
    have hri := (List.getElem?_eq_some_iff.1 hri2).1
    iterate 4
      repeat' (first | exact True.intro | ((first | refine ⟨i, _, rfl, hgx, ?_⟩ | refine ⟨i, rfl, hri, ?_⟩ | refine ⟨Nat.le_refl 1, _, _, hri2, rfl, ?_⟩ | refine And.intro (fun _ => ?_) tf | refine And.intro ft (fun _ => ?_) | refine And.intro (by kernel_rfl) ?_ | refine And.intro (by decide) ?_ | refine And.intro (fun _ => ?_) (fun h => absurd h (by decide)) | refine And.intro (fun h => absurd h (by decide)) (fun _ => ?_) | refine ⟨_, _, addL' (by simp; omega), ?_⟩ | fail); conv => whnf) | (refine And.intro (fun _ => ?_) (fun _ => ?_) <;> conv => whnf) | fail)
      all_goals try (refine Or.inl ?_; conv => whnf)
    all_goals try exact (bnl d1 ‹_›).elim
    refine ⟨i + 1, hlt, show l.length - (i + 1) < l.length - i by omega, ?_⟩
    all_goals refine ⟨[], ?_⟩
    repeat (any_goals (first | exact True.intro | exact rfl | with_reducible_and_instances rfl | exact (by kernel_rfl) | refine And.intro ?_ ?_))
    all_goals conv => whnf
    · exact wk1 (by omega)
    · show AObj.sl 1 ((((l.take i).map fun x => [tD (pieceT x)]) ++ List.replicate (l.length - i) [tD []]).set i [tD (pieceT x)]) = _
      rw [rep_set hx]
  · have d1 : decide ((i : Int) < ((l.map labR).length : Nat)) = false := decide_eq_false (by rw [hl]; omega)
    have e : ((l.take i).map fun x => [tD (pieceT x)]) ++ List.replicate (l.length - i) [tD []] = l.map ((fun x => [tD x]) ∘ pieceT) := by
      rw [List.take_of_length_le (by omega), show l.length - i = 0 by omega]; simp
    rw [← e] at j1
    have q4 : nm.length ≤ 64 := q4
    iterate 4
      repeat' (first | exact True.intro | ((first | refine And.intro (fun _ => ?_) tf | refine And.intro ft (fun _ => ?_) | refine And.intro (by kernel_rfl) ?_ | refine And.intro (by decide) ?_ | refine And.intro (fun _ => ?_) (fun h => absurd h (by decide)) | refine And.intro (fun h => absurd h (by decide)) (fun _ => ?_) | refine ⟨_, _, Sat.lend1 (aas := [tD [44]]) j1 rfl rfl, ?_⟩ | refine ⟨_, _, addL' (by simp; omega), ?_⟩ | fail); conv => whnf) | (refine And.intro (fun _ => ?_) (fun _ => ?_) <;> conv => whnf) | fail)
      all_goals try (refine Or.inl ?_; conv => whnf)
    all_goals try exact (bnl ‹_› d1).elim
    all_goals refine ⟨[], ?_⟩
    repeat (any_goals (first | exact True.intro | exact rfl | with_reducible_and_instances rfl | exact (by kernel_rfl) | refine And.intro ?_ ?_))
    all_goals conv => whnf
    show AV.d (tD (nm ++ [123] ++ Lib.join (l.map pieceT) [44] ++ [125])) = AV.d (tD (nm ++ ([123] ++ Lib.join (l.map pieceT) [44]) ++ [125]))
    rw [← List.append_assoc nm]
/-! ### the document's -/
set_option maxHeartbeats 4000000 in
theorem rText_sat (s : Ser) : Sat Tryd.prog 15 [.d (serD s)] [] (.d (tD (textS s))) [] := by
  obtain ⟨nm, l⟩ := s
  have hl : (l.map labR).length = l.length := List.length_map _
  have r1 := rRight_sat (nm, l)
  unfold textS
  cases hr : rightB (nm, l) with
  | false =>
    rw [hr] at r1
    rw [if_neg (by simp)]
    refine sat_of_vc (T := tiOf Tryd.prog) (E := E0) Tryd.func15 rfl rfl hE0 hm0 rfl ?_
    conv => whnf
    iterate 4
      repeat' (first | exact True.intro | ((first | refine And.intro (fun _ => ?_) tf | refine And.intro ft (fun _ => ?_) | refine And.intro (by kernel_rfl) ?_ | refine And.intro (by decide) ?_ | refine And.intro (fun _ => ?_) (fun h => absurd h (by decide)) | refine And.intro (fun h => absurd h (by decide)) (fun _ => ?_) | refine ⟨_, _, r1.pu rfl rfl, ?_⟩ | fail); conv => whnf) | (refine And.intro (fun _ => ?_) (fun _ => ?_) <;> conv => whnf) | fail)
      all_goals try (refine Or.inl ?_; conv => whnf)
    all_goals try (exfalso; simp only [decide_eq_true_eq, decide_eq_false_iff_not, Bool.not_eq_true', Bool.not_eq_false', Bool.not_eq_true, Bool.not_eq_false, beq_iff_eq, bne_iff_ne, beq_eq_false_iff_ne, bne_eq_false_iff_eq, ne_eq, Decidable.not_not] at *; first | omega | contradiction | (simp_all; done) | (simp_all; omega))
    all_goals refine ⟨[], ?_⟩
    repeat (any_goals (first | exact True.intro | exact rfl | with_reducible_and_instances rfl | exact (by kernel_rfl) | refine And.intro ?_ ?_))
    all_goals conv => whnf
  | true =>
  rw [hr] at r1
  rw [if_pos rfl]
  obtain ⟨q1, q2, q3⟩ := right_out hr
  have q2 : l.length ≤ 8 := q2
  have q4 : nm.length ≤ 64 := nameL_len q1
  refine sat_of_vc (T := tiOf Tryd.prog) (E := E0) Tryd.func15 rfl rfl hE0 hm0 rfl ?_
  conv => whnf
  iterate 3
    repeat' (first | exact True.intro | ((first | refine And.intro (fun _ => ?_) tf | refine And.intro ft (fun _ => ?_) | refine And.intro (by kernel_rfl) ?_ | refine And.intro (by decide) ?_ | refine And.intro (fun _ => ?_) (fun h => absurd h (by decide)) | refine And.intro (fun h => absurd h (by decide)) (fun _ => ?_) | refine ⟨_, _, r1.pu rfl rfl, ?_⟩ | fail); conv => whnf) | (refine And.intro (fun _ => ?_) (fun _ => ?_) <;> conv => whnf) | fail)
    all_goals try (refine Or.inl ?_; conv => whnf)
  all_goals try (exfalso; simp only [decide_eq_true_eq, decide_eq_false_iff_not, Bool.not_eq_true', Bool.not_eq_false', Bool.not_eq_true, Bool.not_eq_false, beq_iff_eq, bne_iff_ne, beq_eq_false_iff_ne, bne_eq_false_iff_eq, ne_eq, Decidable.not_not] at *; first | omega | contradiction | (simp_all; done) | (simp_all; omega))
  refine ⟨Nat, fun i => i ≤ l.length, fun i => ([(4, iA i), (3, .d (tD (nm ++ bodyT (l.take i)))), (1, .ptr 0 0)], [.cells [.d (tD nm), .d (.sl 2 (l.map labR))]]), fun i => l.length - i, ⟨0, Nat.zero_le _, ?_⟩, ?_⟩
  · all_goals refine ⟨[], ?_⟩
    repeat (any_goals (first | exact True.intro | exact rfl | with_reducible_and_instances rfl | exact (by kernel_rfl) | refine And.intro ?_ ?_))
    all_goals conv => whnf
    show AV.d (tD nm) = AV.d (tD (nm ++ []))
    rw [List.append_nil]
  intro i hi
  have hi : i ≤ l.length := hi
  have hb := bodyT_len (l := l.take i) fun x hx => q3 x (List.mem_of_mem_take hx)
  rw [List.length_take] at hb
  have hb2 : nm.length + (bodyT (l.take i)).length ≤ 1200 := by omega
  conv => whnf
  by_cases hlt : i < l.length
  · have hx : l[i]? = some l[i] := List.getElem?_eq_getElem hlt
    generalize l[i] = x at hx
    have hgx := map_get (f := labR) hx
    have hlb := labB_len (q3 x (List.mem_of_getElem? hx))
    have d1 : decide ((i : Int) < ((l.map labR).length : Nat)) = true := decide_eq_true (by rw [hl]; omega)
    have nx : bodyT (l.take (i + 1)) = bodyT (l.take i) ++ ((if l.take i = [] then [123] else [44]) ++ pieceT x) := by
      rw [List.take_add_one, hx]; exact bodyT_next _ _
    iterate 5
      repeat' (first | exact True.intro | ((first | refine ⟨i, _, rfl, hgx, ?_⟩ | refine And.intro (fun _ => ?_) tf | refine And.intro ft (fun _ => ?_) | refine And.intro (by kernel_rfl) ?_ | refine And.intro (by decide) ?_ | refine And.intro (fun _ => ?_) (fun h => absurd h (by decide)) | refine And.intro (fun h => absurd h (by decide)) (fun _ => ?_) | refine ⟨_, _, addL' (by simp only [List.length_append, List.length_cons, List.length_nil]; omega), ?_⟩ | fail); conv => whnf) | (refine And.intro (fun _ => ?_) (fun _ => ?_) <;> conv => whnf) | fail)
      all_goals try (refine Or.inl ?_; conv => whnf)
    all_goals try exact (bnl d1 ‹_›).elim
    · have hi0 : i = 0 := by simpa using ‹((i : Int) == 0) = true›
      refine ⟨i + 1, hlt, show l.length - (i + 1) < l.length - i by omega, ?_⟩
      all_goals refine ⟨[], ?_⟩
      repeat (any_goals (first | exact True.intro | exact rfl | with_reducible_and_instances rfl | exact (by kernel_rfl) | refine And.intro ?_ ?_))
      all_goals conv => whnf
      · exact wk1 (by omega)
      · show AV.d (tD (nm ++ bodyT (l.take i) ++ ([123] ++ x.1 ++ [61] ++ x.2))) = AV.d (tD (nm ++ bodyT (l.take (i + 1))))
        rw [nx, if_pos (by rw [hi0]; rfl)]
        unfold pieceT
        simp only [List.append_assoc]
    · have hi0 : i ≠ 0 := by simpa using ‹((i : Int) == 0) = false›
      refine ⟨i + 1, hlt, show l.length - (i + 1) < l.length - i by omega, ?_⟩
      all_goals refine ⟨[], ?_⟩
      repeat (any_goals (first | exact True.intro | exact rfl | with_reducible_and_instances rfl | exact (by kernel_rfl) | refine And.intro ?_ ?_))
      all_goals conv => whnf
      · exact wk1 (by omega)
      · show AV.d (tD (nm ++ bodyT (l.take i) ++ ([44] ++ x.1 ++ [61] ++ x.2))) = AV.d (tD (nm ++ bodyT (l.take (i + 1))))
        rw [nx, if_neg (by intro h; have := congrArg List.length h; rw [List.length_take, List.length_nil] at this; omega)]
        unfold pieceT
        simp only [List.append_assoc]
  · have d1 : decide ((i : Int) < ((l.map labR).length : Nat)) = false := decide_eq_false (by rw [hl]; omega)
    have ti : l.take i = l := List.take_of_length_le (by omega)
    by_cases h0 : l = []
    · rw [if_pos h0]
      have e0 : decide (((l.map labR).length : Int) > 0) = false := by rw [h0]; rfl
      iterate 4
        repeat' (first | exact True.intro | ((first | refine And.intro (fun _ => ?_) tf | refine And.intro ft (fun _ => ?_) | refine And.intro (by kernel_rfl) ?_ | refine And.intro (by decide) ?_ | refine And.intro (fun _ => ?_) (fun h => absurd h (by decide)) | refine And.intro (fun h => absurd h (by decide)) (fun _ => ?_) | refine ⟨_, _, addL' (by simp; omega), ?_⟩ | fail); conv => whnf) | (refine And.intro (fun _ => ?_) (fun _ => ?_) <;> conv => whnf) | fail)
        all_goals try (refine Or.inl ?_; conv => whnf)
      all_goals try exact (bnl ‹_› d1).elim
      all_goals try exact (bnl ‹_› e0).elim
      all_goals refine ⟨[], ?_⟩
      repeat (any_goals (first | exact True.intro | exact rfl | with_reducible_and_instances rfl | exact (by kernel_rfl) | refine And.intro ?_ ?_))
      all_goals conv => whnf
      show AV.d (tD (nm ++ bodyT (l.take i))) = AV.d (tD nm)
      rw [ti, h0]
      show AV.d (tD (nm ++ [])) = _
      rw [List.append_nil]
    · rw [if_neg h0]
      have hpos : 0 < l.length := List.length_pos_iff.2 h0
      have e0 : decide (((l.map labR).length : Int) > 0) = true := decide_eq_true (by rw [hl]; omega)
      iterate 4
        repeat' (first | exact True.intro | ((first | refine And.intro (fun _ => ?_) tf | refine And.intro ft (fun _ => ?_) | refine And.intro (by kernel_rfl) ?_ | refine And.intro (by decide) ?_ | refine And.intro (fun _ => ?_) (fun h => absurd h (by decide)) | refine And.intro (fun h => absurd h (by decide)) (fun _ => ?_) | refine ⟨_, _, addL' (by simp only [List.length_append, List.length_cons, List.length_nil]; omega), ?_⟩ | fail); conv => whnf) | (refine And.intro (fun _ => ?_) (fun _ => ?_) <;> conv => whnf) | fail)
        all_goals try (refine Or.inl ?_; conv => whnf)
      all_goals try exact (bnl ‹_› d1).elim
      all_goals try exact (bnl e0 ‹_›).elim
      all_goals refine ⟨[], ?_⟩
      repeat (any_goals (first | exact True.intro | exact rfl | with_reducible_and_instances rfl | exact (by kernel_rfl) | refine And.intro ?_ ?_))
      all_goals conv => whnf
      show AV.d (tD (nm ++ bodyT (l.take i) ++ [125])) = AV.d (tD (nm ++ bodyT l ++ [125]))
      rw [ti]
end Go.Proofs.YtpnbpcdmiiakcaaDoor
/- Strings and bytes: conversions as operations; wide.Bytes, wide.Back. -/
namespace Go.Proofs.YtpnbpcdmiiakcaaDoor
set_option linter.unusedSimpArgs false
set_option linter.unusedVariables false
open Go.RowKit
set_option maxRecDepth 100000
end Go.Proofs.YtpnbpcdmiiakcaaDoor
