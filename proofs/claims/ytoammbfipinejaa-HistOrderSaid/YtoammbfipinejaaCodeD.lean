/- code.Turn, code.Unturn. -/
import Derived.Test.YtoammbfipinejaaCodeC
namespace Go.Proofs.Ytoammbfipinejaa
open Go.RowKit
set_option linter.unusedVariables false
set_option linter.unusedSimpArgs false

def turnN (v : Int) : Nat := if 0 ≤ v then (2 * v).toNat else (2 * (-(v + 1)) + 1).toNat
def unturnZ (u : Nat) : Int := if u % 2 = 0 then (u : Int) / 2 else -((u : Int) / 2) - 1
theorem xor_full64 (R : Nat) (h : R < 18446744073709551616) : R ^^^ 18446744073709551615 = 18446744073709551615 - R := by
  have h1 : (BitVec.ofNat 64 R ^^^ BitVec.allOnes 64).toNat = (~~~ BitVec.ofNat 64 R).toNat := by rw [BitVec.xor_allOnes]
  rw [BitVec.toNat_xor, BitVec.toNat_not, BitVec.toNat_allOnes, BitVec.toNat_ofNat, Nat.mod_eq_of_lt (by omega)] at h1
  simpa using h1
theorem spell_turn (v : Int) (h1 : -9223372036854775808 ≤ v) (h2 : v ≤ 9223372036854775807) :
    bits BinOp.xor IntKind.u64 (IntKind.u64.wrap (IntKind.u64.wrap v * 2)) (IntKind.u64.wrap (v / 9223372036854775808)) = ((turnN v : Nat) : Int) := by
  simp only [u64_wrap]
  by_cases h : 0 ≤ v
  · have e1 : v % 18446744073709551616 * 2 % 18446744073709551616 = (((2 * v).toNat : Nat) : Int) := by omega
    have e2 : v / 9223372036854775808 % 18446744073709551616 = ((0 : Nat) : Int) := by omega
    rw [e1, e2, u64_xor_nat _ _ (by omega) (by omega), Nat.xor_zero, turnN, if_pos h]
  · have e1 : v % 18446744073709551616 * 2 % 18446744073709551616 = (((18446744073709551616 + 2 * v).toNat : Nat) : Int) := by omega
    have e2 : v / 9223372036854775808 % 18446744073709551616 = ((18446744073709551615 : Nat) : Int) := by omega
    rw [e1, e2, u64_xor_nat _ _ (by omega) (by omega), xor_full64 _ (by omega), turnN, if_neg h]
    omega
theorem spell_unturn (u : Nat) (h : u < 18446744073709551616) :
    bits BinOp.xor IntKind.i64 ((u : Int) / 2) (wrap64 (-wrap64 (bits BinOp.and IntKind.u64 (u : Int) 1))) = unturnZ u := by
  have e1 : bits BinOp.and IntKind.u64 (u : Int) 1 = ((u % 2 : Nat) : Int) := by
    have := u64_and_nat u 1 h (by omega)
    rw [Nat.and_one_is_mod] at this
    exact this
  rw [e1]
  have e3 : (u : Int) / 2 = ((u / 2 : Nat) : Int) := by omega
  rcases Nat.mod_two_eq_zero_or_one u with h0 | h0
  · rw [h0]
    have e2 : wrap64 (-wrap64 ((0 : Nat) : Int)) = 0 := by rw [IntWalk.wrap64_in ((0 : Nat) : Int) (by constructor <;> omega), IntWalk.wrap64_in _ (by constructor <;> omega)]; rfl
    rw [e2, unturnZ, if_pos h0]
    show IntKind.i64.wrap ((BitVec.ofInt 64 ((u : Int) / 2) ^^^ BitVec.ofInt 64 0).toNat : Int) = _
    rw [show BitVec.ofInt 64 0 = 0#64 from rfl, BitVec.xor_zero, e3, BitVec.ofInt_natCast, BitVec.toNat_ofNat, IntKind.wrap_i64]
    omega
  · rw [h0]
    have e2 : wrap64 (-wrap64 ((1 : Nat) : Int)) = -1 := by rw [IntWalk.wrap64_in ((1 : Nat) : Int) (by constructor <;> omega), IntWalk.wrap64_in _ (by constructor <;> omega)]; rfl
    rw [e2, unturnZ, if_neg (by omega)]
    show IntKind.i64.wrap ((BitVec.ofInt 64 ((u : Int) / 2) ^^^ BitVec.ofInt 64 (-1)).toNat : Int) = _
    rw [show BitVec.ofInt 64 (-1) = BitVec.allOnes 64 from by decide, BitVec.xor_allOnes, e3, BitVec.ofInt_natCast, BitVec.toNat_not, BitVec.toNat_ofNat, IntKind.wrap_i64]
    omega
theorem turnN_lt (v : Int) (h1 : -9223372036854775808 ≤ v) (h2 : v ≤ 9223372036854775807) : turnN v < 18446744073709551616 := by
  unfold turnN; split <;> omega
theorem unturn_turn (v : Int) : unturnZ (turnN v) = v := by
  unfold unturnZ turnN
  split <;> split <;> omega
theorem turn_unturn (u : Nat) : turnN (unturnZ u) = u := by
  unfold unturnZ turnN
  split <;> split <;> omega
theorem unturnZ_bounds (u : Nat) (h : u < 18446744073709551616) : -9223372036854775808 ≤ unturnZ u ∧ unturnZ u ≤ 9223372036854775807 := by
  unfold unturnZ; split <;> omega
set_option maxRecDepth 100000 in
theorem turn_any (v : Int) (w : World) (h1 : -9223372036854775808 ≤ v) (h2 : v ≤ 9223372036854775807) :
    Calls Try.prog 23 #[.int .i64 v] w fun e w' => e = .returned (.int .u64 (turnN v)) ∧ w = w' := by
  go_enter Try.func23, Try.ntmps23
  go_wp2
  go_ret
  exact ⟨ret_int (spell_turn v h1 h2), rfl⟩
set_option maxRecDepth 100000 in
theorem unturn_any (u : Nat) (w : World) (h : u < 18446744073709551616) :
    Calls Try.prog 21 #[.int .u64 u] w fun e w' => e = .returned (.int .i64 (unturnZ u)) ∧ w = w' := by
  go_enter Try.func21, Try.ntmps21
  go_wp2
  go_ret
  exact ⟨ret_int (spell_unturn u h), rfl⟩

/-! ### Int, Count, Left, Err, End -/
theorem uV_lt (l : List UInt8) (e : Nat) : uV l e < 18446744073709551616 := by
  have hb := dec_bounds l 0 0 (dec l).1 (dec l).2.1 (dec l).2.2 (by omega) (by simp) rfl
  unfold uV; split <;> omega
theorem int_any (g e : Nat) (l : List UInt8) (w : World) (h : Rdr w g l e) :
    Calls Try.prog 65 #[.pointer (some ⟨g, 0, none⟩)] w fun x w' => x = .returned (.int .i64 (unturnZ (uV l e))) ∧ Rdr w' g (tkL l e (dec l).2.1 (dec l).2.2) (tkE e (dec l).2.2) ∧ w.grownBy w' (some g) := by
  have hlt := hide (uV_lt l e)
  have HU := hide (uint_any g e l w h)
  clear h
  generalize uV l e = V at *
  go_enter Try.func65, Try.ntmps65
  go_wp2_with (first | (go_at_call 35; refine HU.out.mono ?_; rintro e w1 ⟨rfl, hr1, hg1⟩) | (go_at_call 21; refine (unturn_any V _ hlt.out).mono ?_; rintro e w' ⟨rfl, rfl⟩))
  go_ret
  exact ⟨rfl, hr1, hg1⟩
def cV (l : List UInt8) (e : Nat) (most : Int) : Nat := if e = 0 ∧ (cnt l most).2.2 = 0 then (cnt l most).1 else 0
theorem countM_any (g e : Nat) (l : List UInt8) (most : Int) (w : World) (h : Rdr w g l e) (hm : most ≤ 9223372036854775807) :
    Calls Try.prog 68 #[.pointer (some ⟨g, 0, none⟩), .int .i64 most] w fun x w' => x = .returned (.int .i64 (cV l e most)) ∧ Rdr w' g (tkL l e (cnt l most).2.1 (cnt l most).2.2) (tkE e (cnt l most).2.2) ∧ w.grownBy w' (some g) := by
  have h0 := h
  obtain ⟨A, n, c, hk, hr, h1, h2, h3⟩ := h
  have c0 := hk.cell 0
  simp only [List.getElem?_toArray, List.getElem?_cons_zero, List.getElem?_cons_succ] at c0
  have hb := cnt_bounds l most
  have HT := hide (take_any g (cnt l most).2.1 e (cnt l most).2.2 l w h0 (fun _ _ => by omega))
  have HF := hide (count_any A n c l most w (hr.more (Nat.le_of_lt hk.lt)) h3 hm)
  have HV := hide (show cV l e most = if e = 0 ∧ (cnt l most).2.2 = 0 then (cnt l most).1 else 0 from rfl)
  clear hb hk hr h0 hm
  generalize cV l e most = V at HV
  generalize cnt l most = d at *
  obtain ⟨u, s, er⟩ := d
  simp only at HT HF HV ⊢
  generalize hq : decide (e = 0 ∧ er = 0) = q at HT
  have HQ := hide hq
  clear hq
  cases q with
  | true =>
    have hv := HV.out
    rw [if_pos (of_decide_eq_true HQ.out)] at hv
    rw [hv]
    clear hv
    go_enter Try.func68, Try.ntmps68
    go_wp2_with (first | (go_at_call 92; refine HF.out.mono ?_; rintro e w' ⟨rfl, rfl⟩) | (go_at_call 72; refine HT.out.mono ?_; rintro e w1 ⟨rfl, hr1, hg1⟩))
    go_ret
    exact ⟨rfl, hr1, hg1⟩
  | false =>
    have hv := HV.out
    rw [if_neg (of_decide_eq_false HQ.out)] at hv
    rw [hv]
    clear hv
    go_enter Try.func68, Try.ntmps68
    go_wp2_with (first | (go_at_call 92; refine HF.out.mono ?_; rintro e w' ⟨rfl, rfl⟩) | (go_at_call 72; refine HT.out.mono ?_; rintro e w1 ⟨rfl, hr1, hg1⟩))
    go_ret
    exact ⟨rfl, hr1, hg1⟩
theorem left_any (g e : Nat) (l : List UInt8) (w : World) (h : Rdr w g l e) :
    Calls Try.prog 67 #[.pointer (some ⟨g, 0, none⟩)] w fun x w' => x = .returned (.int .i64 l.length) ∧ w = w' := by
  obtain ⟨A, n, c, hk, hr, h1, h2, h3⟩ := h
  have c0 := hk.cell 0
  simp only [List.getElem?_toArray, List.getElem?_cons_zero, List.getElem?_cons_succ] at c0
  rw [RdB.len hr]
  clear hk hr
  go_enter Try.func67, Try.ntmps67
  go_wp2
  go_ret
  exact ⟨rfl, rfl⟩
theorem err_any (g e : Nat) (l : List UInt8) (w : World) (h : Rdr w g l e) :
    Calls Try.prog 34 #[.pointer (some ⟨g, 0, none⟩)] w fun x w' => x = .returned (.int .i64 e) ∧ w = w' := by
  obtain ⟨A, n, c, hk, hr, h1, h2, h3⟩ := h
  have c1 := hk.cell 1
  simp only [List.getElem?_toArray, List.getElem?_cons_zero, List.getElem?_cons_succ] at c1
  clear hk hr
  go_enter Try.func34, Try.ntmps34
  go_wp2
  go_ret
  exact ⟨rfl, rfl⟩
def endE (l : List UInt8) (e : Nat) : Nat := if l = [] then e else tkE e 10
theorem end_any (g e : Nat) (l : List UInt8) (w : World) (h : Rdr w g l e) :
    Calls Try.prog 36 #[.pointer (some ⟨g, 0, none⟩)] w fun x w' => x = .returned (.int .i64 (endE l e)) ∧ Rdr w' g l (endE l e) ∧ w.grownBy w' (some g) := by
  have h0 := h
  obtain ⟨A, n, c, hk, hr, h1, h2, h3⟩ := h
  have c0 := hk.cell 0
  have c1 := hk.cell 1
  simp only [List.getElem?_toArray, List.getElem?_cons_zero, List.getElem?_cons_succ] at c0 c1
  have hlen := RdB.len hr
  by_cases hn : 0 < n
  · have he : endE l e = tkE e 10 := by unfold endE; rw [if_neg]; intro hh; subst hh; simp at hlen; omega
    rw [he]
    have HT := hide (take_any g 0 e 10 l w h0 (fun _ _ => by omega))
    have hL : tkL l e 0 10 = l := by unfold tkL; split <;> simp
    rw [hL] at HT
    clear hlen hk hr h0 he hL
    go_enter Try.func36, Try.ntmps36
    go_wp2_with (go_at_call 72; refine HT.out.mono ?_; rintro e w1 ⟨rfl, hr1, hg1⟩; obtain ⟨A1, n1, cc, hk1, hr2, _⟩ := id hr1; have d1 := hk1.cell 1; simp only [List.getElem?_toArray, List.getElem?_cons_zero, List.getElem?_cons_succ] at d1; clear hk1 hr2)
    go_ret
    exact ⟨rfl, hr1, hg1⟩
  · have he : endE l e = e := by unfold endE; rw [if_pos (List.eq_nil_of_length_eq_zero (by omega))]
    rw [he]
    clear hlen hk hr he
    go_enter Try.func36, Try.ntmps36
    go_wp2
    go_ret
    exact ⟨rfl, h0, World.grownBy.refl _ _⟩
end Go.Proofs.Ytoammbfipinejaa
