/- code.Uints, code.Ints, code.Texts, code.New, (*Reader).Text. -/
import Derived.Test.YtoammbfipinejaaCodeD
import Derived.Test.YtoammbfipinejaaStr
namespace Go.Proofs.Ytoammbfipinejaa
open Go.RowKit
set_option linter.unusedVariables false
set_option linter.unusedSimpArgs false

def u64v (x : Nat) : Value := .int .u64 (x : Int)
def i64v (x : Int) : Value := .int .i64 x
def strv (s : ByteArray) : Value := .string s
theorem Rd.get {w : World} {B n : Nat} {A : Option Addr} {α : Type} {f : α → Value} {l : List α} (h : Rd w B 1 A n (l.map f)) {k : Nat} (hk : k < n) :
    ∃ b off, A = some ⟨b, off, none⟩ ∧ b < B ∧ ∃ x, l[k]? = some x ∧ w.cell? ⟨b, off + k, none⟩ = some (f x) := by
  obtain ⟨b, off, e, hb, hc⟩ := h.at_ hk
  have hl := h.1
  simp only [List.length_map, Nat.mul_one] at hl
  refine ⟨b, off, e, hb, l[k], List.getElem?_eq_getElem (by omega), ?_⟩
  rw [hc k (by simp; omega)]
  simp
theorem Rd.len {w : World} {B n : Nat} {A : Option Addr} {α : Type} {f : α → Value} {l : List α} (h : Rd w B 1 A n (l.map f)) : l.length = n := by
  have := h.1; simpa using this
def encs (l : List Nat) : List UInt8 := (l.map enc).flatten
theorem encs_snoc (l : List Nat) (k : Nat) (x : Nat) (h : l[k]? = some x) : encs (l.take (k + 1)) = encs (l.take k) ++ enc x := by
  unfold encs
  rw [List.take_add_one, h]; simp
theorem encs_len (l : List Nat) : (encs l).length ≤ 10 * l.length := by
  unfold encs
  induction l with
  | nil => simp
  | cons x l ih =>
    simp only [List.map_cons, List.flatten_cons, List.length_append, List.length_cons]
    have h : (enc x).length ≤ 10 := (encF_len 9 x).2
    omega
set_option maxRecDepth 100000 in
theorem uints_any (A : Option Addr) (n c : Nat) (l : List Nat) (w : World) (hr : Rd w w.heap.size 1 A n (l.map u64v)) (hn : n ≤ 65536) (hl : ∀ x ∈ l, x < 18446744073709551616) :
    Calls Try.prog 28 #[.slice A n c] w fun e w' => ∃ v, e = .returned v ∧ Ow w' w.heap.size 5 1 v (encs l).length ((encs l).map bv) ∧ Below w.heap.size w w' := by
  have hlen := hr.len
  have HL := hide hl
  have HLEN := hide hlen
  clear hl hlen
  go_enter Try.func28, Try.ntmps28
  go_wp2
  go_loopw [3, 5, 8] (fun v _ i wr => ∃ k m : Nat, k ≤ n ∧ i = .int .i64 k ∧ m ≤ 10 * k ∧ Ow wr w.heap.size 5 1 v m ((encs (l.take k)).map bv) ∧ Below w.heap.size w wr) (fun _ _ i _ => n - (intOf i).toNat)
  case atStart => exact ⟨0, 0, Nat.zero_le _, rfl, by omega, Ow.nil _ _ _ _, Below.refl _ _⟩
  case round =>
    obtain ⟨k, m, hk, rfl, hm, own, hb⟩ := hrel
    by_cases hk1 : k < n
    · obtain ⟨b, off, rfl, hbb, x, hx, hc⟩ := hr.get hk1
      have hc' := (hb.cell (p := ⟨b, off + k, none⟩) hbb).trans hc
      unfold u64v at hc'
      have HX := hide hx
      have HXL := hide (HL.out x (List.mem_of_getElem? hx))
      have hel := (encF_len 9 x).2
      clear hx hc
      go_wp2_with (go_at_call 69; refine (put_any _ m _ x w.heap.size _ own hb.size HXL.out (by omega)).mono ?_; rintro e w1 ⟨v1, rfl, own1, hb1⟩)
      go_roundw
      case rel => exact ⟨k + 1, m + (enc x).length, by omega, by go_num, by unfold enc; omega, by rw [encs_snoc l k x HX.out]; exact own1, hb.trans hb1⟩
      case measure => simp [intOf]; omega
    · go_wp2
      go_ret
      have ht : l.take k = l := List.take_of_length_le (by have := HLEN.out; omega)
      rw [ht] at own
      have hm : m = (encs l).length := by have := own.1; simpa using this.symm
      rw [hm] at own
      exact ⟨_, rfl, own, hb⟩
set_option maxRecDepth 100000 in
theorem ints_any (A : Option Addr) (n c : Nat) (l : List Int) (w : World) (hr : Rd w w.heap.size 1 A n (l.map i64v)) (hn : n ≤ 65536) (hl : ∀ x ∈ l, -9223372036854775808 ≤ x ∧ x ≤ 9223372036854775807) :
    Calls Try.prog 29 #[.slice A n c] w fun e w' => ∃ v, e = .returned v ∧ Ow w' w.heap.size 5 1 v (encs (l.map turnN)).length ((encs (l.map turnN)).map bv) ∧ Below w.heap.size w w' := by
  have hlen := hr.len
  have HL := hide hl
  have HLEN := hide hlen
  clear hl hlen
  go_enter Try.func29, Try.ntmps29
  go_wp2
  go_loopw [3, 5, 8] (fun v _ i wr => ∃ k m : Nat, k ≤ n ∧ i = .int .i64 k ∧ m ≤ 10 * k ∧ Ow wr w.heap.size 5 1 v m ((encs ((l.map turnN).take k)).map bv) ∧ Below w.heap.size w wr) (fun _ _ i _ => n - (intOf i).toNat)
  case atStart => exact ⟨0, 0, Nat.zero_le _, rfl, by omega, Ow.nil _ _ _ _, Below.refl _ _⟩
  case round =>
    obtain ⟨k, m, hk, rfl, hm, own, hb⟩ := hrel
    by_cases hk1 : k < n
    · obtain ⟨b, off, rfl, hbb, x, hx, hc⟩ := hr.get hk1
      have hc' := (hb.cell (p := ⟨b, off + k, none⟩) hbb).trans hc
      unfold i64v at hc'
      have HX := hide hx
      have HXL := hide (HL.out x (List.mem_of_getElem? hx))
      have HTL := hide (turnN_lt x HXL.out.1 HXL.out.2)
      have hel := (encF_len 9 (turnN x)).2
      clear hx hc
      go_wp2_with (first | (go_at_call 23; refine (turn_any x _ HXL.out.1 HXL.out.2).mono ?_; rintro e w' ⟨rfl, rfl⟩) | (go_at_call 69; refine (put_any _ m _ (turnN x) w.heap.size _ own hb.size HTL.out (by omega)).mono ?_; rintro e w1 ⟨v1, rfl, own1, hb1⟩))
      go_roundw
      case rel => exact ⟨k + 1, m + (enc (turnN x)).length, by omega, by go_num, by unfold enc; omega, by rw [encs_snoc (l.map turnN) k (turnN x) (by rw [List.getElem?_map, HX.out]; rfl)]; exact own1, hb.trans hb1⟩
      case measure => simp [intOf]; omega
    · go_wp2
      go_ret
      have ht : (l.map turnN).take k = l.map turnN := List.take_of_length_le (by have := HLEN.out; simp; omega)
      rw [ht] at own
      have hm : m = (encs (l.map turnN)).length := by have := own.1; simpa using this.symm
      rw [hm] at own
      exact ⟨_, rfl, own, hb⟩

/-- The bytes of a text. -/
def encT (s : ByteArray) : List UInt8 := enc s.size ++ s.data.toList
def encTs (l : List ByteArray) : List UInt8 := (l.map encT).flatten
theorem encTs_snoc (l : List ByteArray) (k : Nat) (x : ByteArray) (h : l[k]? = some x) : encTs (l.take (k + 1)) = encTs (l.take k) ++ encT x := by
  unfold encTs
  rw [List.take_add_one, h]; simp
theorem encT_len (s : ByteArray) : (encT s).length ≤ 10 + s.size := by
  unfold encT enc
  have := (encF_len 9 s.size).2
  rw [List.length_append, size_toList]
  omega
set_option maxRecDepth 100000 in
theorem texts_any (A : Option Addr) (n c q : Nat) (l : List ByteArray) (w : World) (hr : Rd w w.heap.size 1 A n (l.map strv)) (hn : n ≤ 65536) (hl : ∀ x ∈ l, x.size ≤ 65536) :
    Calls Try.prog 30 #[.slice A n c] w fun e w' => ∃ v, e = .returned v ∧ Ow w' w.heap.size 5 1 v (encTs l).length ((encTs l).map bv) ∧ Below w.heap.size w w' := by
  obtain ⟨i0, hi0, hz0, hz1, hz2⟩ := info_parts Try.info8
  have hlen := hr.len
  have HL := hide hl
  have HLEN := hide hlen
  clear hl hlen
  go_enter Try.func30, Try.ntmps30
  go_wp2
  go_loopw [3, 5, 8] (fun v _ i wr => ∃ k m : Nat, k ≤ n ∧ i = .int .i64 k ∧ m ≤ 65546 * k ∧ Ow wr w.heap.size 5 1 v m ((encTs (l.take k)).map bv) ∧ Below w.heap.size w wr) (fun _ _ i _ => n - (intOf i).toNat)
  case atStart => exact ⟨0, 0, Nat.zero_le _, rfl, by omega, Ow.nil _ _ _ _, Below.refl _ _⟩
  case round =>
    obtain ⟨k, m, hk, rfl, hm, own, hb⟩ := hrel
    by_cases hk1 : k < n
    · obtain ⟨b, off, rfl, hbb, x, hx, hc⟩ := hr.get hk1
      have hc' := (hb.cell (p := ⟨b, off + k, none⟩) hbb).trans hc
      unfold strv at hc'
      have HX := hide hx
      have hxl := HL.out x (List.mem_of_getElem? hx)
      have hel := (encF_len 9 x.size).2
      have HEL := hide (show (enc x.size).length ≤ 10 from hel)
      have hw : IntKind.u64.wrap (x.size : Int) = x.size := by rw [u64_wrap]; omega
      clear hx hc hel
      go_wp2_with (first
        | (go_at_call 69; refine (put_any _ m _ x.size w.heap.size _ own hb.size (by omega) (by omega)).mono ?_; rintro e w1 ⟨v1, rfl, own1, hb1⟩)
        | (at_builtin; refine wpList_append_ow_str _ rfl (.tmp 16) (.tmp 17) _ _ rfl w.heap.size 5 i0 Try.underlying46 Try.underlying9 hi0 hz0 hz1 hz2 v1 _ _ rfl own1 x rfl (by have := HEL.out; simp only [maxLen]; omega) (by have := HEL.out; omega) (by have := hb1.size; have := hb.size; omega) ?_; intro v2 w2 own2 hg2))
      go_roundw
      case rel =>
        refine ⟨k + 1, m + (enc x.size).length + x.size, by omega, by go_num, by have := HEL.out; omega, ?_, (hb.trans hb1).grown hg2 (by have := hb1.size; have := hb.size; omega) (fun q hq => own1.lt q hq)⟩
        rw [encTs_snoc l k x HX.out, encT, ← List.append_assoc, List.map_append]
        exact own2
      case measure => simp [intOf]; omega
    · go_wp2
      go_ret
      have ht : l.take k = l := List.take_of_length_le (by have := HLEN.out; omega)
      rw [ht] at own
      have hm : m = (encTs l).length := by have := own.1; simpa using this.symm
      rw [hm] at own
      exact ⟨_, rfl, own, hb⟩
/-! ### New, Text -/
theorem newR_any (A : Option Addr) (n c : Nat) (l : List UInt8) (w : World) (hr : RdB w w.heap.size A n l) (hn : n ≤ 140737488351232) :
    Calls Try.prog 32 #[.slice A n c] w fun e w' => ∃ g, e = .returned (.pointer (some ⟨g, 0, none⟩)) ∧ w.heap.size ≤ g ∧ Rdr w' g l 0 ∧ Below w.heap.size w w' := by
  go_enter Try.func32, Try.ntmps32
  go_wp2_with (go_at_call 70; refine (clone_any A n c l _ hr hn).mono ?_; rintro e w1 ⟨v1, rfl, own1, hb1⟩; obtain ⟨A1, c1, rfl, hc1, hm1, r1⟩ := own1.form; clear own1)
  go_ret
  have hsz := hb1.size
  refine ⟨w1.heap.size, rfl, hsz, ⟨A1, n, c1, Blk.new _ _ _, r1.alloc (Nat.le_refl _) _, hc1, hm1, hn⟩, hb1.alloc hsz _⟩
def tE (l : List UInt8) (most : Int) : Nat := if (cnt l most).2.2 = 0 ∧ l.length - (cnt l most).2.1 < (cnt l most).1 then 15 else (cnt l most).2.2
def tV (l : List UInt8) (e : Nat) (most : Int) : List UInt8 := if e = 0 ∧ tE l most = 0 then (l.drop (cnt l most).2.1).take (cnt l most).1 else []
theorem string_any (w : World) (A : Option Addr) (n c : Nat) (l : List UInt8) {B : Nat} (h : RdB w B A n l) : (convert 46 9 (.slice A n c)).run Try.prog w = .ok (.string ⟨l.toArray⟩) w := by
  have hl := RdB.len h
  subst hl
  cases A with
  | none =>
    have h0 : l = [] := by
      rcases Nat.eq_zero_or_pos l.length with h1 | h1
      · exact List.eq_nil_of_length_eq_zero h1
      · obtain ⟨_, _, h2, _⟩ := h.at_ h1
        cases h2
    subst h0
    exact Lib.run_convert_nil_bytes w _ _ _ c Try.underlying46 Try.underlying5 Try.underlying9
  | some a =>
    refine run_convert_bytes_back w _ _ _ a c l Try.underlying46 Try.underlying5 Try.underlying9 (fun j hj => ?_)
    obtain ⟨b, off, e, _, hc⟩ := RdB.cell h hj
    injection e with e
    subst e
    rw [Addr.add_lit, hc]
set_option maxHeartbeats 1000000 in
set_option maxRecDepth 100000 in
theorem text_any (g e : Nat) (l : List UInt8) (most : Int) (w : World) (h : Rdr w g l e) (hm : most ≤ 9223372036854775807) :
    Calls Try.prog 66 #[.pointer (some ⟨g, 0, none⟩), .int .i64 most] w fun x w' => x = .returned (.string ⟨(tV l e most).toArray⟩) ∧ Rdr w' g (tkL l e ((cnt l most).2.1 + (cnt l most).1) (tE l most)) (tkE e (tE l most)) ∧ w.grownBy w' (some g) := by
  have h0 := h
  obtain ⟨A, n, c, hk, hr, h1, h2, h3⟩ := h
  have c0 := hk.cell 0
  simp only [List.getElem?_toArray, List.getElem?_cons_zero, List.getElem?_cons_succ] at c0
  have hlen := RdB.len hr
  have hb := cnt_bounds l most
  have hsz : e = 0 → tE l most = 0 → (cnt l most).2.1 + (cnt l most).1 ≤ l.length := by
    intro _ hte
    unfold tE at hte
    split at hte
    · omega
    · omega
  have HT := hide (fun h1 h2 => take_any g ((cnt l most).2.1 + (cnt l most).1) e (tE l most) l w h0 (fun _ _ => hsz h1 h2))
  have HB := hide (fun (z : Int) (hne : ¬ (e = 0 ∧ tE l most = 0)) => take_bad g e (tE l most) z l w h0 hne)
  have HF := hide (count_any A n c l most w (hr.more (Nat.le_of_lt hk.lt)) h3 hm)
  have HV := hide (show tV l e most = if e = 0 ∧ tE l most = 0 then (l.drop (cnt l most).2.1).take (cnt l most).1 else [] from rfl)
  have HTE := hide (show tE l most = if (cnt l most).2.2 = 0 ∧ l.length - (cnt l most).2.1 < (cnt l most).1 then 15 else (cnt l most).2.2 from rfl)
  have HR := hide hr
  have HSZ := hide hsz
  have HLEN := hide hlen
  have hglt := hk.lt
  clear hk h0 hm hr hsz hlen
  generalize tV l e most = V at HV ⊢
  generalize tE l most = te at *
  generalize cnt l most = d at *
  obtain ⟨u, s, er⟩ := d
  simp only at HT HF HV HTE HSZ hb ⊢
  obtain ⟨_, hs0, hs1, her⟩ := hb
  have hsn : s ≤ n := by have := HLEN.out; omega
  clear hs0
  have hm2 := h2
  unfold maxLen at h2
  by_cases h0 : er = 0
  · have b0 : ((er : Int) == 0) = true := by rw [h0]; rfl
    have H0 := hide h0
    clear h0 her
    by_cases hu : n - s < u
    · have hte : te = 15 := by rw [HTE.out, if_pos ⟨H0.out, by rw [HLEN.out]; exact hu⟩]
      subst hte
      have hv : V = [] := by rw [HV.out, if_neg (by omega)]
      subst hv
      have hu2 : (n : Int) - (s : Int) < (u : Int) := by omega
      have HL : ∀ z : Nat, tkL l e z 15 = l := fun z => if_neg (by omega)
      rw [HL]
      have HLL := hide HL
      clear HL hu
      go_enter Try.func66, Try.ntmps66
      go_wp2_with fail
      refine HF.out.mono ?_
      rintro e1 w' ⟨rfl, rfl⟩
      go_wp2_with fail
      refine (HB.out _ (by omega)).mono ?_
      rintro e1 w1 ⟨rfl, hr1, hg1⟩
      rw [HLL.out] at hr1
      rw [decide_eq_false (by omega)]
      go_wp2_with fail
      go_ret
      exact ⟨rfl, hr1, hg1⟩
    · have hte : te = er := by rw [HTE.out, if_neg (by rw [HLEN.out]; intro h; exact hu h.2)]
      subst hte
      have hu2 : (u : Int) ≤ (n : Int) - (s : Int) := by omega
      have hsu : s + u ≤ n := by omega
      clear hu
      by_cases he : e = 0
      · have hv : V = (l.drop s).take u := by rw [HV.out, if_pos ⟨he, H0.out⟩]
        subst hv
        have ht2 := HT.out he H0.out
        rw [show ((s + u : Nat) : Int) = (s : Int) + (u : Int) from by omega] at ht2
        have HT2 := hide ht2
        clear ht2
        have HE := hide he
        have hstr : ∀ w1 : World, w.grownBy w1 (some g) → (convert 46 9 (.slice (if c = s then A else A.map (·.add (s * 1))) u (c - s))).run Try.prog w1 = .ok (.string ⟨((l.drop s).take u).toArray⟩) w1 := by
          intro w1 hg
          have hc1 := HR.out.cut (k := s) (cap := c) hsn h1
          have hc2 := hc1.take (k := u) (by omega)
          rw [Nat.mul_one, Nat.mul_one, ← List.map_drop, ← List.map_take] at hc2
          rw [Nat.mul_one]
          exact string_any w1 _ u (c - s) _ (hc2.grown hg (Nat.le_of_lt hglt) (fun q hq => by cases hq; exact Nat.le_refl _))
        clear he HV HTE HB
        have hneg : ¬ (s + u : Int) < 0 := by omega
        by_cases hcs : c = s
        · have HCS := hide hcs
          have hcd : (c = s) = True := by simp [HCS.out]
          simp only [if_pos hcs] at hstr
          have HSTR := hide hstr
          clear hcs hstr
          go_enter Try.func66, Try.ntmps66
          go_wp2_with fail
          refine HF.out.mono ?_
          rintro e1 w' ⟨rfl, rfl⟩
          go_wp2_with fail
          refine HT2.out.mono ?_
          rintro e1 w1 ⟨rfl, hr1, hg1⟩
          rw [decide_eq_true ⟨HE.out, H0.out⟩]
          have hs1 := HSTR.out w1 hg1
          go_wp2_with fail
          go_ret
          exact ⟨rfl, hr1, hg1⟩
        · simp only [if_neg hcs, Nat.mul_one] at hstr
          have HSTR := hide hstr
          clear hstr
          go_enter Try.func66, Try.ntmps66
          go_wp2_with fail
          refine HF.out.mono ?_
          rintro e1 w' ⟨rfl, rfl⟩
          go_wp2_with fail
          refine HT2.out.mono ?_
          rintro e1 w1 ⟨rfl, hr1, hg1⟩
          rw [decide_eq_true ⟨HE.out, H0.out⟩]
          have hs1 := HSTR.out w1 hg1
          go_wp2_with fail
          go_ret
          exact ⟨rfl, hr1, hg1⟩
      · have hv : V = [] := by rw [HV.out, if_neg (fun h => he h.1)]
        subst hv
        have HL : tkL l e (s + u) te = l := if_neg (fun h => he h.1)
        have HB2 := hide (HB.out ((s : Int) + u) (fun h => he h.1))
        have hde : decide (e = 0 ∧ te = 0) = false := decide_eq_false (fun h => he h.1)
        have HDE := hide hde
        have hz : ((s : Int) + u).toNat = s + u := by omega
        have HZ := hide hz
        clear hde hz he
        rw [HL]
        have HLL := hide HL
        clear HL
        go_enter Try.func66, Try.ntmps66
        go_wp2_with fail
        refine HF.out.mono ?_
        rintro e1 w' ⟨rfl, rfl⟩
        go_wp2_with fail
        refine HB2.out.mono ?_
        rintro e1 w1 ⟨rfl, hr1, hg1⟩
        rw [HZ.out, HLL.out] at hr1
        rw [HDE.out]
        go_wp2_with fail
        go_ret
        exact ⟨rfl, hr1, hg1⟩
  · have b0 : ((er : Int) == 0) = false := by simp; omega
    have hte : te = er := by rw [HTE.out, if_neg (fun h => h0 h.1)]
    subst hte
    have hv : V = [] := by rw [HV.out, if_neg (fun h => h0 h.2)]
    subst hv
    have HL : ∀ z : Nat, tkL l e z te = l := fun z => if_neg (fun h => h0 h.2)
    rw [HL]
    have HLL := hide HL
    have hde : decide (e = 0 ∧ te = 0) = false := decide_eq_false (fun h => h0 h.2)
    have HDE := hide hde
    have HB2 := hide (fun z => HB.out z (fun h => h0 h.2))
    clear HL hde h0
    go_enter Try.func66, Try.ntmps66
    go_wp2_with fail
    refine HF.out.mono ?_
    rintro e1 w' ⟨rfl, rfl⟩
    go_wp2_with fail
    refine (HB2.out _).mono ?_
    rintro e1 w1 ⟨rfl, hr1, hg1⟩
    rw [HLL.out] at hr1
    rw [HDE.out]
    go_wp2_with fail
    go_ret
    exact ⟨rfl, hr1, hg1⟩
end Go.Proofs.Ytoammbfipinejaa
