/- HistBuckets. -/
import Derived.Test.YtoammbfipinejaaHistH
import Derived.Test.YtoammbfipinejaaHistI
import Derived.Test.YtoammbfipinejaaOpen
import Derived.Lib.ItoaNum
import Derived.Test.YtoammbfipinejaaLaid
namespace Go.Proofs.Ytoammbfipinejaa
open Go.ChangeShapes Go.WideShapes Go.ChangeAt Go.RowKit
set_option linter.unusedVariables false
set_option linter.unusedSimpArgs false
theorem bkt_iff (v b : Int) (hv1 : -9223372036854775808 ≤ v) (hv : v ≤ 9223372036854775807) (h0 : 0 ≤ b) (h1 : b < 65) : (bLo b ≤ v ∧ v ≤ bHi b) ↔ (bkt v : Int) = b := by
  by_cases c0 : b = 0
  · subst c0
    rw [show bLo 0 = -9223372036854775808 from rfl, show bHi 0 = -1 from rfl]
    by_cases c : v < 0
    · rw [show bkt v = 0 from if_pos c]; omega
    · rw [show bkt v = if v = 0 then 1 else Lib.bitLen v.toNat + 1 from if_neg c]
      split <;> omega
  by_cases c1 : b = 1
  · subst c1
    rw [show bLo 1 = 0 from rfl, show bHi 1 = 0 from rfl]
    by_cases c : v < 0
    · rw [show bkt v = 0 from if_pos c]; omega
    · rw [show bkt v = if v = 0 then 1 else Lib.bitLen v.toNat + 1 from if_neg c]
      by_cases c2 : v = 0
      · subst c2; simp
      · rw [if_neg c2]
        have := bitLen_pos (x := v.toNat) (by omega) (by omega)
        omega
  have hlh := bLo_in (b := b) (by omega) h1
  have h3 : bLo b = 2 ^ (b - 2).toNat := by unfold bLo; rw [if_neg c0, if_neg c1]
  have hb : ∃ k : Nat, b = k + 2 := ⟨(b - 2).toNat, by omega⟩
  obtain ⟨k, rfl⟩ := hb
  have hk : ((k : Int) + 2 - 2).toNat = k := by omega
  rw [hk] at h3
  have h3' : bLo ((k : Int) + 2) = ((2 ^ k : Nat) : Int) := by rw [h3]; simp
  rw [hlh.2.2, h3']
  have hp : 1 ≤ 2 ^ k := Nat.one_le_two_pow
  by_cases hv0 : v ≤ 0
  · have : bkt v ≤ 1 := by unfold bkt; split; · omega
                           · rw [if_pos (by omega)]; omega
    constructor
    · intro h; omega
    · intro h; omega
  · have hbk : bkt v = Lib.bitLen v.toNat + 1 := by unfold bkt; rw [if_neg (by omega), if_neg (by omega)]
    obtain ⟨a1, a2, a3⟩ := Lib.bitLenAux_bounds 64 v.toNat (by omega) (by omega)
    rw [hbk]
    change 1 ≤ Lib.bitLen v.toNat at a1
    change 2 ^ (Lib.bitLen v.toNat - 1) ≤ v.toNat at a2
    change v.toNat < 2 ^ Lib.bitLen v.toNat at a3
    generalize Lib.bitLen v.toNat = L at *
    have hk2 : 2 ^ (k + 1) = 2 * 2 ^ k := by rw [Nat.pow_succ]; omega
    constructor
    · intro h
      have h4 : 2 ^ (L - 1) < 2 ^ (k + 1) := by omega
      have h5 : 2 ^ k < 2 ^ L := by omega
      have h6 := (Nat.pow_lt_pow_iff_right (by omega)).1 h4
      have h7 := (Nat.pow_lt_pow_iff_right (by omega)).1 h5
      omega
    · intro h
      obtain rfl : L = k + 1 := by omega
      rw [show k + 1 - 1 = k by omega] at a2
      omega
theorem gapRight_any (lo hi : Int) (w : World) : Calls Try.prog 55 #[.agg (gv lo hi)] w fun e w' => e = .returned (.bool (decide (lo ≤ hi))) ∧ Below w.heap.size w w' := by
  unfold gv
  go_enter Try.func55, Try.ntmps55
  go_wp2
  go_ret
  exact ⟨rfl, (Below.refl _ _).alloc (Nat.le_refl _) _⟩
theorem gapHas_any (lo hi x : Int) (w : World) : Calls Try.prog 56 #[.agg (gv lo hi), .int .i64 x] w fun e w' => e = .returned (.bool (decide (lo ≤ x ∧ x ≤ hi))) ∧ Below w.heap.size w w' := by
  unfold gv
  by_cases h : lo ≤ x
  · have hb : decide (lo ≤ x) = true := decide_eq_true h
    go_enter Try.func56, Try.ntmps56
    go_wp2
    go_ret
    exact ⟨ret_bool (by simp [h]), (Below.refl _ _).alloc (Nat.le_refl _) _⟩
  · have hb : decide (lo ≤ x) = false := decide_eq_false h
    go_enter Try.func56, Try.ntmps56
    go_wp2
    go_ret
    exact ⟨ret_bool (by simp [h]), (Below.refl _ _).alloc (Nat.le_refl _) _⟩
set_option maxHeartbeats 2000000 in
set_option maxRecDepth 100000 in
theorem buckets_walk (v b : Int) (w : World) (hv1 : -9223372036854775808 ≤ v) (hv2 : v ≤ 9223372036854775807) (hb1 : -9223372036854775808 ≤ b) (hb2 : b ≤ 9223372036854775807) :
    Calls Try.prog 12 #[.int .i64 v, .int .i64 b] w fun e w' => e = .returned (.bool true) ∧ Below w.heap.size w w' := by
  have HBV := hide (fun w => bucket_any v w hv1 hv2)
  have HRV := hide (fun w => refBucket_any v w hv1 hv2)
  have HBO := hide (fun w => bounds_any b w hb1 hb2)
  by_cases c : bIn b = true
  · rw [if_pos c, c] at HBO
    have hb : 0 ≤ b ∧ b < 65 := of_decide_eq_true c
    have hi1 := fun z h1 h2 => bkt_iff z b h1 h2 hb.1 hb.2
    have hlo : -9223372036854775808 ≤ bLo b ∧ bLo b ≤ bHi b ∧ bHi b ≤ 9223372036854775807 := by
      by_cases c0 : b = 0
      · subst c0; simp [bLo, bHi]
      by_cases c1 : b = 1
      · subst c1; simp [bLo, bHi]
      have := bLo_in (b := b) (by omega) hb.2
      omega
    have e1 : (bkt (bLo b) : Int) = b := (hi1 _ (by omega) (by omega)).1 ⟨Int.le_refl _, hlo.2.1⟩
    have e2 : (bkt (bHi b) : Int) = b := (hi1 _ (by omega) (by omega)).1 ⟨hlo.2.1, Int.le_refl _⟩
    have e3 : decide (bLo b ≤ v ∧ v ≤ bHi b) = ((bkt v : Int) == b) := by
      rw [Bool.eq_iff_iff]; simpa using hi1 v hv1 hv2
    have E3 := hide e3
    have HL := hide (fun w => refBucket_any (bLo b) w (by omega) (by omega))
    have HH := hide (fun w => refBucket_any (bHi b) w (by omega) (by omega))
    rw [e1] at HL
    rw [e2] at HH
    have hle := hlo.2.1
    have hb3 := hb.1
    have hb4 : b ≤ 64 := by omega
    generalize bLo b = lo at *
    generalize bHi b = hi at *
    clear e1 e2 e3 hi1 c hb hlo
    go_enter Try.func12, Try.ntmps12
    go_wp2_with fail
    refine (alive5_any _).mono ?_
    rintro e w1 ⟨rfl, b1⟩
    have B1 := hide b1
    clear b1
    go_wp2_with fail
    refine (HBV.out _).mono ?_
    rintro e w' ⟨rfl, rfl⟩
    go_wp2_with fail
    refine (HRV.out _).mono ?_
    rintro e w' ⟨rfl, rfl⟩
    go_wp2_with fail
    refine (HBO.out _).mono ?_
    rintro e w2 ⟨rfl, b2⟩
    have B2 := hide (B1.out.trans (b2.mono B1.out.size))
    clear b2 B1
    go_wp2_with (refine pause (.store 100 _ _) rfl ?_)
    refine unpause ?_
    have K3 := hide (((Blks.nil w2).new 100 #[.int .i64 0, .int .i64 0]).row 0 rfl (gv lo hi))
    have B3 := hide (below_setRow (B2.out.alloc B2.out.size (.cells #[.int .i64 0, .int .i64 0] 100)) (g := w2.heap.size) B2.out.size (gv lo hi))
    refine wpList_store_blk rfl 100 (.tmp 5) (.tmp 17) rfl w2.heap.size rfl #[.int .i64 0, .int .i64 0] (gv lo hi) rfl (Blk.new w2 _ _) rfl info100 (gv_one _ _) ?_
    generalize (w2.alloc (.cells #[.int .i64 0, .int .i64 0] 100)).setRow w2.heap.size (gv lo hi) = w3 at *
    have c0 := (K3.out.get 0 rfl).cell 0
    have c1 := (K3.out.get 0 rfl).cell 1
    simp only [gv, List.getElem?_toArray, List.getElem?_cons_zero, List.getElem?_cons_succ] at c0 c1
    clear B2
    go_wp2_with fail
    refine (gapRight_any lo hi _).mono ?_
    rintro e w4 ⟨rfl, b4⟩
    rw [decide_eq_true hle]
    have K4 := hide (K3.out.next b4)
    have B4 := hide (B3.out.trans (b4.mono B3.out.size))
    have c0 := (K4.out.get 0 rfl).cell 0
    have c1 := (K4.out.get 0 rfl).cell 1
    simp only [gv, List.getElem?_toArray, List.getElem?_cons_zero, List.getElem?_cons_succ] at c0 c1
    clear K3 B3 b4
    go_wp2_with fail
    refine (HL.out _).mono ?_
    rintro e w' ⟨rfl, rfl⟩
    go_wp2_with fail
    refine (HH.out _).mono ?_
    rintro e w' ⟨rfl, rfl⟩
    go_wp2_with fail
    refine (gapHas_any lo hi v _).mono ?_
    rintro e w5 ⟨rfl, b5⟩
    rw [E3.out]
    have B5 := hide (B4.out.trans (b5.mono B4.out.size))
    clear K4 B4 b5 c0 c1
    go_wp2_with fail
    refine (HRV.out _).mono ?_
    rintro e w' ⟨rfl, rfl⟩
    go_wp2_with fail
    go_ret
    exact ⟨ret_bool (by simp), B5.out⟩
  · have cf : bIn b = false := by simpa using c
    rw [if_neg c, cf] at HBO
    have hb : b < 0 ∨ 64 < b := by unfold bIn at cf; simp at cf; omega
    clear c cf
    have heq : ∀ w, (binOp .eql 100 (.agg (gv 0 0)) (.agg (gv 0 0))).run Try.prog w = .ok (.bool true) w := fun w => by kernel_rfl
    rcases hb with hb | hb
    · have hd : decide (b < 0) = true := decide_eq_true hb
      go_enter Try.func12, Try.ntmps12
      go_wp2_with fail
      refine (alive5_any _).mono ?_
      rintro e w1 ⟨rfl, b1⟩
      have B1 := hide b1
      clear b1
      go_wp2_with fail
      refine (HBV.out _).mono ?_
      rintro e w' ⟨rfl, rfl⟩
      go_wp2_with fail
      refine (HRV.out _).mono ?_
      rintro e w' ⟨rfl, rfl⟩
      go_wp2_with fail
      refine (HBO.out _).mono ?_
      rintro e w2 ⟨rfl, b2⟩
      have B2 := hide (B1.out.trans (b2.mono B1.out.size))
      clear b2 B1
      go_wp2_with (refine pause (.store 100 _ _) rfl ?_)
      refine unpause ?_
      have K3 := hide (((Blks.nil w2).new 100 #[.int .i64 0, .int .i64 0]).row 0 rfl (gv 0 0))
      have B3 := hide (below_setRow (B2.out.alloc B2.out.size (.cells #[.int .i64 0, .int .i64 0] 100)) (g := w2.heap.size) B2.out.size (gv 0 0))
      refine wpList_store_blk rfl 100 (.tmp 5) (.tmp 17) rfl w2.heap.size rfl #[.int .i64 0, .int .i64 0] (gv 0 0) rfl (Blk.new w2 _ _) rfl info100 (gv_one _ _) ?_
      generalize (w2.alloc (.cells #[.int .i64 0, .int .i64 0] 100)).setRow w2.heap.size (gv 0 0) = w3 at *
      have c0 := (K3.out.get 0 rfl).cell 0
      have c1 := (K3.out.get 0 rfl).cell 1
      simp only [gv, List.getElem?_toArray, List.getElem?_cons_zero, List.getElem?_cons_succ] at c0 c1
      clear B2 heq
      go_wp2_with fail
      go_ret
      exact ⟨ret_bool (by simp), B3.out⟩
    · have hd : decide (b < 0) = false := decide_eq_false (by omega)
      have hd2 : decide (64 < b) = true := decide_eq_true hb
      go_enter Try.func12, Try.ntmps12
      go_wp2_with fail
      refine (alive5_any _).mono ?_
      rintro e w1 ⟨rfl, b1⟩
      have B1 := hide b1
      clear b1
      go_wp2_with fail
      refine (HBV.out _).mono ?_
      rintro e w' ⟨rfl, rfl⟩
      go_wp2_with fail
      refine (HRV.out _).mono ?_
      rintro e w' ⟨rfl, rfl⟩
      go_wp2_with fail
      refine (HBO.out _).mono ?_
      rintro e w2 ⟨rfl, b2⟩
      have B2 := hide (B1.out.trans (b2.mono B1.out.size))
      clear b2 B1
      go_wp2_with (refine pause (.store 100 _ _) rfl ?_)
      refine unpause ?_
      have K3 := hide (((Blks.nil w2).new 100 #[.int .i64 0, .int .i64 0]).row 0 rfl (gv 0 0))
      have B3 := hide (below_setRow (B2.out.alloc B2.out.size (.cells #[.int .i64 0, .int .i64 0] 100)) (g := w2.heap.size) B2.out.size (gv 0 0))
      refine wpList_store_blk rfl 100 (.tmp 5) (.tmp 17) rfl w2.heap.size rfl #[.int .i64 0, .int .i64 0] (gv 0 0) rfl (Blk.new w2 _ _) rfl info100 (gv_one _ _) ?_
      generalize (w2.alloc (.cells #[.int .i64 0, .int .i64 0] 100)).setRow w2.heap.size (gv 0 0) = w3 at *
      have c0 := (K3.out.get 0 rfl).cell 0
      have c1 := (K3.out.get 0 rfl).cell 1
      simp only [gv, List.getElem?_toArray, List.getElem?_cons_zero, List.getElem?_cons_succ] at c0 c1
      clear B2 heq
      go_wp2_with fail
      go_ret
      exact ⟨ret_bool (by simp), B3.out⟩
set_option maxRecDepth 100000 in
theorem buckets_law (H : Type) (enc : TypeId × Value → H) : LawWalk H enc Try.prog 12 Try.f12 := by
  intro W base args ds p hval hA hwt
  rw [Try.params12] at hA hval hwt
  obtain ⟨v0, vs0, d0, ds0, p0, q0, hargs, rfl, rfl, h0, r0⟩ := trodAll_cons hA
  obtain ⟨v1, vs1, d1, ds1, p1, q1, rfl, rfl, rfl, h1, r1⟩ := trodAll_cons r0
  obtain ⟨rfl, rfl, rfl⟩ := trodAll_nil r1
  obtain rfl : args = #[v0, v1] := by cases args; simp_all
  simp only [DataW.weightsEach, List.all_append, Bool.and_eq_true] at hwt
  obtain ⟨w0, w1, _⟩ := hwt
  obtain ⟨z0, rfl, rfl, rfl, wfz0⟩ := open_int Try.underlying2 (hval 0 _ _ rfl rfl) h0
  obtain ⟨z1, rfl, rfl, rfl, wfz1⟩ := open_int Try.underlying3 (hval 1 _ _ rfl rfl) h1
  exact buckets_walk z0 z1 W (by have := bounds_i64 wfz0; omega) (by have := bounds_i64 wfz0; omega) (by have := bounds_i64 wfz1; omega) (by have := bounds_i64 wfz1; omega)
set_option maxRecDepth 100000 in
theorem buckets_lifted (os : Os) (started : os.Started) (H : Type) (enc : TypeId × Value → H) :
    ReturnsInHanded {} Try.checked os 12 .any (Rows.histBucketsSpec.pre6 enc Try.prog Try.f12 Rows.histBucketsRow.domain false) (Rows.histBucketsSpec.post enc Try.prog Try.f12 false true false false) :=
  lift_law (C := Try.checked) (s := Rows.histBucketsSpec) laidOut own started (by kernel_rfl) Try.func12 (by kernel_rfl) Try.underlying4 (by kernel_rfl) rfl
      (fun ds hd => by rw [Try.params12] at hd; match ds, hd with | [_, _], _ => rfl)
      (ChangeSpec.witness6 (enc := enc) (C := Try.checked) false ⟨#[], #[.int .i64 0, .int .i64 0], []⟩ 8 (by kernel_rfl) (by kernel_rfl) (by kernel_rfl) (by kernel_rfl))
      (buckets_law H enc)
theorem buckets_holds : Rows.HistBucketsSaid :=
  OpenClaim.holds_of_wide 12 Try.f12 rfl rfl rfl rfl rfl rfl rfl ⟨rfl, rfl, rfl, rfl, rfl⟩ rfl rfl rfl rfl rfl (by kernel_rfl) Try.func12 (by kernel_rfl)
    (of_decide_eq_true (by kernel_rfl)) (by unfold Func.isWrapper; first | (rw [if_pos (by decide +kernel)]; kernel_rfl) | (rw [if_neg (by decide +kernel)]; exact ⟨rfl, rfl⟩))
    (fun os started H enc _ => buckets_lifted os started H enc)
#print axioms buckets_holds
end Go.Proofs.Ytoammbfipinejaa
