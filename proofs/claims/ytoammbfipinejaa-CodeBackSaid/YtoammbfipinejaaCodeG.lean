/- CodeSizes. -/
import Derived.Test.YtoammbfipinejaaCodeF
import Derived.Test.YtoammbfipinejaaRows
import Derived.Test.YtoammbfipinejaaFrame
namespace Go.Proofs.Ytoammbfipinejaa
open Go.ChangeShapes Go.WideShapes Go.ChangeAt Go.RowKit Go.Deep
set_option linter.unusedVariables false
set_option linter.unusedSimpArgs false

theorem own : ownKnob Try.prog.godebug = none := by kernel_rfl
theorem laidOut : laidOutB Try.prog = true := by kernel_rfl

theorem encF_mono : ∀ (f u v : Nat), u ≤ v → (encF f u).length ≤ (encF f v).length
  | 0, _, _, _ => by simp [encF]
  | f + 1, u, v, h => by
    by_cases hu : u < 128
    · rw [encF_small hu]; exact (encF_len (f + 1) v).1
    · rw [encF_big hu, encF_big (by omega)]
      have := encF_mono f (u / 128) (v / 128) (by omega)
      simpa using this
theorem enc_one (u : Nat) : (enc u).length = 1 ↔ u < 128 := by
  unfold enc
  by_cases hu : u < 128
  · rw [encF_small hu]; simp [hu]
  · rw [encF_big hu]
    have := (encF_len 8 (u / 128)).1
    simp only [List.length_cons]; omega
theorem enc_two (u : Nat) : (enc u).length ≤ 2 ↔ u < 16384 := by
  unfold enc
  by_cases hu : u < 128
  · rw [encF_small hu]; simp; omega
  · rw [encF_big hu]
    by_cases h2 : u / 128 < 128
    · rw [encF_small h2]; simp; omega
    · rw [encF_big h2]
      have := (encF_len 7 (u / 128 / 128)).1
      simp only [List.length_cons]; omega
theorem encs_one (a : Nat) : encs [a] = enc a := by simp [encs]

/-- A written number's size, as its callers see it. -/
def UintsAs (a x : Nat) (la : List UInt8) : Prop := ∀ (w : World) (g : Nat), g = w.heap.size → Calls Try.prog 28 #[.slice (some ⟨g, 0, none⟩) 1 1] (w.alloc (.cells ([a].map u64v).toArray 48)) fun e w' => ∃ v, e = .returned v ∧ Ow w' (w.alloc (.cells ([a].map u64v).toArray 48)).heap.size 5 1 v x (la.map bv) ∧ Below (w.alloc (.cells ([a].map u64v).toArray 48)).heap.size (w.alloc (.cells ([a].map u64v).toArray 48)) w'
set_option maxHeartbeats 1000000 in
set_option maxRecDepth 100000 in
theorem sizes_1a (a b x y t : Nat) (la lb : List UInt8) (v : Int) (w : World) (hx1 : 1 ≤ x) (hx2 : x ≤ 10) (HCA : UintsAs a x la) (HCB : UintsAs b y lb)
    (ha : a < 128) (hx : ((x : Int) == 1) = true) (e1 : decide ((a : Int) < 16384) = true) (e2 : decide ((x : Int) ≤ 2) = true) (hab : a ≤ b) (hxy : decide (y < x) = false)
    (HT : ∀ w, Calls Try.prog 23 #[.int .i64 v] w fun e w' => e = .returned (.int .u64 t) ∧ w = w') (HU : ∀ w, Calls Try.prog 21 #[.int .u64 t] w fun e w' => e = .returned (.int .i64 v) ∧ w = w')
    (h1 : -9223372036854775808 ≤ v) (h2 : v ≤ 9223372036854775807) (htv : (t : Int) = if 0 ≤ v then 2 * v else 2 * (-(v + 1)) + 1) :
    Calls Try.prog 7 #[.int .u64 a, .int .u64 b, .int .i64 v] w fun e w' => e = .returned (.bool true) ∧ Below w.heap.size w w' := by
  have HTT := hide HT
  have HUU := hide HU
  have he1 : 0 ≤ v → ((t : Int) == IntKind.u64.wrap (2 * IntKind.u64.wrap v)) = true := by
    intro h; rw [if_pos h] at htv; rw [u64_wrap, u64_wrap, beq_iff_eq]; omega
  have he2 : ¬ 0 ≤ v → ((t : Int) == IntKind.u64.wrap (IntKind.u64.wrap (2 * IntKind.u64.wrap (wrap64 (-wrap64 (v + 1)))) + 1)) = true := by
    intro h; rw [if_neg h] at htv
    rw [IntWalk.wrap64_in (v + 1) (by constructor <;> omega), IntWalk.wrap64_in _ (by constructor <;> omega), u64_wrap, u64_wrap, u64_wrap, beq_iff_eq]
    omega
  clear HT HU htv h1 h2
  by_cases hv : 0 ≤ v
  · have hbv := he1 hv
    clear he1 he2
    go_enter Try.func7, Try.ntmps7
    go_wp2_with fail
    refine (alive_any _).mono ?_
    rintro e w1 ⟨rfl, hb1⟩
    go_wp2_with fail
    refine (HCA w1 _ rfl).mono ?_
    rintro e w2 ⟨v2, rfl, own2, hb2⟩
    have B2 := (hb1.alloc hb1.size _).trans (hb2.mono (by have := hb1.size; simp; omega))
    obtain ⟨A2, c2, rfl, _, _, _⟩ := own2.form
    clear own2 hb1 hb2
    go_wp2_with fail
    refine (HCB w2 _ rfl).mono ?_
    rintro e w3 ⟨v3, rfl, own3, hb3⟩
    have B3 := (B2.alloc B2.size _).trans (hb3.mono (by have := B2.size; simp; omega))
    obtain ⟨A3, c3, rfl, _, _, _⟩ := own3.form
    clear own3 B2 hb3
    go_wp2_with fail
    refine (HTT.out w3).mono ?_
    rintro e w4 ⟨rfl, rfl⟩
    go_wp2_with fail
    refine (HUU.out w3).mono ?_
    rintro e w4 ⟨rfl, rfl⟩
    go_wp2_with fail
    go_ret
    exact ⟨rfl, B3⟩
  · have hbv := he2 hv
    clear he1 he2
    go_enter Try.func7, Try.ntmps7
    go_wp2_with fail
    refine (alive_any _).mono ?_
    rintro e w1 ⟨rfl, hb1⟩
    go_wp2_with fail
    refine (HCA w1 _ rfl).mono ?_
    rintro e w2 ⟨v2, rfl, own2, hb2⟩
    have B2 := (hb1.alloc hb1.size _).trans (hb2.mono (by have := hb1.size; simp; omega))
    obtain ⟨A2, c2, rfl, _, _, _⟩ := own2.form
    clear own2 hb1 hb2
    go_wp2_with fail
    refine (HCB w2 _ rfl).mono ?_
    rintro e w3 ⟨v3, rfl, own3, hb3⟩
    have B3 := (B2.alloc B2.size _).trans (hb3.mono (by have := B2.size; simp; omega))
    obtain ⟨A3, c3, rfl, _, _, _⟩ := own3.form
    clear own3 B2 hb3
    go_wp2_with fail
    refine (HTT.out w3).mono ?_
    rintro e w4 ⟨rfl, rfl⟩
    go_wp2_with fail
    refine (HUU.out w3).mono ?_
    rintro e w4 ⟨rfl, rfl⟩
    go_wp2_with fail
    go_ret
    exact ⟨rfl, B3⟩
set_option maxHeartbeats 1000000 in
set_option maxRecDepth 100000 in
theorem sizes_1b (a b x y t : Nat) (la lb : List UInt8) (v : Int) (w : World) (hx1 : 1 ≤ x) (hx2 : x ≤ 10) (HCA : UintsAs a x la) (HCB : UintsAs b y lb)
    (ha : a < 128) (hx : ((x : Int) == 1) = true) (e1 : decide ((a : Int) < 16384) = true) (e2 : decide ((x : Int) ≤ 2) = true) (hab : b < a)
    (HT : ∀ w, Calls Try.prog 23 #[.int .i64 v] w fun e w' => e = .returned (.int .u64 t) ∧ w = w') (HU : ∀ w, Calls Try.prog 21 #[.int .u64 t] w fun e w' => e = .returned (.int .i64 v) ∧ w = w')
    (h1 : -9223372036854775808 ≤ v) (h2 : v ≤ 9223372036854775807) (htv : (t : Int) = if 0 ≤ v then 2 * v else 2 * (-(v + 1)) + 1) :
    Calls Try.prog 7 #[.int .u64 a, .int .u64 b, .int .i64 v] w fun e w' => e = .returned (.bool true) ∧ Below w.heap.size w w' := by
  have HTT := hide HT
  have HUU := hide HU
  have he1 : 0 ≤ v → ((t : Int) == IntKind.u64.wrap (2 * IntKind.u64.wrap v)) = true := by
    intro h; rw [if_pos h] at htv; rw [u64_wrap, u64_wrap, beq_iff_eq]; omega
  have he2 : ¬ 0 ≤ v → ((t : Int) == IntKind.u64.wrap (IntKind.u64.wrap (2 * IntKind.u64.wrap (wrap64 (-wrap64 (v + 1)))) + 1)) = true := by
    intro h; rw [if_neg h] at htv
    rw [IntWalk.wrap64_in (v + 1) (by constructor <;> omega), IntWalk.wrap64_in _ (by constructor <;> omega), u64_wrap, u64_wrap, u64_wrap, beq_iff_eq]
    omega
  clear HT HU htv h1 h2
  by_cases hv : 0 ≤ v
  · have hbv := he1 hv
    clear he1 he2
    go_enter Try.func7, Try.ntmps7
    go_wp2_with fail
    refine (alive_any _).mono ?_
    rintro e w1 ⟨rfl, hb1⟩
    go_wp2_with fail
    refine (HCA w1 _ rfl).mono ?_
    rintro e w2 ⟨v2, rfl, own2, hb2⟩
    have B2 := (hb1.alloc hb1.size _).trans (hb2.mono (by have := hb1.size; simp; omega))
    obtain ⟨A2, c2, rfl, _, _, _⟩ := own2.form
    clear own2 hb1 hb2
    go_wp2_with fail
    refine (HCB w2 _ rfl).mono ?_
    rintro e w3 ⟨v3, rfl, own3, hb3⟩
    have B3 := (B2.alloc B2.size _).trans (hb3.mono (by have := B2.size; simp; omega))
    obtain ⟨A3, c3, rfl, _, _, _⟩ := own3.form
    clear own3 B2 hb3
    go_wp2_with fail
    refine (HTT.out w3).mono ?_
    rintro e w4 ⟨rfl, rfl⟩
    go_wp2_with fail
    refine (HUU.out w3).mono ?_
    rintro e w4 ⟨rfl, rfl⟩
    go_wp2_with fail
    go_ret
    exact ⟨rfl, B3⟩
  · have hbv := he2 hv
    clear he1 he2
    go_enter Try.func7, Try.ntmps7
    go_wp2_with fail
    refine (alive_any _).mono ?_
    rintro e w1 ⟨rfl, hb1⟩
    go_wp2_with fail
    refine (HCA w1 _ rfl).mono ?_
    rintro e w2 ⟨v2, rfl, own2, hb2⟩
    have B2 := (hb1.alloc hb1.size _).trans (hb2.mono (by have := hb1.size; simp; omega))
    obtain ⟨A2, c2, rfl, _, _, _⟩ := own2.form
    clear own2 hb1 hb2
    go_wp2_with fail
    refine (HCB w2 _ rfl).mono ?_
    rintro e w3 ⟨v3, rfl, own3, hb3⟩
    have B3 := (B2.alloc B2.size _).trans (hb3.mono (by have := B2.size; simp; omega))
    obtain ⟨A3, c3, rfl, _, _, _⟩ := own3.form
    clear own3 B2 hb3
    go_wp2_with fail
    refine (HTT.out w3).mono ?_
    rintro e w4 ⟨rfl, rfl⟩
    go_wp2_with fail
    refine (HUU.out w3).mono ?_
    rintro e w4 ⟨rfl, rfl⟩
    go_wp2_with fail
    go_ret
    exact ⟨rfl, B3⟩
set_option maxHeartbeats 1000000 in
set_option maxRecDepth 100000 in
theorem sizes_2a (a b x y t : Nat) (la lb : List UInt8) (v : Int) (w : World) (hx1 : 1 ≤ x) (hx2 : x ≤ 10) (HCA : UintsAs a x la) (HCB : UintsAs b y lb)
    (ha : 128 ≤ a) (hx : ((x : Int) == 1) = false) (e1 : decide ((a : Int) < 16384) = true) (e2 : decide ((x : Int) ≤ 2) = true) (hab : a ≤ b) (hxy : decide (y < x) = false)
    (HT : ∀ w, Calls Try.prog 23 #[.int .i64 v] w fun e w' => e = .returned (.int .u64 t) ∧ w = w') (HU : ∀ w, Calls Try.prog 21 #[.int .u64 t] w fun e w' => e = .returned (.int .i64 v) ∧ w = w')
    (h1 : -9223372036854775808 ≤ v) (h2 : v ≤ 9223372036854775807) (htv : (t : Int) = if 0 ≤ v then 2 * v else 2 * (-(v + 1)) + 1) :
    Calls Try.prog 7 #[.int .u64 a, .int .u64 b, .int .i64 v] w fun e w' => e = .returned (.bool true) ∧ Below w.heap.size w w' := by
  have HTT := hide HT
  have HUU := hide HU
  have he1 : 0 ≤ v → ((t : Int) == IntKind.u64.wrap (2 * IntKind.u64.wrap v)) = true := by
    intro h; rw [if_pos h] at htv; rw [u64_wrap, u64_wrap, beq_iff_eq]; omega
  have he2 : ¬ 0 ≤ v → ((t : Int) == IntKind.u64.wrap (IntKind.u64.wrap (2 * IntKind.u64.wrap (wrap64 (-wrap64 (v + 1)))) + 1)) = true := by
    intro h; rw [if_neg h] at htv
    rw [IntWalk.wrap64_in (v + 1) (by constructor <;> omega), IntWalk.wrap64_in _ (by constructor <;> omega), u64_wrap, u64_wrap, u64_wrap, beq_iff_eq]
    omega
  clear HT HU htv h1 h2
  by_cases hv : 0 ≤ v
  · have hbv := he1 hv
    clear he1 he2
    go_enter Try.func7, Try.ntmps7
    go_wp2_with fail
    refine (alive_any _).mono ?_
    rintro e w1 ⟨rfl, hb1⟩
    go_wp2_with fail
    refine (HCA w1 _ rfl).mono ?_
    rintro e w2 ⟨v2, rfl, own2, hb2⟩
    have B2 := (hb1.alloc hb1.size _).trans (hb2.mono (by have := hb1.size; simp; omega))
    obtain ⟨A2, c2, rfl, _, _, _⟩ := own2.form
    clear own2 hb1 hb2
    go_wp2_with fail
    refine (HCB w2 _ rfl).mono ?_
    rintro e w3 ⟨v3, rfl, own3, hb3⟩
    have B3 := (B2.alloc B2.size _).trans (hb3.mono (by have := B2.size; simp; omega))
    obtain ⟨A3, c3, rfl, _, _, _⟩ := own3.form
    clear own3 B2 hb3
    go_wp2_with fail
    refine (HTT.out w3).mono ?_
    rintro e w4 ⟨rfl, rfl⟩
    go_wp2_with fail
    refine (HUU.out w3).mono ?_
    rintro e w4 ⟨rfl, rfl⟩
    go_wp2_with fail
    go_ret
    exact ⟨rfl, B3⟩
  · have hbv := he2 hv
    clear he1 he2
    go_enter Try.func7, Try.ntmps7
    go_wp2_with fail
    refine (alive_any _).mono ?_
    rintro e w1 ⟨rfl, hb1⟩
    go_wp2_with fail
    refine (HCA w1 _ rfl).mono ?_
    rintro e w2 ⟨v2, rfl, own2, hb2⟩
    have B2 := (hb1.alloc hb1.size _).trans (hb2.mono (by have := hb1.size; simp; omega))
    obtain ⟨A2, c2, rfl, _, _, _⟩ := own2.form
    clear own2 hb1 hb2
    go_wp2_with fail
    refine (HCB w2 _ rfl).mono ?_
    rintro e w3 ⟨v3, rfl, own3, hb3⟩
    have B3 := (B2.alloc B2.size _).trans (hb3.mono (by have := B2.size; simp; omega))
    obtain ⟨A3, c3, rfl, _, _, _⟩ := own3.form
    clear own3 B2 hb3
    go_wp2_with fail
    refine (HTT.out w3).mono ?_
    rintro e w4 ⟨rfl, rfl⟩
    go_wp2_with fail
    refine (HUU.out w3).mono ?_
    rintro e w4 ⟨rfl, rfl⟩
    go_wp2_with fail
    go_ret
    exact ⟨rfl, B3⟩
set_option maxHeartbeats 1000000 in
set_option maxRecDepth 100000 in
theorem sizes_2b (a b x y t : Nat) (la lb : List UInt8) (v : Int) (w : World) (hx1 : 1 ≤ x) (hx2 : x ≤ 10) (HCA : UintsAs a x la) (HCB : UintsAs b y lb)
    (ha : 128 ≤ a) (hx : ((x : Int) == 1) = false) (e1 : decide ((a : Int) < 16384) = true) (e2 : decide ((x : Int) ≤ 2) = true) (hab : b < a)
    (HT : ∀ w, Calls Try.prog 23 #[.int .i64 v] w fun e w' => e = .returned (.int .u64 t) ∧ w = w') (HU : ∀ w, Calls Try.prog 21 #[.int .u64 t] w fun e w' => e = .returned (.int .i64 v) ∧ w = w')
    (h1 : -9223372036854775808 ≤ v) (h2 : v ≤ 9223372036854775807) (htv : (t : Int) = if 0 ≤ v then 2 * v else 2 * (-(v + 1)) + 1) :
    Calls Try.prog 7 #[.int .u64 a, .int .u64 b, .int .i64 v] w fun e w' => e = .returned (.bool true) ∧ Below w.heap.size w w' := by
  have HTT := hide HT
  have HUU := hide HU
  have he1 : 0 ≤ v → ((t : Int) == IntKind.u64.wrap (2 * IntKind.u64.wrap v)) = true := by
    intro h; rw [if_pos h] at htv; rw [u64_wrap, u64_wrap, beq_iff_eq]; omega
  have he2 : ¬ 0 ≤ v → ((t : Int) == IntKind.u64.wrap (IntKind.u64.wrap (2 * IntKind.u64.wrap (wrap64 (-wrap64 (v + 1)))) + 1)) = true := by
    intro h; rw [if_neg h] at htv
    rw [IntWalk.wrap64_in (v + 1) (by constructor <;> omega), IntWalk.wrap64_in _ (by constructor <;> omega), u64_wrap, u64_wrap, u64_wrap, beq_iff_eq]
    omega
  clear HT HU htv h1 h2
  by_cases hv : 0 ≤ v
  · have hbv := he1 hv
    clear he1 he2
    go_enter Try.func7, Try.ntmps7
    go_wp2_with fail
    refine (alive_any _).mono ?_
    rintro e w1 ⟨rfl, hb1⟩
    go_wp2_with fail
    refine (HCA w1 _ rfl).mono ?_
    rintro e w2 ⟨v2, rfl, own2, hb2⟩
    have B2 := (hb1.alloc hb1.size _).trans (hb2.mono (by have := hb1.size; simp; omega))
    obtain ⟨A2, c2, rfl, _, _, _⟩ := own2.form
    clear own2 hb1 hb2
    go_wp2_with fail
    refine (HCB w2 _ rfl).mono ?_
    rintro e w3 ⟨v3, rfl, own3, hb3⟩
    have B3 := (B2.alloc B2.size _).trans (hb3.mono (by have := B2.size; simp; omega))
    obtain ⟨A3, c3, rfl, _, _, _⟩ := own3.form
    clear own3 B2 hb3
    go_wp2_with fail
    refine (HTT.out w3).mono ?_
    rintro e w4 ⟨rfl, rfl⟩
    go_wp2_with fail
    refine (HUU.out w3).mono ?_
    rintro e w4 ⟨rfl, rfl⟩
    go_wp2_with fail
    go_ret
    exact ⟨rfl, B3⟩
  · have hbv := he2 hv
    clear he1 he2
    go_enter Try.func7, Try.ntmps7
    go_wp2_with fail
    refine (alive_any _).mono ?_
    rintro e w1 ⟨rfl, hb1⟩
    go_wp2_with fail
    refine (HCA w1 _ rfl).mono ?_
    rintro e w2 ⟨v2, rfl, own2, hb2⟩
    have B2 := (hb1.alloc hb1.size _).trans (hb2.mono (by have := hb1.size; simp; omega))
    obtain ⟨A2, c2, rfl, _, _, _⟩ := own2.form
    clear own2 hb1 hb2
    go_wp2_with fail
    refine (HCB w2 _ rfl).mono ?_
    rintro e w3 ⟨v3, rfl, own3, hb3⟩
    have B3 := (B2.alloc B2.size _).trans (hb3.mono (by have := B2.size; simp; omega))
    obtain ⟨A3, c3, rfl, _, _, _⟩ := own3.form
    clear own3 B2 hb3
    go_wp2_with fail
    refine (HTT.out w3).mono ?_
    rintro e w4 ⟨rfl, rfl⟩
    go_wp2_with fail
    refine (HUU.out w3).mono ?_
    rintro e w4 ⟨rfl, rfl⟩
    go_wp2_with fail
    go_ret
    exact ⟨rfl, B3⟩
set_option maxHeartbeats 1000000 in
set_option maxRecDepth 100000 in
theorem sizes_3a (a b x y t : Nat) (la lb : List UInt8) (v : Int) (w : World) (hx1 : 1 ≤ x) (hx2 : x ≤ 10) (HCA : UintsAs a x la) (HCB : UintsAs b y lb)
    (ha : 128 ≤ a) (hx : ((x : Int) == 1) = false) (e1 : decide ((a : Int) < 16384) = false) (e2 : decide ((x : Int) ≤ 2) = false) (hab : a ≤ b) (hxy : decide (y < x) = false)
    (HT : ∀ w, Calls Try.prog 23 #[.int .i64 v] w fun e w' => e = .returned (.int .u64 t) ∧ w = w') (HU : ∀ w, Calls Try.prog 21 #[.int .u64 t] w fun e w' => e = .returned (.int .i64 v) ∧ w = w')
    (h1 : -9223372036854775808 ≤ v) (h2 : v ≤ 9223372036854775807) (htv : (t : Int) = if 0 ≤ v then 2 * v else 2 * (-(v + 1)) + 1) :
    Calls Try.prog 7 #[.int .u64 a, .int .u64 b, .int .i64 v] w fun e w' => e = .returned (.bool true) ∧ Below w.heap.size w w' := by
  have HTT := hide HT
  have HUU := hide HU
  have he1 : 0 ≤ v → ((t : Int) == IntKind.u64.wrap (2 * IntKind.u64.wrap v)) = true := by
    intro h; rw [if_pos h] at htv; rw [u64_wrap, u64_wrap, beq_iff_eq]; omega
  have he2 : ¬ 0 ≤ v → ((t : Int) == IntKind.u64.wrap (IntKind.u64.wrap (2 * IntKind.u64.wrap (wrap64 (-wrap64 (v + 1)))) + 1)) = true := by
    intro h; rw [if_neg h] at htv
    rw [IntWalk.wrap64_in (v + 1) (by constructor <;> omega), IntWalk.wrap64_in _ (by constructor <;> omega), u64_wrap, u64_wrap, u64_wrap, beq_iff_eq]
    omega
  clear HT HU htv h1 h2
  by_cases hv : 0 ≤ v
  · have hbv := he1 hv
    clear he1 he2
    go_enter Try.func7, Try.ntmps7
    go_wp2_with fail
    refine (alive_any _).mono ?_
    rintro e w1 ⟨rfl, hb1⟩
    go_wp2_with fail
    refine (HCA w1 _ rfl).mono ?_
    rintro e w2 ⟨v2, rfl, own2, hb2⟩
    have B2 := (hb1.alloc hb1.size _).trans (hb2.mono (by have := hb1.size; simp; omega))
    obtain ⟨A2, c2, rfl, _, _, _⟩ := own2.form
    clear own2 hb1 hb2
    go_wp2_with fail
    refine (HCB w2 _ rfl).mono ?_
    rintro e w3 ⟨v3, rfl, own3, hb3⟩
    have B3 := (B2.alloc B2.size _).trans (hb3.mono (by have := B2.size; simp; omega))
    obtain ⟨A3, c3, rfl, _, _, _⟩ := own3.form
    clear own3 B2 hb3
    go_wp2_with fail
    refine (HTT.out w3).mono ?_
    rintro e w4 ⟨rfl, rfl⟩
    go_wp2_with fail
    refine (HUU.out w3).mono ?_
    rintro e w4 ⟨rfl, rfl⟩
    go_wp2_with fail
    go_ret
    exact ⟨rfl, B3⟩
  · have hbv := he2 hv
    clear he1 he2
    go_enter Try.func7, Try.ntmps7
    go_wp2_with fail
    refine (alive_any _).mono ?_
    rintro e w1 ⟨rfl, hb1⟩
    go_wp2_with fail
    refine (HCA w1 _ rfl).mono ?_
    rintro e w2 ⟨v2, rfl, own2, hb2⟩
    have B2 := (hb1.alloc hb1.size _).trans (hb2.mono (by have := hb1.size; simp; omega))
    obtain ⟨A2, c2, rfl, _, _, _⟩ := own2.form
    clear own2 hb1 hb2
    go_wp2_with fail
    refine (HCB w2 _ rfl).mono ?_
    rintro e w3 ⟨v3, rfl, own3, hb3⟩
    have B3 := (B2.alloc B2.size _).trans (hb3.mono (by have := B2.size; simp; omega))
    obtain ⟨A3, c3, rfl, _, _, _⟩ := own3.form
    clear own3 B2 hb3
    go_wp2_with fail
    refine (HTT.out w3).mono ?_
    rintro e w4 ⟨rfl, rfl⟩
    go_wp2_with fail
    refine (HUU.out w3).mono ?_
    rintro e w4 ⟨rfl, rfl⟩
    go_wp2_with fail
    go_ret
    exact ⟨rfl, B3⟩
set_option maxHeartbeats 1000000 in
set_option maxRecDepth 100000 in
theorem sizes_3b (a b x y t : Nat) (la lb : List UInt8) (v : Int) (w : World) (hx1 : 1 ≤ x) (hx2 : x ≤ 10) (HCA : UintsAs a x la) (HCB : UintsAs b y lb)
    (ha : 128 ≤ a) (hx : ((x : Int) == 1) = false) (e1 : decide ((a : Int) < 16384) = false) (e2 : decide ((x : Int) ≤ 2) = false) (hab : b < a)
    (HT : ∀ w, Calls Try.prog 23 #[.int .i64 v] w fun e w' => e = .returned (.int .u64 t) ∧ w = w') (HU : ∀ w, Calls Try.prog 21 #[.int .u64 t] w fun e w' => e = .returned (.int .i64 v) ∧ w = w')
    (h1 : -9223372036854775808 ≤ v) (h2 : v ≤ 9223372036854775807) (htv : (t : Int) = if 0 ≤ v then 2 * v else 2 * (-(v + 1)) + 1) :
    Calls Try.prog 7 #[.int .u64 a, .int .u64 b, .int .i64 v] w fun e w' => e = .returned (.bool true) ∧ Below w.heap.size w w' := by
  have HTT := hide HT
  have HUU := hide HU
  have he1 : 0 ≤ v → ((t : Int) == IntKind.u64.wrap (2 * IntKind.u64.wrap v)) = true := by
    intro h; rw [if_pos h] at htv; rw [u64_wrap, u64_wrap, beq_iff_eq]; omega
  have he2 : ¬ 0 ≤ v → ((t : Int) == IntKind.u64.wrap (IntKind.u64.wrap (2 * IntKind.u64.wrap (wrap64 (-wrap64 (v + 1)))) + 1)) = true := by
    intro h; rw [if_neg h] at htv
    rw [IntWalk.wrap64_in (v + 1) (by constructor <;> omega), IntWalk.wrap64_in _ (by constructor <;> omega), u64_wrap, u64_wrap, u64_wrap, beq_iff_eq]
    omega
  clear HT HU htv h1 h2
  by_cases hv : 0 ≤ v
  · have hbv := he1 hv
    clear he1 he2
    go_enter Try.func7, Try.ntmps7
    go_wp2_with fail
    refine (alive_any _).mono ?_
    rintro e w1 ⟨rfl, hb1⟩
    go_wp2_with fail
    refine (HCA w1 _ rfl).mono ?_
    rintro e w2 ⟨v2, rfl, own2, hb2⟩
    have B2 := (hb1.alloc hb1.size _).trans (hb2.mono (by have := hb1.size; simp; omega))
    obtain ⟨A2, c2, rfl, _, _, _⟩ := own2.form
    clear own2 hb1 hb2
    go_wp2_with fail
    refine (HCB w2 _ rfl).mono ?_
    rintro e w3 ⟨v3, rfl, own3, hb3⟩
    have B3 := (B2.alloc B2.size _).trans (hb3.mono (by have := B2.size; simp; omega))
    obtain ⟨A3, c3, rfl, _, _, _⟩ := own3.form
    clear own3 B2 hb3
    go_wp2_with fail
    refine (HTT.out w3).mono ?_
    rintro e w4 ⟨rfl, rfl⟩
    go_wp2_with fail
    refine (HUU.out w3).mono ?_
    rintro e w4 ⟨rfl, rfl⟩
    go_wp2_with fail
    go_ret
    exact ⟨rfl, B3⟩
  · have hbv := he2 hv
    clear he1 he2
    go_enter Try.func7, Try.ntmps7
    go_wp2_with fail
    refine (alive_any _).mono ?_
    rintro e w1 ⟨rfl, hb1⟩
    go_wp2_with fail
    refine (HCA w1 _ rfl).mono ?_
    rintro e w2 ⟨v2, rfl, own2, hb2⟩
    have B2 := (hb1.alloc hb1.size _).trans (hb2.mono (by have := hb1.size; simp; omega))
    obtain ⟨A2, c2, rfl, _, _, _⟩ := own2.form
    clear own2 hb1 hb2
    go_wp2_with fail
    refine (HCB w2 _ rfl).mono ?_
    rintro e w3 ⟨v3, rfl, own3, hb3⟩
    have B3 := (B2.alloc B2.size _).trans (hb3.mono (by have := B2.size; simp; omega))
    obtain ⟨A3, c3, rfl, _, _, _⟩ := own3.form
    clear own3 B2 hb3
    go_wp2_with fail
    refine (HTT.out w3).mono ?_
    rintro e w4 ⟨rfl, rfl⟩
    go_wp2_with fail
    refine (HUU.out w3).mono ?_
    rintro e w4 ⟨rfl, rfl⟩
    go_wp2_with fail
    go_ret
    exact ⟨rfl, B3⟩

set_option maxRecDepth 100000 in
theorem sizes_walk (a b : Nat) (v : Int) (w : World) (ha : a < 18446744073709551616) (hb : b < 18446744073709551616) (h1 : -9223372036854775808 ≤ v) (h2 : v ≤ 9223372036854775807) :
    Calls Try.prog 7 #[.int .u64 a, .int .u64 b, .int .i64 v] w fun e w' => e = .returned (.bool true) ∧ Below w.heap.size w w' := by
  have hx : 1 ≤ (enc a).length ∧ (enc a).length ≤ 10 := encF_len 9 a
  have hmono : a ≤ b → (enc a).length ≤ (enc b).length := encF_mono 9 a b
  have ho := enc_one a
  have ht := enc_two a
  have HT := fun w => turn_any v w h1 h2
  have HTL := turnN_lt v h1 h2
  have HU := fun w => unturn_any (turnN v) w HTL
  rw [unturn_turn] at HU
  have htv : (turnN v : Int) = if 0 ≤ v then 2 * v else 2 * (-(v + 1)) + 1 := by unfold turnN; split <;> omega
  have HCA : UintsAs a (enc a).length (enc a) := fun w g hg => by
    have := uints_any (some ⟨g, 0, none⟩) 1 1 [a] (w.alloc (.cells ([a].map u64v).toArray 48)) (by subst hg; exact Rd.litv w ([a].map u64v) 48 1 rfl _ (by simp)) (by omega) (by simpa using ha)
    rw [encs_one] at this
    exact this
  have HCB : UintsAs b (enc b).length (enc b) := fun w g hg => by
    have := uints_any (some ⟨g, 0, none⟩) 1 1 [b] (w.alloc (.cells ([b].map u64v).toArray 48)) (by subst hg; exact Rd.litv w ([b].map u64v) 48 1 rfl _ (by simp)) (by omega) (by simpa using hb)
    rw [encs_one] at this
    exact this
  have t1 : ∀ (p : Bool), ((enc a).length = 1 ↔ p = true) → (((enc a).length : Int) == 1) = p := by
    intro p hp; cases p <;> simp at hp ⊢ <;> omega
  by_cases c1 : a < 128
  · by_cases c2 : a ≤ b
    · exact sizes_1a a b _ _ _ _ _ v w hx.1 hx.2 HCA HCB c1 (t1 true (by simp; omega)) (decide_eq_true (by omega)) (decide_eq_true (by omega)) c2 (decide_eq_false (by have := hmono c2; omega)) HT HU h1 h2 htv
    · exact sizes_1b a b _ _ _ _ _ v w hx.1 hx.2 HCA HCB c1 (t1 true (by simp; omega)) (decide_eq_true (by omega)) (decide_eq_true (by omega)) (by omega) HT HU h1 h2 htv
  · by_cases c3 : a < 16384
    · by_cases c2 : a ≤ b
      · exact sizes_2a a b _ _ _ _ _ v w hx.1 hx.2 HCA HCB (by omega) (t1 false (by simp; omega)) (decide_eq_true (by omega)) (decide_eq_true (by omega)) c2 (decide_eq_false (by have := hmono c2; omega)) HT HU h1 h2 htv
      · exact sizes_2b a b _ _ _ _ _ v w hx.1 hx.2 HCA HCB (by omega) (t1 false (by simp; omega)) (decide_eq_true (by omega)) (decide_eq_true (by omega)) (by omega) HT HU h1 h2 htv
    · by_cases c2 : a ≤ b
      · exact sizes_3a a b _ _ _ _ _ v w hx.1 hx.2 HCA HCB (by omega) (t1 false (by simp; omega)) (decide_eq_false (by omega)) (decide_eq_false (by omega)) c2 (decide_eq_false (by have := hmono c2; omega)) HT HU h1 h2 htv
      · exact sizes_3b a b _ _ _ _ _ v w hx.1 hx.2 HCA HCB (by omega) (t1 false (by simp; omega)) (decide_eq_false (by omega)) (decide_eq_false (by omega)) (by omega) HT HU h1 h2 htv
set_option maxRecDepth 100000 in
theorem sizes_walkZ (a b v : Int) (w : World) (ha : 0 ≤ a ∧ a ≤ 18446744073709551615) (hb : 0 ≤ b ∧ b ≤ 18446744073709551615) (hv : -9223372036854775808 ≤ v ∧ v ≤ 9223372036854775807) :
    Calls Try.prog 7 #[.int .u64 a, .int .u64 b, .int .i64 v] w fun e w' => e = .returned (.bool true) ∧ Below w.heap.size w w' := by
  obtain ⟨a, rfl⟩ := Int.eq_ofNat_of_zero_le ha.1
  obtain ⟨b, rfl⟩ := Int.eq_ofNat_of_zero_le hb.1
  exact sizes_walk a b v w (by omega) (by omega) hv.1 hv.2
set_option maxRecDepth 100000 in
theorem sizes_law (H : Type) (enc : TypeId × Value → H) : LawWalk H enc Try.prog 7 Try.f7 := by
  intro W base args ds p hval hA hwt
  rw [Try.params7] at hA hval hwt
  obtain ⟨v0, vs0, d0, ds0, p0, q0, hargs, rfl, rfl, h0, r0⟩ := trodAll_cons hA
  obtain ⟨v1, vs1, d1, ds1, p1, q1, rfl, rfl, rfl, h1, r1⟩ := trodAll_cons r0
  obtain ⟨v2, vs2, d2, ds2, p2, q2, rfl, rfl, rfl, h2, r2⟩ := trodAll_cons r1
  obtain ⟨rfl, rfl, rfl⟩ := trodAll_nil r2
  obtain rfl : args = #[v0, v1, v2] := by cases args; simp_all
  simp only [DataW.weightsEach, List.all_append, Bool.and_eq_true] at hwt
  obtain ⟨w0, w1, w2, _⟩ := hwt
  obtain ⟨a, rfl, rfl, rfl, wfa⟩ := open_int Try.underlying48 (hval 0 _ _ rfl rfl) h0
  obtain ⟨b, rfl, rfl, rfl, wfb⟩ := open_int Try.underlying48 (hval 1 _ _ rfl rfl) h1
  obtain ⟨v, rfl, rfl, rfl, wfv⟩ := open_int Try.underlying2 (hval 2 _ _ rfl rfl) h2
  exact sizes_walkZ a b v W (bounds_u64 wfa) (bounds_u64 wfb) (bounds_i64 wfv)
set_option maxRecDepth 100000 in
theorem sizes_lifted (os : Os) (started : os.Started) (H : Type) (enc : TypeId × Value → H) :
    ReturnsInHanded {} Try.checked os 7 .any (Rows.codeSizesSpec.pre6 enc Try.prog Try.f7 Rows.codeSizesRow.domain false) (Rows.codeSizesSpec.post enc Try.prog Try.f7 false true false false) :=
  lift_law (C := Try.checked) (s := Rows.codeSizesSpec) laidOut own started (by kernel_rfl) Try.func7 (by kernel_rfl) Try.underlying4 (by kernel_rfl) rfl
      (fun ds hd => by rw [Try.params7] at hd; match ds, hd with | [_, _, _], _ => rfl)
      (ChangeSpec.witness6 (enc := enc) (C := Try.checked) false ⟨#[], #[.int .u64 0, .int .u64 0, .int .i64 0], []⟩ 8 (by kernel_rfl) (by kernel_rfl) (by kernel_rfl) (by kernel_rfl))
      (sizes_law H enc)
theorem sizes_holds : Rows.CodeSizesSaid :=
  OpenClaim.holds_of_wide 7 Try.f7 rfl rfl rfl rfl rfl rfl rfl ⟨rfl, rfl, rfl, rfl, rfl⟩ rfl rfl rfl rfl rfl (by kernel_rfl) Try.func7 (by kernel_rfl)
    (of_decide_eq_true (by kernel_rfl)) (by unfold Func.isWrapper; first | (rw [if_pos (by decide +kernel)]; kernel_rfl) | (rw [if_neg (by decide +kernel)]; exact ⟨rfl, rfl⟩))
    (fun os started H enc _ => sizes_lifted os started H enc)
#print axioms sizes_holds
end Go.Proofs.Ytoammbfipinejaa
