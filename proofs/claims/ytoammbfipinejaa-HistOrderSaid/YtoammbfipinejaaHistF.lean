/- gap.New, Bounds. -/
import Derived.Test.YtoammbfipinejaaHistE
namespace Go.Proofs.Ytoammbfipinejaa
open Go.RowKit
set_option linter.unusedVariables false
set_option linter.unusedSimpArgs false
def gv (lo hi : Int) : Array Value := #[.int .i64 lo, .int .i64 hi]
theorem info100 : (Try.prog.info? 100).map (·.size) = some 2 := by kernel_rfl
theorem gv_one (lo hi : Int) : (gv lo hi).all (·.oneCell') = true := by
  rw [Array.all_eq_true_iff_forall_mem]
  intro v hv
  simp only [gv, List.mem_toArray, List.mem_cons, List.not_mem_nil, or_false] at hv
  rcases hv with rfl | rfl <;> rfl
set_option maxRecDepth 100000 in
theorem gapNew_any (lo hi : Int) (w : World) (h : lo ≤ hi) :
    Calls Try.prog 91 #[.int .i64 lo, .int .i64 hi] w fun e w' => e = .returned (.tuple #[.agg (gv lo hi), .bool true]) ∧ Below w.heap.size w w' := by
  have H1 := hide (Blk.new w 100 (gv 0 0))
  go_enter Try.func91, Try.ntmps91
  go_wp2_with (refine wpList_store_blk rfl 100 (.tmp 4) (.tmp 12) rfl w.heap.size rfl (gv 0 0) (gv lo hi) rfl H1.out rfl info100 (gv_one lo hi) ?_)
  exact bodyPost_ret_by (results_cell2 rfl _ w.heap.size rfl (gv lo hi) _ (H1.out.setRow _) Try.underlying100 rfl info100) rfl ⟨rfl, below_setRow ((Below.refl _ _).alloc (Nat.le_refl _) _) (Nat.le_refl _) _⟩
def bLo (b : Int) : Int := if b = 0 then -9223372036854775808 else if b = 1 then 0 else 2 ^ (b - 2).toNat
def bHi (b : Int) : Int := if b = 0 then -1 else if b = 1 then 0 else 2 * 2 ^ (b - 2).toNat - 1
def bIn (b : Int) : Bool := decide (0 ≤ b ∧ b < 65)
theorem bLo_in {b : Int} (h1 : 2 ≤ b) (h2 : b < 65) : 1 ≤ bLo b ∧ bLo b ≤ 4611686018427387904 ∧ bHi b = 2 * bLo b - 1 := by
  have h3 : bLo b = 2 ^ (b - 2).toNat := by unfold bLo; rw [if_neg (by omega), if_neg (by omega)]
  have h4 : bHi b = 2 * 2 ^ (b - 2).toNat - 1 := by unfold bHi; rw [if_neg (by omega), if_neg (by omega)]
  have h5 : (2 : Nat) ^ (b - 2).toNat ≤ 2 ^ 62 := Nat.pow_le_pow_right (by omega) (by omega)
  have h6 : 1 ≤ (2 : Nat) ^ (b - 2).toNat := Nat.one_le_two_pow
  have h7 : ((2 : Int) ^ (b - 2).toNat) = ((2 ^ (b - 2).toNat : Nat) : Int) := by simp
  rw [h3, h4, h7]
  omega
set_option maxHeartbeats 1000000 in
set_option maxRecDepth 100000 in
theorem bounds_any (b : Int) (w : World) (h1 : -9223372036854775808 ≤ b) (h2 : b ≤ 9223372036854775807) :
    Calls Try.prog 54 #[.int .i64 b] w fun e w' => e = .returned (.tuple #[.agg (if bIn b = true then gv (bLo b) (bHi b) else gv 0 0), .bool (bIn b)]) ∧ Below w.heap.size w w' := by
  have H1 := hide (Blk.new w 100 (gv 0 0))
  have hbl : Below w.heap.size w (w.alloc (.cells (gv 0 0) 100)) := (Below.refl _ _).alloc (Nat.le_refl _) _
  by_cases c : bIn b = true
  · rw [if_pos c, c]
    have hb := of_decide_eq_true c
    clear c
    by_cases c0 : b = 0
    · subst c0
      go_enter Try.func54, Try.ntmps54
      go_wp2_with (first
        | (go_at_call 91; refine (gapNew_any (-9223372036854775808) (-1) _ (by omega)).mono ?_; rintro e w3 ⟨rfl, hb3⟩; have H3 := hide (H1.out.next hb3); have HB3 := hide (hbl.trans (hb3.mono hbl.size)))
        | refine wpList_store_blk rfl 100 (.tmp 2) (.tmp 17) rfl w.heap.size rfl (gv 0 0) (gv (-9223372036854775808) (-1)) rfl H3.out rfl info100 (gv_one _ _) ?_)
      exact bodyPost_ret_by (results_cell2 rfl _ w.heap.size rfl (gv (-9223372036854775808) (-1)) _ (H3.out.setRow _) Try.underlying100 rfl info100) rfl ⟨rfl, below_setRow HB3.out (Nat.le_refl _) _⟩
    by_cases c1 : b = 1
    · subst c1
      go_enter Try.func54, Try.ntmps54
      go_wp2_with (first
        | (go_at_call 91; refine (gapNew_any 0 0 _ (by omega)).mono ?_; rintro e w3 ⟨rfl, hb3⟩; have H3 := hide (H1.out.next hb3); have HB3 := hide (hbl.trans (hb3.mono hbl.size)))
        | refine wpList_store_blk rfl 100 (.tmp 2) (.tmp 23) rfl w.heap.size rfl (gv 0 0) (gv 0 0) rfl H3.out rfl info100 (gv_one _ _) ?_)
      exact bodyPost_ret_by (results_cell2 rfl _ w.heap.size rfl (gv 0 0) _ (H3.out.setRow _) Try.underlying100 rfl info100) rfl ⟨rfl, below_setRow HB3.out (Nat.le_refl _) _⟩
    · have hn0 : (b == 0) = false := by simpa using c0
      have hn1 : (b == 1) = false := by simpa using c1
      have hlh := bLo_in (b := b) (by omega) hb.2
      have h3 : bLo b = 2 ^ (b - 2).toNat := by unfold bLo; rw [if_neg (by omega), if_neg (by omega)]
      have e1 : wrap64 (IntKind.u64.wrap (2 ^ (b - 2).toNat)) = bLo b := by
        rw [← h3, u64_wrap, Int.emod_eq_of_lt (by omega) (by omega)]; exact IntWalk.wrap64_in _ (by constructor <;> omega)
      have e2 : wrap64 (IntKind.u64.wrap (IntKind.u64.wrap (2 * IntKind.u64.wrap (2 ^ (b - 2).toNat)) - 1)) = bHi b := by
        rw [← h3, u64_wrap, u64_wrap, u64_wrap, Int.emod_eq_of_lt (a := bLo b) (by omega) (by omega), Int.emod_eq_of_lt (a := 2 * bLo b) (by omega) (by omega), Int.emod_eq_of_lt (by omega) (by omega), hlh.2.2]
        exact IntWalk.wrap64_in _ (by constructor <;> omega)
      have E1 := hide e1
      have E2 := hide e2
      have HLE := hide (show bLo b ≤ bHi b by omega)
      clear e1 e2 h3 hlh
      go_enter Try.func54, Try.ntmps54
      go_wp2_with fail
      rw [E1.out, E2.out]
      refine (gapNew_any (bLo b) (bHi b) _ HLE.out).mono ?_
      rintro e w3 ⟨rfl, hb3⟩
      have H3 := hide (H1.out.next hb3)
      have HB3 := hide (hbl.trans (hb3.mono hbl.size))
      clear E1 E2 hb3
      go_wp2_with (refine wpList_store_blk rfl 100 (.tmp 2) (.tmp 35) rfl w.heap.size rfl (gv 0 0) (gv (bLo b) (bHi b)) rfl H3.out rfl info100 (gv_one _ _) ?_)
      exact bodyPost_ret_by (results_cell2 rfl _ w.heap.size rfl (gv (bLo b) (bHi b)) _ (H3.out.setRow _) Try.underlying100 rfl info100) rfl ⟨rfl, below_setRow HB3.out (Nat.le_refl _) _⟩
  · have hc : bIn b = false := by simpa using c
    rw [if_neg c, hc]
    have hb : b < 0 ∨ 65 ≤ b := by unfold bIn at c; simp at c; omega
    clear c hc
    rcases hb with hb | hb
    · go_enter Try.func54, Try.ntmps54
      go_wp2_with (refine wpList_store_blk rfl 100 (.tmp 2) (.tmp 12) rfl w.heap.size rfl (gv 0 0) (gv 0 0) rfl H1.out rfl info100 (gv_one _ _) ?_)
      exact bodyPost_ret_by (results_cell2 rfl _ w.heap.size rfl (gv 0 0) _ (H1.out.setRow _) Try.underlying100 rfl info100) rfl ⟨rfl, below_setRow hbl (Nat.le_refl _) _⟩
    · go_enter Try.func54, Try.ntmps54
      go_wp2_with (refine wpList_store_blk rfl 100 (.tmp 2) (.tmp 12) rfl w.heap.size rfl (gv 0 0) (gv 0 0) rfl H1.out rfl info100 (gv_one _ _) ?_)
      exact bodyPost_ret_by (results_cell2 rfl _ w.heap.size rfl (gv 0 0) _ (H1.out.setRow _) Try.underlying100 rfl info100) rfl ⟨rfl, below_setRow hbl (Nat.le_refl _) _⟩
end Go.Proofs.Ytoammbfipinejaa
