/- Gaps: Right, Has. -/
import Derived.Test.YtgidaifoiljgoaaProg
import Derived.Test.YtgidaifoiljgoaaBlks
namespace Go.Proofs.Ytgidaifoiljgoaa
open Go.RowKit
set_option linter.unusedVariables false
set_option linter.unusedSimpArgs false
def gv (lo hi : Int) : Array Value := #[.int .i64 lo, .int .i64 hi]
theorem info100 : (Try.prog.info? 39).map (·.size) = some 2 := by kernel_rfl
theorem gv_one (lo hi : Int) : (gv lo hi).all (·.oneCell') = true := by
  rw [Array.all_eq_true_iff_forall_mem]
  intro v hv
  simp only [gv, List.mem_toArray, List.mem_cons, List.not_mem_nil, or_false] at hv
  rcases hv with rfl | rfl <;> rfl
theorem gapRight_any (lo hi : Int) (w : World) : Calls Try.prog 46 #[.agg (gv lo hi)] w fun e w' => e = .returned (.bool (decide (lo ≤ hi))) ∧ Below w.heap.size w w' := by
  unfold gv
  go_enter Try.func46, Try.ntmps46
  go_wp2
  go_ret
  exact ⟨rfl, (Below.refl _ _).alloc (Nat.le_refl _) _⟩
theorem gapHas_any (lo hi x : Int) (w : World) : Calls Try.prog 39 #[.agg (gv lo hi), .int .i64 x] w fun e w' => e = .returned (.bool (decide (lo ≤ x ∧ x ≤ hi))) ∧ Below w.heap.size w w' := by
  unfold gv
  by_cases h : lo ≤ x
  · have hb : decide (lo ≤ x) = true := decide_eq_true h
    go_enter Try.func39, Try.ntmps39
    go_wp2
    go_ret
    exact ⟨ret_bool (by simp [h]), (Below.refl _ _).alloc (Nat.le_refl _) _⟩
  · have hb : decide (lo ≤ x) = false := decide_eq_false h
    go_enter Try.func39, Try.ntmps39
    go_wp2
    go_ret
    exact ⟨ret_bool (by simp [h]), (Below.refl _ _).alloc (Nat.le_refl _) _⟩
end Go.Proofs.Ytgidaifoiljgoaa
