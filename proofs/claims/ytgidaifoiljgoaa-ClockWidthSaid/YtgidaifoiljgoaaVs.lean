/- What the conditions need of the program's tables. -/
import Derived.Test.YtgidaifoiljgoaaVcQ
import Derived.Test.YtgidaifoiljgoaaProg
import Derived.KernelRfl
namespace Go.Proofs.Ytgidaifoiljgoaa
set_option linter.unusedSimpArgs false
set_option linter.unusedVariables false
theorem tf {p : Prop} : true = false → p := fun h => Bool.noConfusion h
theorem ft {p : Prop} : false = true → p := fun h => Bool.noConfusion h
theorem hm0 : Try.prog.follows .mixedOrders = true := by kernel_rfl
def E0 (g : Nat) : Bool := Nat.blt 1 g && Nat.blt g 129 && !(Nat.beq g 122)
theorem E0_all : ((List.range 129).all fun g => !(E0 g) || entersB Try.prog g) = true := by kernel_rfl
theorem hE0 : ∀ g, E0 g = true → entersB Try.prog g = true := fun g h => by
  have hlt : g < 129 := by simp [E0, Nat.blt_eq] at h; omega
  have := List.all_eq_true.1 E0_all g (List.mem_range.2 hlt)
  simpa [h] using this
end Go.Proofs.Ytgidaifoiljgoaa
