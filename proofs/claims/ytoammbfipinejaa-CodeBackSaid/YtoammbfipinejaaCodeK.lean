/- The statement of CodeWrites. -/
import Derived.Test.YtoammbfipinejaaCodeJ
import Derived.Test.YtoammbfipinejaaOpen
namespace Go.Proofs.Ytoammbfipinejaa
open Go.ChangeShapes Go.WideShapes Go.ChangeAt Go.RowKit Go.Deep
set_option linter.unusedVariables false

set_option maxRecDepth 100000 in
theorem writes_law (H : Type) (enc : TypeId × Value → H) : LawWalk H enc Try.prog 4 Try.f4 := by
  intro W base args ds p hval hA hwt
  rw [Try.params4] at hA hval hwt
  obtain ⟨v0, vs0, d0, ds0, p0, q0, hargs, rfl, rfl, h0, r0⟩ := trodAll_cons hA
  obtain ⟨v1, vs1, d1, ds1, p1, q1, rfl, rfl, rfl, h1, r1⟩ := trodAll_cons r0
  obtain ⟨v2, vs2, d2, ds2, p2, q2, rfl, rfl, rfl, h2, r2⟩ := trodAll_cons r1
  obtain ⟨rfl, rfl, rfl⟩ := trodAll_nil r2
  obtain rfl : args = #[v0, v1, v2] := by cases args; simp_all
  simp only [DataW.weightsEach, List.all_append, Bool.and_eq_true] at hwt
  obtain ⟨w0, w1, w2, _⟩ := hwt
  obtain ⟨AA, nA, cA, lA, rfl, hrA, hcA, hmA, hwA⟩ := open_u64s Try.underlying43 Try.underlying48 (by kernel_rfl) (by decide +kernel) (hval 0 _ _ rfl rfl) h0 w0
  obtain ⟨AB, nB, cB, lB, rfl, hrB, hcB, hmB, hwB⟩ := open_nums Try.underlying44 Try.underlying2 (by kernel_rfl) (by decide +kernel) (hval 1 _ _ rfl rfl) h1 w1
  obtain ⟨AC, nC, cC, lC, rfl, hrC, hcC, hmC, hwC⟩ := open_texts Try.underlying45 Try.underlying9 (by kernel_rfl) (by decide +kernel) (hval 2 _ _ rfl rfl) h2 w2
  exact writes_walk AA AB AC nA nB nC cA cB cC lA lB lC W hrA hrB hrC (by omega) (by omega) (by omega) hwA (fun x hx => bounds_i64 (hwB x hx)) hwC
set_option maxRecDepth 100000 in
theorem writes_lifted (os : Os) (started : os.Started) (H : Type) (enc : TypeId × Value → H) :
    ReturnsInHanded {} Try.checked os 4 .any (Rows.codeWritesSpec.pre6 enc Try.prog Try.f4 Rows.codeWritesRow.domain false) (Rows.codeWritesSpec.post enc Try.prog Try.f4 false true false false) :=
  lift_law (C := Try.checked) (s := Rows.codeWritesSpec) laidOut own started (by kernel_rfl) Try.func4 (by kernel_rfl) Try.underlying4 (by kernel_rfl) rfl
      (fun ds hd => by rw [Try.params4] at hd; match ds, hd with | [_, _, _], _ => rfl)
      (ChangeSpec.witness6 (enc := enc) (C := Try.checked) false ⟨#[], #[.slice none 0 0, .slice none 0 0, .slice none 0 0], []⟩ 8 (by kernel_rfl) (by kernel_rfl) (by kernel_rfl) (by kernel_rfl))
      (writes_law H enc)
theorem writes_holds : Rows.CodeWritesSaid :=
  OpenClaim.holds_of_wide 4 Try.f4 rfl rfl rfl rfl rfl rfl rfl ⟨rfl, rfl, rfl, rfl, rfl⟩ rfl rfl rfl rfl rfl (by kernel_rfl) Try.func4 (by kernel_rfl)
    (of_decide_eq_true (by kernel_rfl)) (by unfold Func.isWrapper; first | (rw [if_pos (by decide +kernel)]; kernel_rfl) | (rw [if_neg (by decide +kernel)]; exact ⟨rfl, rfl⟩))
    (fun os started H enc _ => writes_lifted os started H enc)
#print axioms writes_holds
end Go.Proofs.Ytoammbfipinejaa
