/- LabelOrder: for all series and all numbers. -/
import Derived.Test.YtpnbpcdmiiakcaaDoorM8
import Derived.Test.YtpnbpcdmiiakcaaDoorTie
import Derived.Test.YtpnbpcdmiiakcaaDoorCards
namespace Go.Proofs.YtpnbpcdmiiakcaaDoor
set_option linter.unusedSimpArgs false
set_option linter.unusedVariables false
open Go.ChangeShapes Go.WideShapes Go.ChangeAt Go.RowKit
set_option maxRecDepth 100000 in
theorem order8_lifted (os : Os) (started : os.Started) (H : Type) (enc : TypeId × Value → H) :
    ReturnsInHanded {} Tryd.checked os 5 .any (fun w args => (Rows.labelOrderSpec.pre enc Tryd.prog Tryd.f5 [] false w args ∧ laidMetH Tryd.prog Rows.labelOrderRow.laid w) ∧ sizedMet enc Tryd.prog Tryd.f5 (OpenSpec.ofChange Rows.labelOrderSpec) false w args) (Rows.labelOrderSpec.post enc Tryd.prog Tryd.f5 false true false false) := by
  refine lift_law_laid (C := Tryd.checked) (s := Rows.labelOrderSpec) (ld := Rows.labelOrderRow.laid) laidOut own started (by kernel_rfl) Tryd.func5 (by kernel_rfl) Tryd.underlying4 (by kernel_rfl) rfl
      (fun ds hd => by rw [Tryd.params5] at hd; match ds, hd with | [_, _, _, _], _ => rfl) ?_ (order8_law H enc)
  exact ChangeSpec.witness_shaped (enc := enc) (C := Tryd.checked) (os := os) (X := fun w _ => laidMetH Tryd.prog Rows.labelOrderRow.laid w) false (World.laidAll Tryd.prog os Rows.labelOrderRow.laid) #[.agg #[.string ⟨#[]⟩, .slice none 0 0], .agg #[.string ⟨#[]⟩, .slice none 0 0], .agg #[.string ⟨#[]⟩, .slice none 0 0], .int .i64 0] 8 (World.laidAll_os _ _ _)
      (World.shaped_of_ZipB (by kernel_rfl) (by kernel_rfl)) (by kernel_rfl) (by kernel_rfl) (by kernel_rfl)
      (by rw [MakeChecks.laidMetH_plain _ _ _ (by kernel_rfl)]; exact laidMet_laidAll _ (by kernel_rfl) (by kernel_rfl))
theorem order8_row : Rows.LabelOrderSaid :=
  OpenClaim.holds_of_wide 5 Tryd.f5 rfl rfl rfl rfl rfl rfl rfl ⟨rfl, rfl, rfl, rfl, rfl⟩ rfl rfl rfl rfl rfl (by kernel_rfl) Tryd.func5 (by kernel_rfl)
    (of_decide_eq_true (by kernel_rfl)) (by unfold Func.isWrapper; first | (rw [if_pos (by decide +kernel)]; kernel_rfl) | (rw [if_neg (by decide +kernel)]; exact ⟨rfl, rfl⟩))
    (fun os started H enc _ => order8_lifted os started H enc)
theorem order8_holds : Rows.LabelOrderCardSaid :=
  Claim7.holds_tied_plain_at .later [] [.data, .pinned] true (true, "1462d213df52d6caf1a60d4f1c96d5a64a810b0e17a4d6ae3ba94b57b0587a17") false order8_row (fun _ h => by cases h) (by kernel_rfl) (fun _ h => by cases h) labelOrder_row_tie rfl ⟨rfl, rfl⟩ (by kernel_rfl) rfl
    (fun f fn hf hfn => by
      obtain rfl : f = 5 := Option.some.inj ((show Tryd.prog.funcNamed "noonmark/noonmarklaw08.LabelOrder" = some 5 by kernel_rfl).symm.trans hf) |>.symm
      obtain rfl : fn = Tryd.f5 := (Option.some.inj (Tryd.func5.symm.trans hfn)).symm
      exact ⟨by kernel_rfl, fun j t ht => by
        have hm : t ∈ Tryd.f5.params.toList := Array.mem_toList_iff.2 (Array.mem_of_getElem? ht)
        have hall : (Tryd.f5.params.toList.all fun u => !Tryd.prog.wantsStandIn u) = true := by kernel_rfl
        exact (show Tryd.prog.wantsStandIn t = false by simpa using List.all_eq_true.1 hall t hm)⟩)
    (by kernel_rfl)
#print axioms order8_holds
end Go.Proofs.YtpnbpcdmiiakcaaDoor
