/- LabelTexts: for all texts. -/
import Derived.Test.YtpnbpcdmiiakcaaDoorM9
import Derived.Test.YtpnbpcdmiiakcaaDoorTie
import Derived.Test.YtpnbpcdmiiakcaaDoorCards
namespace Go.Proofs.YtpnbpcdmiiakcaaDoor
set_option linter.unusedSimpArgs false
set_option linter.unusedVariables false
open Go.ChangeShapes Go.WideShapes Go.ChangeAt Go.RowKit
set_option maxRecDepth 100000 in
theorem texts8_law (H : Type) (enc : TypeId × Value → H) : LawWalk H enc Tryd.prog 4 Tryd.f4 :=
  lawWalk_of_sat (by kernel_rfl) fun args h => by
    obtain ⟨b, _, rfl, h2, h⟩ := h
    obtain rfl := h
    obtain ⟨y, rfl, _⟩ := ty_string h2 Tryd.underlying9
    obtain ⟨z, hz⟩ := str_list y
    rw [hz]
    exact texts8_sat z
set_option maxRecDepth 100000 in
theorem texts8_lifted (os : Os) (started : os.Started) (H : Type) (enc : TypeId × Value → H) :
    ReturnsInHanded {} Tryd.checked os 4 .any (fun w args => (Rows.labelTextsSpec.pre enc Tryd.prog Tryd.f4 [] false w args ∧ laidMetH Tryd.prog Rows.labelTextsRow.laid w) ∧ sizedMet enc Tryd.prog Tryd.f4 (OpenSpec.ofChange Rows.labelTextsSpec) false w args) (Rows.labelTextsSpec.post enc Tryd.prog Tryd.f4 false true false false) := by
  refine lift_law_laid (C := Tryd.checked) (s := Rows.labelTextsSpec) (ld := Rows.labelTextsRow.laid) laidOut own started (by kernel_rfl) Tryd.func4 (by kernel_rfl) Tryd.underlying4 (by kernel_rfl) rfl
      (fun ds hd => by rw [Tryd.params4] at hd; match ds, hd with | [_], _ => rfl) ?_ (texts8_law H enc)
  exact ChangeSpec.witness_shaped (enc := enc) (C := Tryd.checked) (os := os) (X := fun w _ => laidMetH Tryd.prog Rows.labelTextsRow.laid w) false (World.laidAll Tryd.prog os Rows.labelTextsRow.laid) #[.string ⟨#[]⟩] 8 (World.laidAll_os _ _ _)
      (World.shaped_of_ZipB (by kernel_rfl) (by kernel_rfl)) (by kernel_rfl) (by kernel_rfl) (by kernel_rfl)
      (by rw [MakeChecks.laidMetH_plain _ _ _ (by kernel_rfl)]; exact laidMet_laidAll _ (by kernel_rfl) (by kernel_rfl))
theorem texts8_row : Rows.LabelTextsSaid :=
  OpenClaim.holds_of_wide 4 Tryd.f4 rfl rfl rfl rfl rfl rfl rfl ⟨rfl, rfl, rfl, rfl, rfl⟩ rfl rfl rfl rfl rfl (by kernel_rfl) Tryd.func4 (by kernel_rfl)
    (of_decide_eq_true (by kernel_rfl)) (by unfold Func.isWrapper; first | (rw [if_pos (by decide +kernel)]; kernel_rfl) | (rw [if_neg (by decide +kernel)]; exact ⟨rfl, rfl⟩))
    (fun os started H enc _ => texts8_lifted os started H enc)
theorem texts8_holds : Rows.LabelTextsCardSaid :=
  Claim7.holds_tied_plain_at .later [] [.data, .pinned] true (true, "1462d213df52d6caf1a60d4f1c96d5a64a810b0e17a4d6ae3ba94b57b0587a17") false texts8_row (fun _ h => by cases h) (by kernel_rfl) (fun _ h => by cases h) labelTexts_row_tie rfl ⟨rfl, rfl⟩ (by kernel_rfl) rfl
    (fun f fn hf hfn => by
      obtain rfl : f = 4 := Option.some.inj ((show Tryd.prog.funcNamed "noonmark/noonmarklaw08.LabelTexts" = some 4 by kernel_rfl).symm.trans hf) |>.symm
      obtain rfl : fn = Tryd.f4 := (Option.some.inj (Tryd.func4.symm.trans hfn)).symm
      exact ⟨by kernel_rfl, fun j t ht => by
        have hm : t ∈ Tryd.f4.params.toList := Array.mem_toList_iff.2 (Array.mem_of_getElem? ht)
        have hall : (Tryd.f4.params.toList.all fun u => !Tryd.prog.wantsStandIn u) = true := by kernel_rfl
        exact (show Tryd.prog.wantsStandIn t = false by simpa using List.all_eq_true.1 hall t hm)⟩)
    (by kernel_rfl)
#print axioms texts8_holds
end Go.Proofs.YtpnbpcdmiiakcaaDoor
