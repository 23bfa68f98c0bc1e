/- EigBacks: the closed facts, the row, the card. -/
import Derived.Test.YtjbacabjgdfmdaaGreatDoorEwA
namespace Go.Proofs.YtjbacabjgdfmdaaGreatDoor
open Go.ChangeShapes Go.WideShapes Go.ChangeAt Go.RowKit

theorem cMain : Tryz.prog.mainIs = some (true, "c54c437ca1bc1457bd8ee0e24dbb4c71bd9f9da75a9d0cb1f09d00fa1538b05d".toList) := by kernel_rfl
theorem cLooks : true = Tryz.prog.looks [] := by kernel_rfl
theorem cGoes : false = Rows.eigBacksRow.goesBy Tryz.prog := by kernel_rfl
theorem cNamed : Tryz.prog.funcNamed "gimbal/gimballaw24.EigBacks" = some 8 := by kernel_rfl
theorem cWf : Rows.eigBacksRow.wfByText (OpenSpec.ofChange Rows.eigBacksSpec) = true := by kernel_rfl
theorem cStand : ([3, 22, 23, 81, 4].all fun u => !Tryz.prog.wantsStandIn u) = true := by kernel_rfl
theorem cClosed : joinedFacts Tryz.prog 8 Tryz.f8 Rows.eigBacksSpec Rows.eigBacksRow = true := by kernel_rfl
theorem cWrap : Tryz.f8.isWrapper Tryz.prog Rows.eigBacksRow.wrapper Rows.eigBacksRow.mainSum := by unfold Func.isWrapper; first | (rw [if_pos (by decide +kernel)]; kernel_rfl) | (rw [if_neg (by decide +kernel)]; exact ⟨rfl, rfl⟩)
theorem cInst : Tryz.f8.isInstance Tryz.prog Rows.eigBacksRow.origin Rows.eigBacksRow.targs := of_decide_eq_true (by kernel_rfl)

theorem eigBacks_row : Rows.EigBacksSaid :=
  OpenClaim.holds_of_wide 8 Tryz.f8 rfl rfl rfl rfl rfl rfl rfl ⟨rfl, rfl, rfl, rfl, rfl⟩ rfl rfl rfl rfl rfl cNamed Tryz.func8 cClosed
    cInst cWrap
    (fun os started H enc _ => lifted os started H enc)


theorem eigBacks_holds : Rows.EigBacksCardSaid :=
  Claim7.holds_tied_plain_at .later [] [.data, .data] true (true, "c54c437ca1bc1457bd8ee0e24dbb4c71bd9f9da75a9d0cb1f09d00fa1538b05d") true
    eigBacks_row (fun _ h => by cases h) cWf (fun _ h => by cases h) eigBacks_row_tie rfl ⟨rfl, rfl⟩ cMain rfl
    (fun f fn hf hfn => by
      obtain rfl : f = 8 := Option.some.inj (cNamed.symm.trans hf) |>.symm
      obtain rfl : fn = Tryz.f8 := (Option.some.inj (Tryz.func8.symm.trans hfn)).symm
      exact ⟨cLooks, fun j t ht => by
        rw [Tryz.params8] at ht
        have hm : t ∈ [3, 22, 23, 81, 4] := by simpa using Array.mem_of_getElem? ht
        have hall := cStand
        exact (show Tryz.prog.wantsStandIn t = false by simpa using List.all_eq_true.1 hall t hm)⟩)
    cGoes
end Go.Proofs.YtjbacabjgdfmdaaGreatDoor
