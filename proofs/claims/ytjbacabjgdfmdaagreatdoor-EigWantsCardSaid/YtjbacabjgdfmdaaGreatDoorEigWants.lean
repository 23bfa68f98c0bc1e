/- EigWants: the closed facts, the row, the card. -/
import Derived.Test.YtjbacabjgdfmdaaGreatDoorEwA
namespace Go.Proofs.YtjbacabjgdfmdaaGreatDoor
open Go.ChangeShapes Go.WideShapes Go.ChangeAt Go.RowKit

theorem cMain : Tryz.prog.mainIs = some (true, "c54c437ca1bc1457bd8ee0e24dbb4c71bd9f9da75a9d0cb1f09d00fa1538b05d".toList) := by kernel_rfl
theorem cLooks : true = Tryz.prog.looks [] := by kernel_rfl
theorem cGoes : false = Rows.eigWantsRow.goesBy Tryz.prog := by kernel_rfl
theorem cNamed : Tryz.prog.funcNamed "gimbal/gimballaw24.EigWants" = some 5 := by kernel_rfl
theorem cWf : Rows.eigWantsRow.wfByText (OpenSpec.ofChange Rows.eigWantsSpec) = true := by kernel_rfl
theorem cStand : ([48, 50].all fun u => !Tryz.prog.wantsStandIn u) = true := by kernel_rfl
theorem cClosed : joinedFacts Tryz.prog 5 Tryz.f5 Rows.eigWantsSpec Rows.eigWantsRow = true := by kernel_rfl
theorem cWrap : Tryz.f5.isWrapper Tryz.prog Rows.eigWantsRow.wrapper Rows.eigWantsRow.mainSum := by unfold Func.isWrapper; first | (rw [if_pos (by decide +kernel)]; kernel_rfl) | (rw [if_neg (by decide +kernel)]; exact ⟨rfl, rfl⟩)
theorem cInst : Tryz.f5.isInstance Tryz.prog Rows.eigWantsRow.origin Rows.eigWantsRow.targs := of_decide_eq_true (by kernel_rfl)

theorem eigWants_row : Rows.EigWantsSaid :=
  OpenClaim.holds_of_wide 5 Tryz.f5 rfl rfl rfl rfl rfl rfl rfl ⟨rfl, rfl, rfl, rfl, rfl⟩ rfl rfl rfl rfl rfl cNamed Tryz.func5 cClosed
    cInst cWrap
    (fun os started H enc _ => lifted os started H enc)


theorem eigWants_holds : Rows.EigWantsCardSaid :=
  Claim7.holds_tied_plain_at .later [] [.data, .data] true (true, "c54c437ca1bc1457bd8ee0e24dbb4c71bd9f9da75a9d0cb1f09d00fa1538b05d") true
    eigWants_row (fun _ h => by cases h) cWf (fun _ h => by cases h) eigWants_row_tie rfl ⟨rfl, rfl⟩ cMain rfl
    (fun f fn hf hfn => by
      obtain rfl : f = 5 := Option.some.inj (cNamed.symm.trans hf) |>.symm
      obtain rfl : fn = Tryz.f5 := (Option.some.inj (Tryz.func5.symm.trans hfn)).symm
      exact ⟨cLooks, fun j t ht => by
        rw [Tryz.params5] at ht
        have hm : t ∈ [48, 50] := by simpa using Array.mem_of_getElem? ht
        have hall := cStand
        exact (show Tryz.prog.wantsStandIn t = false by simpa using List.all_eq_true.1 hall t hm)⟩)
    cGoes
end Go.Proofs.YtjbacabjgdfmdaaGreatDoor
