/-
  DERIVED. GIVEN WITH THE SEED: THE CARDS: each row of YtjbacabjgdfmdaaGreatDoorRows.lean that lists a variable, with what it lists TIED to the program's text (the seventh form; the later family's looks); each row that meets fmt, with fmt's text TOLD by the authors' own Lean function (tested against real Go, not proved from fmt's source: count such statements apart). THE CARD IS WHAT COUNTS. Prove the row's statement (the work); the ties are given (YtjbacabjgdfmdaaGreatDoorTie.lean); close each card by the builder's one call (the guide's Derived/Test/ToyasCard.lean, 'card_holds'). Laid BY PROGRAM, IN A SANDBOX (cutbox-door.mjs). By AI agents, Wed Nov 11 2026. No macro, syntax, notation, axiom, sorry.
-/
import Derived.Test.YtjbacabjgdfmdaaGreatDoorRows
import GoSem.ClaimSeven
namespace Go.Proofs.YtjbacabjgdfmdaaGreatDoor
namespace Rows

/-- THE TIED CARD OF 'gimballaw19.SchurPower'. -/
def schurPowerCard : Claim7 := { stood := { row := schurPowerRow, standIns := [], harness := (true, "c54c437ca1bc1457bd8ee0e24dbb4c71bd9f9da75a9d0cb1f09d00fa1538b05d"), looks := true }, kinds := [], alts := [], laidByText := true, laidKinds := [.data], laidTests := true, laidLooks := .later }
def SchurPowerCardSaid : Prop := Claim7.holds Tryz.pinned (.plain (OpenSpec.ofChange schurPowerSpec)) schurPowerCard

/-- THE TIED CARD OF 'gimbaltop.WholeValues'. -/
def wholeValuesCard : Claim7 := { stood := { row := wholeValuesRow, standIns := [], harness := (true, "c54c437ca1bc1457bd8ee0e24dbb4c71bd9f9da75a9d0cb1f09d00fa1538b05d"), looks := true }, kinds := [], alts := [], laidByText := true, laidKinds := [.data, .data], laidTests := true, laidLooks := .later }
def WholeValuesCardSaid : Prop := Claim7.holds Tryz.pinned (.plain (OpenSpec.ofChange wholeValuesSpec)) wholeValuesCard

/-- THE TIED CARD OF 'gimballaw24.EigWants'. -/
def eigWantsCard : Claim7 := { stood := { row := eigWantsRow, standIns := [], harness := (true, "c54c437ca1bc1457bd8ee0e24dbb4c71bd9f9da75a9d0cb1f09d00fa1538b05d"), looks := true }, kinds := [], alts := [], laidByText := true, laidKinds := [.data, .data], laidTests := true, laidLooks := .later }
def EigWantsCardSaid : Prop := Claim7.holds Tryz.pinned (.plain (OpenSpec.ofChange eigWantsSpec)) eigWantsCard

/-- THE TIED CARD OF 'gimballaw24.EigRests'. -/
def eigRestsCard : Claim7 := { stood := { row := eigRestsRow, standIns := [], harness := (true, "c54c437ca1bc1457bd8ee0e24dbb4c71bd9f9da75a9d0cb1f09d00fa1538b05d"), looks := true }, kinds := [], alts := [], laidByText := true, laidKinds := [.data, .data], laidTests := true, laidLooks := .later }
def EigRestsCardSaid : Prop := Claim7.holds Tryz.pinned (.plain (OpenSpec.ofChange eigRestsSpec)) eigRestsCard

/-- THE TIED CARD OF 'gimbaltop.WholeApart'. -/
def wholeApartCard : Claim7 := { stood := { row := wholeApartRow, standIns := [], harness := (true, "c54c437ca1bc1457bd8ee0e24dbb4c71bd9f9da75a9d0cb1f09d00fa1538b05d"), looks := true }, kinds := [], alts := [], laidByText := true, laidKinds := [.data, .data], laidTests := true, laidLooks := .later }
def WholeApartCardSaid : Prop := Claim7.holds Tryz.pinned (.plain (OpenSpec.ofChange wholeApartSpec)) wholeApartCard

/-- THE TIED CARD OF 'gimballaw24.EigBacks'. -/
def eigBacksCard : Claim7 := { stood := { row := eigBacksRow, standIns := [], harness := (true, "c54c437ca1bc1457bd8ee0e24dbb4c71bd9f9da75a9d0cb1f09d00fa1538b05d"), looks := true }, kinds := [], alts := [], laidByText := true, laidKinds := [.data, .data], laidTests := true, laidLooks := .later }
def EigBacksCardSaid : Prop := Claim7.holds Tryz.pinned (.plain (OpenSpec.ofChange eigBacksSpec)) eigBacksCard

/-- THE TIED CARD OF 'gimballaw24.EigShapes'. -/
def eigShapesCard : Claim7 := { stood := { row := eigShapesRow, standIns := [], harness := (true, "c54c437ca1bc1457bd8ee0e24dbb4c71bd9f9da75a9d0cb1f09d00fa1538b05d"), looks := true }, kinds := [], alts := [], laidByText := true, laidKinds := [.data, .data], laidTests := true, laidLooks := .later }
def EigShapesCardSaid : Prop := Claim7.holds Tryz.pinned (.plain (OpenSpec.ofChange eigShapesSpec)) eigShapesCard

/-- THE TIED CARD OF 'gimballaw24.EigTexts'. -/
def eigTextsCard : Claim7 := { stood := { row := eigTextsRow, standIns := [], harness := (true, "c54c437ca1bc1457bd8ee0e24dbb4c71bd9f9da75a9d0cb1f09d00fa1538b05d"), looks := true }, kinds := [], alts := [], laidByText := true, laidKinds := [.data, .data, .data, .data, .sentinel, .sentinel, .data, .pinned], laidTests := true, laidLooks := .later }
def EigTextsCardSaid : Prop := Claim7.holds Tryz.pinned (.plain (OpenSpec.ofChange eigTextsSpec)) eigTextsCard

/-- THE TIED CARD OF 'gimbaltop.WholeStatus'. -/
def wholeStatusCard : Claim7 := { stood := { row := wholeStatusRow, standIns := [], harness := (true, "c54c437ca1bc1457bd8ee0e24dbb4c71bd9f9da75a9d0cb1f09d00fa1538b05d"), looks := true }, kinds := [], alts := [], laidByText := true, laidKinds := [.data, .data], laidTests := true, laidLooks := .later }
def WholeStatusCardSaid : Prop := Claim7.holds Tryz.pinned (.plain (OpenSpec.ofChange wholeStatusSpec)) wholeStatusCard

/-- THE TIED CARD OF 'gimbaltop.WholeSame'. -/
def wholeSameCard : Claim7 := { stood := { row := wholeSameRow, standIns := [], harness := (true, "c54c437ca1bc1457bd8ee0e24dbb4c71bd9f9da75a9d0cb1f09d00fa1538b05d"), looks := true }, kinds := [], alts := [], laidByText := true, laidKinds := [.data, .data], laidTests := true, laidLooks := .later }
def WholeSameCardSaid : Prop := Claim7.holds Tryz.pinned (.plain (OpenSpec.ofChange wholeSameSpec)) wholeSameCard

/-- THE TIED CARD OF 'gimbaltop.WholeTexts'. -/
def wholeTextsCard : Claim7 := { stood := { row := wholeTextsRow, standIns := [], harness := (true, "c54c437ca1bc1457bd8ee0e24dbb4c71bd9f9da75a9d0cb1f09d00fa1538b05d"), looks := true }, kinds := [], alts := [], laidByText := true, laidKinds := [.data, .data, .data, .data, .sentinel, .sentinel, .data, .pinned], laidTests := true, laidLooks := .later }
def WholeTextsCardSaid : Prop := Claim7.holds Tryz.pinned (.plain (OpenSpec.ofChange wholeTextsSpec)) wholeTextsCard

/-- THE SECOND FORM's CARD OF 'gimballaw19.SchurPower'. -/
def schurPowerUptoCard : Claim7 := { stood := { row := schurPowerUptoRow, standIns := [], harness := (true, "c54c437ca1bc1457bd8ee0e24dbb4c71bd9f9da75a9d0cb1f09d00fa1538b05d"), looks := true }, kinds := [], alts := [], laidByText := true, laidKinds := [.data], laidTests := true, laidLooks := .later }
def SchurPowerUptoCardSaid : Prop := Claim7.holds Tryz.pinned (.plain (OpenSpec.upto schurPowerSpec)) schurPowerUptoCard

/-- THE SECOND FORM's CARD OF 'gimbaltop.WholeValues'. -/
def wholeValuesUptoCard : Claim7 := { stood := { row := wholeValuesUptoRow, standIns := [], harness := (true, "c54c437ca1bc1457bd8ee0e24dbb4c71bd9f9da75a9d0cb1f09d00fa1538b05d"), looks := true }, kinds := [], alts := [], laidByText := true, laidKinds := [.data, .data], laidTests := true, laidLooks := .later }
def WholeValuesUptoCardSaid : Prop := Claim7.holds Tryz.pinned (.plain (OpenSpec.upto wholeValuesSpec)) wholeValuesUptoCard

/-- THE SECOND FORM's CARD OF 'gimballaw24.EigWants'. -/
def eigWantsUptoCard : Claim7 := { stood := { row := eigWantsUptoRow, standIns := [], harness := (true, "c54c437ca1bc1457bd8ee0e24dbb4c71bd9f9da75a9d0cb1f09d00fa1538b05d"), looks := true }, kinds := [], alts := [], laidByText := true, laidKinds := [.data, .data], laidTests := true, laidLooks := .later }
def EigWantsUptoCardSaid : Prop := Claim7.holds Tryz.pinned (.plain (OpenSpec.upto eigWantsSpec)) eigWantsUptoCard

/-- THE SECOND FORM's CARD OF 'gimballaw24.EigRests'. -/
def eigRestsUptoCard : Claim7 := { stood := { row := eigRestsUptoRow, standIns := [], harness := (true, "c54c437ca1bc1457bd8ee0e24dbb4c71bd9f9da75a9d0cb1f09d00fa1538b05d"), looks := true }, kinds := [], alts := [], laidByText := true, laidKinds := [.data, .data], laidTests := true, laidLooks := .later }
def EigRestsUptoCardSaid : Prop := Claim7.holds Tryz.pinned (.plain (OpenSpec.upto eigRestsSpec)) eigRestsUptoCard

/-- THE SECOND FORM's CARD OF 'gimbaltop.WholeApart'. -/
def wholeApartUptoCard : Claim7 := { stood := { row := wholeApartUptoRow, standIns := [], harness := (true, "c54c437ca1bc1457bd8ee0e24dbb4c71bd9f9da75a9d0cb1f09d00fa1538b05d"), looks := true }, kinds := [], alts := [], laidByText := true, laidKinds := [.data, .data], laidTests := true, laidLooks := .later }
def WholeApartUptoCardSaid : Prop := Claim7.holds Tryz.pinned (.plain (OpenSpec.upto wholeApartSpec)) wholeApartUptoCard

/-- THE SECOND FORM's CARD OF 'gimballaw24.EigBacks'. -/
def eigBacksUptoCard : Claim7 := { stood := { row := eigBacksUptoRow, standIns := [], harness := (true, "c54c437ca1bc1457bd8ee0e24dbb4c71bd9f9da75a9d0cb1f09d00fa1538b05d"), looks := true }, kinds := [], alts := [], laidByText := true, laidKinds := [.data, .data], laidTests := true, laidLooks := .later }
def EigBacksUptoCardSaid : Prop := Claim7.holds Tryz.pinned (.plain (OpenSpec.upto eigBacksSpec)) eigBacksUptoCard

/-- THE SECOND FORM's CARD OF 'gimballaw24.EigShapes'. -/
def eigShapesUptoCard : Claim7 := { stood := { row := eigShapesUptoRow, standIns := [], harness := (true, "c54c437ca1bc1457bd8ee0e24dbb4c71bd9f9da75a9d0cb1f09d00fa1538b05d"), looks := true }, kinds := [], alts := [], laidByText := true, laidKinds := [.data, .data], laidTests := true, laidLooks := .later }
def EigShapesUptoCardSaid : Prop := Claim7.holds Tryz.pinned (.plain (OpenSpec.upto eigShapesSpec)) eigShapesUptoCard

/-- THE SECOND FORM's CARD OF 'gimballaw24.EigTexts'. -/
def eigTextsUptoCard : Claim7 := { stood := { row := eigTextsUptoRow, standIns := [], harness := (true, "c54c437ca1bc1457bd8ee0e24dbb4c71bd9f9da75a9d0cb1f09d00fa1538b05d"), looks := true }, kinds := [], alts := [], laidByText := true, laidKinds := [.data, .data, .data, .data, .sentinel, .sentinel, .data, .pinned], laidTests := true, laidLooks := .later }
def EigTextsUptoCardSaid : Prop := Claim7.holds Tryz.pinned (.plain (OpenSpec.upto eigTextsSpec)) eigTextsUptoCard

/-- THE SECOND FORM's CARD OF 'gimbaltop.WholeStatus'. -/
def wholeStatusUptoCard : Claim7 := { stood := { row := wholeStatusUptoRow, standIns := [], harness := (true, "c54c437ca1bc1457bd8ee0e24dbb4c71bd9f9da75a9d0cb1f09d00fa1538b05d"), looks := true }, kinds := [], alts := [], laidByText := true, laidKinds := [.data, .data], laidTests := true, laidLooks := .later }
def WholeStatusUptoCardSaid : Prop := Claim7.holds Tryz.pinned (.plain (OpenSpec.upto wholeStatusSpec)) wholeStatusUptoCard

/-- THE SECOND FORM's CARD OF 'gimbaltop.WholeSame'. -/
def wholeSameUptoCard : Claim7 := { stood := { row := wholeSameUptoRow, standIns := [], harness := (true, "c54c437ca1bc1457bd8ee0e24dbb4c71bd9f9da75a9d0cb1f09d00fa1538b05d"), looks := true }, kinds := [], alts := [], laidByText := true, laidKinds := [.data, .data], laidTests := true, laidLooks := .later }
def WholeSameUptoCardSaid : Prop := Claim7.holds Tryz.pinned (.plain (OpenSpec.upto wholeSameSpec)) wholeSameUptoCard

/-- THE SECOND FORM's CARD OF 'gimbaltop.WholeTexts'. -/
def wholeTextsUptoCard : Claim7 := { stood := { row := wholeTextsUptoRow, standIns := [], harness := (true, "c54c437ca1bc1457bd8ee0e24dbb4c71bd9f9da75a9d0cb1f09d00fa1538b05d"), looks := true }, kinds := [], alts := [], laidByText := true, laidKinds := [.data, .data, .data, .data, .sentinel, .sentinel, .data, .pinned], laidTests := true, laidLooks := .later }
def WholeTextsUptoCardSaid : Prop := Claim7.holds Tryz.pinned (.plain (OpenSpec.upto wholeTextsSpec)) wholeTextsUptoCard
end Rows
end Go.Proofs.YtjbacabjgdfmdaaGreatDoor
