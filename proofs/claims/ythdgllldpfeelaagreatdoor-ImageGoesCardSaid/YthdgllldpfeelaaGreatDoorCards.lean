/-
  DERIVED. GIVEN WITH THE SEED: THE CARDS: each row of YthdgllldpfeelaaGreatDoorRows.lean that lists a variable, with what it lists TIED to the program's text (the seventh form; the later family's looks); each row that meets fmt, with fmt's text TOLD by the authors' own Lean function (tested against real Go, not proved from fmt's source: count such statements apart). THE CARD IS WHAT COUNTS. Prove the row's statement (the work); the ties are given (YthdgllldpfeelaaGreatDoorTie.lean); close each card by the builder's one call (the guide's Derived/Test/ToyasCard.lean, 'card_holds'). Laid BY PROGRAM, IN A SANDBOX (cutbox-door.mjs). By AI agents, Wed Nov 11 2026. No macro, syntax, notation, axiom, sorry.
-/
import Derived.Test.YthdgllldpfeelaaGreatDoorRows
import GoSem.ClaimSeven
namespace Go.Proofs.YthdgllldpfeelaaGreatDoor
namespace Rows

/-- THE TIED CARD OF 'scriniumlaw21.ImageDiffs'. -/
def imageDiffsCard : Claim7 := { stood := { row := imageDiffsRow, standIns := [], harness := (true, "4728652250e1dd427ae5ce17f7baaee17cf684d005365336ae4ea9c605131ec5"), looks := false }, kinds := [], alts := [], laidByText := true, laidKinds := [.data, .data, .data, .data], laidTests := true, laidLooks := .later }
def ImageDiffsCardSaid : Prop := Claim7.holds Tryz.pinned (.plain (OpenSpec.ofChange imageDiffsSpec)) imageDiffsCard

/-- THE TIED CARD OF 'scriniumlaw21.ImageGoes'. -/
def imageGoesCard : Claim7 := { stood := { row := imageGoesRow, standIns := [], harness := (true, "4728652250e1dd427ae5ce17f7baaee17cf684d005365336ae4ea9c605131ec5"), looks := false }, kinds := [], alts := [], laidByText := true, laidKinds := [.data, .data, .data, .data], laidTests := true, laidLooks := .later }
def ImageGoesCardSaid : Prop := Claim7.holds Tryz.pinned (.plain (OpenSpec.ofChange imageGoesSpec)) imageGoesCard

/-- THE TIED CARD OF 'scriniumlaw21.ImageSteps'. -/
def imageStepsCard : Claim7 := { stood := { row := imageStepsRow, standIns := [], harness := (true, "4728652250e1dd427ae5ce17f7baaee17cf684d005365336ae4ea9c605131ec5"), looks := false }, kinds := [], alts := [], laidByText := true, laidKinds := [.data, .data, .data, .data], laidTests := true, laidLooks := .later }
def ImageStepsCardSaid : Prop := Claim7.holds Tryz.pinned (.plain (OpenSpec.ofChange imageStepsSpec)) imageStepsCard

/-- THE TIED CARD OF 'scriniumlaw21.ImageFiles'. -/
def imageFilesCard : Claim7 := { stood := { row := imageFilesRow, standIns := [], harness := (true, "4728652250e1dd427ae5ce17f7baaee17cf684d005365336ae4ea9c605131ec5"), looks := false }, kinds := [], alts := [], laidByText := true, laidKinds := [.data, .data, .data, .data], laidTests := true, laidLooks := .later }
def ImageFilesCardSaid : Prop := Claim7.holds Tryz.pinned (.plain (OpenSpec.ofChange imageFilesSpec)) imageFilesCard

/-- THE TIED CARD OF 'scriniumlaw21.ImageLoads'. -/
def imageLoadsCard : Claim7 := { stood := { row := imageLoadsRow, standIns := [], harness := (true, "4728652250e1dd427ae5ce17f7baaee17cf684d005365336ae4ea9c605131ec5"), looks := false }, kinds := [], alts := [], laidByText := true, laidKinds := [.data, .data, .data, .data], laidTests := true, laidLooks := .later }
def ImageLoadsCardSaid : Prop := Claim7.holds Tryz.pinned (.plain (OpenSpec.ofChange imageLoadsSpec)) imageLoadsCard

/-- THE TIED CARD OF 'scriniumlaw21.ImageLives'. -/
def imageLivesCard : Claim7 := { stood := { row := imageLivesRow, standIns := [], harness := (true, "4728652250e1dd427ae5ce17f7baaee17cf684d005365336ae4ea9c605131ec5"), looks := false }, kinds := [], alts := [], laidByText := true, laidKinds := [.data, .data, .data, .data], laidTests := true, laidLooks := .later }
def ImageLivesCardSaid : Prop := Claim7.holds Tryz.pinned (.plain (OpenSpec.ofChange imageLivesSpec)) imageLivesCard

/-- THE SECOND FORM's CARD OF 'scriniumlaw21.ImageDiffs'. -/
def imageDiffsUptoCard : Claim7 := { stood := { row := imageDiffsUptoRow, standIns := [], harness := (true, "4728652250e1dd427ae5ce17f7baaee17cf684d005365336ae4ea9c605131ec5"), looks := false }, kinds := [], alts := [], laidByText := true, laidKinds := [.data, .data, .data, .data], laidTests := true, laidLooks := .later }
def ImageDiffsUptoCardSaid : Prop := Claim7.holds Tryz.pinned (.plain (OpenSpec.upto imageDiffsSpec)) imageDiffsUptoCard

/-- THE SECOND FORM's CARD OF 'scriniumlaw21.ImageGoes'. -/
def imageGoesUptoCard : Claim7 := { stood := { row := imageGoesUptoRow, standIns := [], harness := (true, "4728652250e1dd427ae5ce17f7baaee17cf684d005365336ae4ea9c605131ec5"), looks := false }, kinds := [], alts := [], laidByText := true, laidKinds := [.data, .data, .data, .data], laidTests := true, laidLooks := .later }
def ImageGoesUptoCardSaid : Prop := Claim7.holds Tryz.pinned (.plain (OpenSpec.upto imageGoesSpec)) imageGoesUptoCard

/-- THE SECOND FORM's CARD OF 'scriniumlaw21.ImageSteps'. -/
def imageStepsUptoCard : Claim7 := { stood := { row := imageStepsUptoRow, standIns := [], harness := (true, "4728652250e1dd427ae5ce17f7baaee17cf684d005365336ae4ea9c605131ec5"), looks := false }, kinds := [], alts := [], laidByText := true, laidKinds := [.data, .data, .data, .data], laidTests := true, laidLooks := .later }
def ImageStepsUptoCardSaid : Prop := Claim7.holds Tryz.pinned (.plain (OpenSpec.upto imageStepsSpec)) imageStepsUptoCard

/-- THE SECOND FORM's CARD OF 'scriniumlaw21.ImageFiles'. -/
def imageFilesUptoCard : Claim7 := { stood := { row := imageFilesUptoRow, standIns := [], harness := (true, "4728652250e1dd427ae5ce17f7baaee17cf684d005365336ae4ea9c605131ec5"), looks := false }, kinds := [], alts := [], laidByText := true, laidKinds := [.data, .data, .data, .data], laidTests := true, laidLooks := .later }
def ImageFilesUptoCardSaid : Prop := Claim7.holds Tryz.pinned (.plain (OpenSpec.upto imageFilesSpec)) imageFilesUptoCard

/-- THE SECOND FORM's CARD OF 'scriniumlaw21.ImageLoads'. -/
def imageLoadsUptoCard : Claim7 := { stood := { row := imageLoadsUptoRow, standIns := [], harness := (true, "4728652250e1dd427ae5ce17f7baaee17cf684d005365336ae4ea9c605131ec5"), looks := false }, kinds := [], alts := [], laidByText := true, laidKinds := [.data, .data, .data, .data], laidTests := true, laidLooks := .later }
def ImageLoadsUptoCardSaid : Prop := Claim7.holds Tryz.pinned (.plain (OpenSpec.upto imageLoadsSpec)) imageLoadsUptoCard

/-- THE SECOND FORM's CARD OF 'scriniumlaw21.ImageLives'. -/
def imageLivesUptoCard : Claim7 := { stood := { row := imageLivesUptoRow, standIns := [], harness := (true, "4728652250e1dd427ae5ce17f7baaee17cf684d005365336ae4ea9c605131ec5"), looks := false }, kinds := [], alts := [], laidByText := true, laidKinds := [.data, .data, .data, .data], laidTests := true, laidLooks := .later }
def ImageLivesUptoCardSaid : Prop := Claim7.holds Tryz.pinned (.plain (OpenSpec.upto imageLivesSpec)) imageLivesUptoCard
end Rows
end Go.Proofs.YthdgllldpfeelaaGreatDoor
