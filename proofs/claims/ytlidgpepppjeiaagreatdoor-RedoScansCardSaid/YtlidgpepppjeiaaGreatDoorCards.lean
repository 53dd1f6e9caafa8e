/-
  DERIVED. GIVEN WITH THE SEED: THE CARDS: each row of YtlidgpepppjeiaaGreatDoorRows.lean that lists a variable, with what it lists TIED to the program's text (the seventh form; the later family's looks); each row that meets fmt, with fmt's text TOLD by the authors' own Lean function (tested against real Go, not proved from fmt's source: count such statements apart). THE CARD IS WHAT COUNTS. Prove the row's statement (the work); the ties are given (YtlidgpepppjeiaaGreatDoorTie.lean); close each card by the builder's one call (the guide's Derived/Test/ToyasCard.lean, 'card_holds'). Laid BY PROGRAM, IN A SANDBOX (cutbox-door.mjs). By AI agents, Wed Nov 11 2026. No macro, syntax, notation, axiom, sorry.
-/
import Derived.Test.YtlidgpepppjeiaaGreatDoorRows
import GoSem.ClaimSeven
namespace Go.Proofs.YtlidgpepppjeiaaGreatDoor
namespace Rows

/-- THE TIED CARD OF 'scriniumlaw07.RedoScans'. -/
def redoScansCard : Claim7 := { stood := { row := redoScansRow, standIns := [], harness := (true, "5b9d73cc863e7b39e7a46485f68feb1250d51860bfdf1868dea289f627c03cc3"), looks := false }, kinds := [], alts := [], laidByText := true, laidKinds := [.data], laidTests := true, laidLooks := .later }
def RedoScansCardSaid : Prop := Claim7.holds Tryz.pinned (.plain (OpenSpec.ofChange redoScansSpec)) redoScansCard

/-- THE SECOND FORM's CARD OF 'scriniumlaw07.RedoScans'. -/
def redoScansUptoCard : Claim7 := { stood := { row := redoScansUptoRow, standIns := [], harness := (true, "5b9d73cc863e7b39e7a46485f68feb1250d51860bfdf1868dea289f627c03cc3"), looks := false }, kinds := [], alts := [], laidByText := true, laidKinds := [.data], laidTests := true, laidLooks := .later }
def RedoScansUptoCardSaid : Prop := Claim7.holds Tryz.pinned (.plain (OpenSpec.upto redoScansSpec)) redoScansUptoCard
end Rows
end Go.Proofs.YtlidgpepppjeiaaGreatDoor
