/-
  DERIVED. GIVEN WITH THE SEED: THE CARDS: each row of YtindlajlkghneaaDoorRows.lean that lists a variable, with what it lists TIED to the program's text (the seventh form; the later family's looks); each row that meets fmt, with fmt's text TOLD by the authors' own Lean function (tested against real Go, not proved from fmt's source: count such statements apart). THE CARD IS WHAT COUNTS. Prove the row's statement (the work); the ties are given (YtindlajlkghneaaDoorTie.lean); close each card by the builder's one call (the guide's Derived/Test/ToyasCard.lean, 'card_holds'). Laid BY PROGRAM, IN A SANDBOX (cutbox-door.mjs). By AI agents, Wed Nov 11 2026. No macro, syntax, notation, axiom, sorry.
-/
import Derived.Test.YtindlajlkghneaaDoorRows
import GoSem.ClaimSeven
namespace Go.Proofs.YtindlajlkghneaaDoor
namespace Rows

/-- THE TIED CARD OF 'scriniumlaw18.SuperRises'. -/
def superRisesCard : Claim7 := { stood := { row := superRisesRow, standIns := [], harness := (true, "4100bab21e7aa615c2ae173ae48bf099e9238f9b72c2c00872814fbc7ebc316f"), looks := false }, kinds := [], alts := [], laidByText := true, laidKinds := [.data], laidTests := true, laidLooks := .later }
def SuperRisesCardSaid : Prop := Claim7.holds Tryd.pinned (.plain (OpenSpec.ofChange superRisesSpec)) superRisesCard

/-- THE TIED CARD OF 'scriniumlaw18.SuperTells'. -/
def superTellsCard : Claim7 := { stood := { row := superTellsRow, standIns := [], harness := (true, "4100bab21e7aa615c2ae173ae48bf099e9238f9b72c2c00872814fbc7ebc316f"), looks := false }, kinds := [], alts := [], laidByText := true, laidKinds := [.data], laidTests := true, laidLooks := .later }
def SuperTellsCardSaid : Prop := Claim7.holds Tryd.pinned (.plain (OpenSpec.ofChange superTellsSpec)) superTellsCard

/-- THE TIED CARD OF 'scriniumlaw18.SuperLoads'. -/
def superLoadsCard : Claim7 := { stood := { row := superLoadsRow, standIns := [], harness := (true, "4100bab21e7aa615c2ae173ae48bf099e9238f9b72c2c00872814fbc7ebc316f"), looks := false }, kinds := [], alts := [], laidByText := true, laidKinds := [.data], laidTests := true, laidLooks := .later }
def SuperLoadsCardSaid : Prop := Claim7.holds Tryd.pinned (.plain (OpenSpec.ofChange superLoadsSpec)) superLoadsCard

/-- THE TIED CARD OF 'scriniumlaw18.SuperCopies'. -/
def superCopiesCard : Claim7 := { stood := { row := superCopiesRow, standIns := [], harness := (true, "4100bab21e7aa615c2ae173ae48bf099e9238f9b72c2c00872814fbc7ebc316f"), looks := false }, kinds := [], alts := [], laidByText := true, laidKinds := [.data], laidTests := true, laidLooks := .later }
def SuperCopiesCardSaid : Prop := Claim7.holds Tryd.pinned (.plain (OpenSpec.ofChange superCopiesSpec)) superCopiesCard

/-- THE SECOND FORM's CARD OF 'scriniumlaw18.SuperRises'. -/
def superRisesUptoCard : Claim7 := { stood := { row := superRisesUptoRow, standIns := [], harness := (true, "4100bab21e7aa615c2ae173ae48bf099e9238f9b72c2c00872814fbc7ebc316f"), looks := false }, kinds := [], alts := [], laidByText := true, laidKinds := [.data], laidTests := true, laidLooks := .later }
def SuperRisesUptoCardSaid : Prop := Claim7.holds Tryd.pinned (.plain (OpenSpec.upto superRisesSpec)) superRisesUptoCard

/-- THE SECOND FORM's CARD OF 'scriniumlaw18.SuperTells'. -/
def superTellsUptoCard : Claim7 := { stood := { row := superTellsUptoRow, standIns := [], harness := (true, "4100bab21e7aa615c2ae173ae48bf099e9238f9b72c2c00872814fbc7ebc316f"), looks := false }, kinds := [], alts := [], laidByText := true, laidKinds := [.data], laidTests := true, laidLooks := .later }
def SuperTellsUptoCardSaid : Prop := Claim7.holds Tryd.pinned (.plain (OpenSpec.upto superTellsSpec)) superTellsUptoCard

/-- THE SECOND FORM's CARD OF 'scriniumlaw18.SuperLoads'. -/
def superLoadsUptoCard : Claim7 := { stood := { row := superLoadsUptoRow, standIns := [], harness := (true, "4100bab21e7aa615c2ae173ae48bf099e9238f9b72c2c00872814fbc7ebc316f"), looks := false }, kinds := [], alts := [], laidByText := true, laidKinds := [.data], laidTests := true, laidLooks := .later }
def SuperLoadsUptoCardSaid : Prop := Claim7.holds Tryd.pinned (.plain (OpenSpec.upto superLoadsSpec)) superLoadsUptoCard

/-- THE SECOND FORM's CARD OF 'scriniumlaw18.SuperCopies'. -/
def superCopiesUptoCard : Claim7 := { stood := { row := superCopiesUptoRow, standIns := [], harness := (true, "4100bab21e7aa615c2ae173ae48bf099e9238f9b72c2c00872814fbc7ebc316f"), looks := false }, kinds := [], alts := [], laidByText := true, laidKinds := [.data], laidTests := true, laidLooks := .later }
def SuperCopiesUptoCardSaid : Prop := Claim7.holds Tryd.pinned (.plain (OpenSpec.upto superCopiesSpec)) superCopiesUptoCard
end Rows
end Go.Proofs.YtindlajlkghneaaDoor
