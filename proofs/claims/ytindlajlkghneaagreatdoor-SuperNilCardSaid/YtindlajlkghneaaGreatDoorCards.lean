/-
  DERIVED. GIVEN WITH THE SEED: THE CARDS: each row of YtindlajlkghneaaGreatDoorRows.lean that lists a variable, with what it lists TIED to the program's text (the seventh form; the later family's looks); each row that meets fmt, with fmt's text TOLD by the authors' own Lean function (tested against real Go, not proved from fmt's source: count such statements apart). THE CARD IS WHAT COUNTS. Prove the row's statement (the work); the ties are given (YtindlajlkghneaaGreatDoorTie.lean); close each card by the builder's one call (the guide's Derived/Test/ToyasCard.lean, 'card_holds'). Laid BY PROGRAM, IN A SANDBOX (cutbox-door.mjs). By AI agents, Wed Nov 11 2026. No macro, syntax, notation, axiom, sorry.
-/
import Derived.Test.YtindlajlkghneaaGreatDoorRows
import GoSem.ClaimSeven
namespace Go.Proofs.YtindlajlkghneaaGreatDoor
namespace Rows

/-- THE TIED CARD OF 'scriniumlaw18.SuperGoes'. -/
def superGoesCard : Claim7 := { stood := { row := superGoesRow, standIns := [], harness := (true, "43b0bea82ce76a0ef3a4456fabebdef4b647882d7c32918232e194a849765791"), looks := false }, kinds := [], alts := [], laidByText := true, laidKinds := [.data], laidTests := true, laidLooks := .later }
def SuperGoesCardSaid : Prop := Claim7.holds Tryz.pinned (.plain (OpenSpec.ofChange superGoesSpec)) superGoesCard

/-- THE TIED CARD OF 'scriniumlaw18.SuperPlays'. -/
def superPlaysCard : Claim7 := { stood := { row := superPlaysRow, standIns := [], harness := (true, "43b0bea82ce76a0ef3a4456fabebdef4b647882d7c32918232e194a849765791"), looks := false }, kinds := [], alts := [], laidByText := true, laidKinds := [.data], laidTests := true, laidLooks := .later }
def SuperPlaysCardSaid : Prop := Claim7.holds Tryz.pinned (.plain (OpenSpec.ofChange superPlaysSpec)) superPlaysCard

/-- THE TIED CARD OF 'scriniumlaw18.SuperNil'. -/
def superNilCard : Claim7 := { stood := { row := superNilRow, standIns := [], harness := (true, "43b0bea82ce76a0ef3a4456fabebdef4b647882d7c32918232e194a849765791"), looks := false }, kinds := [], alts := [], laidByText := true, laidKinds := [.data], laidTests := true, laidLooks := .later }
def SuperNilCardSaid : Prop := Claim7.holds Tryz.pinned (.plain (OpenSpec.ofChange superNilSpec)) superNilCard

/-- THE SECOND FORM's CARD OF 'scriniumlaw18.SuperGoes'. -/
def superGoesUptoCard : Claim7 := { stood := { row := superGoesUptoRow, standIns := [], harness := (true, "43b0bea82ce76a0ef3a4456fabebdef4b647882d7c32918232e194a849765791"), looks := false }, kinds := [], alts := [], laidByText := true, laidKinds := [.data], laidTests := true, laidLooks := .later }
def SuperGoesUptoCardSaid : Prop := Claim7.holds Tryz.pinned (.plain (OpenSpec.upto superGoesSpec)) superGoesUptoCard

/-- THE SECOND FORM's CARD OF 'scriniumlaw18.SuperPlays'. -/
def superPlaysUptoCard : Claim7 := { stood := { row := superPlaysUptoRow, standIns := [], harness := (true, "43b0bea82ce76a0ef3a4456fabebdef4b647882d7c32918232e194a849765791"), looks := false }, kinds := [], alts := [], laidByText := true, laidKinds := [.data], laidTests := true, laidLooks := .later }
def SuperPlaysUptoCardSaid : Prop := Claim7.holds Tryz.pinned (.plain (OpenSpec.upto superPlaysSpec)) superPlaysUptoCard

/-- THE SECOND FORM's CARD OF 'scriniumlaw18.SuperNil'. -/
def superNilUptoCard : Claim7 := { stood := { row := superNilUptoRow, standIns := [], harness := (true, "43b0bea82ce76a0ef3a4456fabebdef4b647882d7c32918232e194a849765791"), looks := false }, kinds := [], alts := [], laidByText := true, laidKinds := [.data], laidTests := true, laidLooks := .later }
def SuperNilUptoCardSaid : Prop := Claim7.holds Tryz.pinned (.plain (OpenSpec.upto superNilSpec)) superNilUptoCard
end Rows
end Go.Proofs.YtindlajlkghneaaGreatDoor
