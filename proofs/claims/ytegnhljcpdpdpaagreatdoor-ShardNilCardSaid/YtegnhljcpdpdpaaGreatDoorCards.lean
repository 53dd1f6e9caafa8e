/-
  DERIVED. GIVEN WITH THE SEED: THE CARDS: each row of YtegnhljcpdpdpaaGreatDoorRows.lean that lists a variable, with what it lists TIED to the program's text (the seventh form; the later family's looks); each row that meets fmt, with fmt's text TOLD by the authors' own Lean function (tested against real Go, not proved from fmt's source: count such statements apart). THE CARD IS WHAT COUNTS. Prove the row's statement (the work); the ties are given (YtegnhljcpdpdpaaGreatDoorTie.lean); close each card by the builder's one call (the guide's Derived/Test/ToyasCard.lean, 'card_holds'). Laid BY PROGRAM, IN A SANDBOX (cutbox-door.mjs). By AI agents, Wed Nov 11 2026. No macro, syntax, notation, axiom, sorry.
-/
import Derived.Test.YtegnhljcpdpdpaaGreatDoorRows
import GoSem.ClaimSeven
namespace Go.Proofs.YtegnhljcpdpdpaaGreatDoor
namespace Rows

/-- THE TIED CARD OF 'scriniumlaw17.ShardLoads'. -/
def shardLoadsCard : Claim7 := { stood := { row := shardLoadsRow, standIns := [], harness := (true, "f942b1560620c6c49da53e1e3eb7f9f98922c327341ee714a053757ce2021500"), looks := false }, kinds := [], alts := [], laidByText := true, laidKinds := [.data], laidTests := true, laidLooks := .later }
def ShardLoadsCardSaid : Prop := Claim7.holds Tryz.pinned (.plain (OpenSpec.ofChange shardLoadsSpec)) shardLoadsCard

/-- THE TIED CARD OF 'scriniumlaw17.ShardProves'. -/
def shardProvesCard : Claim7 := { stood := { row := shardProvesRow, standIns := [], harness := (true, "f942b1560620c6c49da53e1e3eb7f9f98922c327341ee714a053757ce2021500"), looks := false }, kinds := [], alts := [], laidByText := true, laidKinds := [.data], laidTests := true, laidLooks := .later }
def ShardProvesCardSaid : Prop := Claim7.holds Tryz.pinned (.plain (OpenSpec.ofChange shardProvesSpec)) shardProvesCard

/-- THE TIED CARD OF 'scriniumlaw17.ShardLasts'. -/
def shardLastsCard : Claim7 := { stood := { row := shardLastsRow, standIns := [], harness := (true, "f942b1560620c6c49da53e1e3eb7f9f98922c327341ee714a053757ce2021500"), looks := false }, kinds := [], alts := [], laidByText := true, laidKinds := [.data], laidTests := true, laidLooks := .later }
def ShardLastsCardSaid : Prop := Claim7.holds Tryz.pinned (.plain (OpenSpec.ofChange shardLastsSpec)) shardLastsCard

/-- THE TIED CARD OF 'scriniumlaw17.ShardPlays'. -/
def shardPlaysCard : Claim7 := { stood := { row := shardPlaysRow, standIns := [], harness := (true, "f942b1560620c6c49da53e1e3eb7f9f98922c327341ee714a053757ce2021500"), looks := false }, kinds := [], alts := [], laidByText := true, laidKinds := [.data], laidTests := true, laidLooks := .later }
def ShardPlaysCardSaid : Prop := Claim7.holds Tryz.pinned (.plain (OpenSpec.ofChange shardPlaysSpec)) shardPlaysCard

/-- THE TIED CARD OF 'scriniumlaw17.ShardNil'. -/
def shardNilCard : Claim7 := { stood := { row := shardNilRow, standIns := [], harness := (true, "f942b1560620c6c49da53e1e3eb7f9f98922c327341ee714a053757ce2021500"), looks := false }, kinds := [], alts := [], laidByText := true, laidKinds := [.data], laidTests := true, laidLooks := .later }
def ShardNilCardSaid : Prop := Claim7.holds Tryz.pinned (.plain (OpenSpec.ofChange shardNilSpec)) shardNilCard

/-- THE SECOND FORM's CARD OF 'scriniumlaw17.ShardLoads'. -/
def shardLoadsUptoCard : Claim7 := { stood := { row := shardLoadsUptoRow, standIns := [], harness := (true, "f942b1560620c6c49da53e1e3eb7f9f98922c327341ee714a053757ce2021500"), looks := false }, kinds := [], alts := [], laidByText := true, laidKinds := [.data], laidTests := true, laidLooks := .later }
def ShardLoadsUptoCardSaid : Prop := Claim7.holds Tryz.pinned (.plain (OpenSpec.upto shardLoadsSpec)) shardLoadsUptoCard

/-- THE SECOND FORM's CARD OF 'scriniumlaw17.ShardProves'. -/
def shardProvesUptoCard : Claim7 := { stood := { row := shardProvesUptoRow, standIns := [], harness := (true, "f942b1560620c6c49da53e1e3eb7f9f98922c327341ee714a053757ce2021500"), looks := false }, kinds := [], alts := [], laidByText := true, laidKinds := [.data], laidTests := true, laidLooks := .later }
def ShardProvesUptoCardSaid : Prop := Claim7.holds Tryz.pinned (.plain (OpenSpec.upto shardProvesSpec)) shardProvesUptoCard

/-- THE SECOND FORM's CARD OF 'scriniumlaw17.ShardLasts'. -/
def shardLastsUptoCard : Claim7 := { stood := { row := shardLastsUptoRow, standIns := [], harness := (true, "f942b1560620c6c49da53e1e3eb7f9f98922c327341ee714a053757ce2021500"), looks := false }, kinds := [], alts := [], laidByText := true, laidKinds := [.data], laidTests := true, laidLooks := .later }
def ShardLastsUptoCardSaid : Prop := Claim7.holds Tryz.pinned (.plain (OpenSpec.upto shardLastsSpec)) shardLastsUptoCard

/-- THE SECOND FORM's CARD OF 'scriniumlaw17.ShardPlays'. -/
def shardPlaysUptoCard : Claim7 := { stood := { row := shardPlaysUptoRow, standIns := [], harness := (true, "f942b1560620c6c49da53e1e3eb7f9f98922c327341ee714a053757ce2021500"), looks := false }, kinds := [], alts := [], laidByText := true, laidKinds := [.data], laidTests := true, laidLooks := .later }
def ShardPlaysUptoCardSaid : Prop := Claim7.holds Tryz.pinned (.plain (OpenSpec.upto shardPlaysSpec)) shardPlaysUptoCard

/-- THE SECOND FORM's CARD OF 'scriniumlaw17.ShardNil'. -/
def shardNilUptoCard : Claim7 := { stood := { row := shardNilUptoRow, standIns := [], harness := (true, "f942b1560620c6c49da53e1e3eb7f9f98922c327341ee714a053757ce2021500"), looks := false }, kinds := [], alts := [], laidByText := true, laidKinds := [.data], laidTests := true, laidLooks := .later }
def ShardNilUptoCardSaid : Prop := Claim7.holds Tryz.pinned (.plain (OpenSpec.upto shardNilSpec)) shardNilUptoCard
end Rows
end Go.Proofs.YtegnhljcpdpdpaaGreatDoor
