/-
  DERIVED. GIVEN WITH THE SEED: THE CARDS: each row of YtegnhljcpdpdpaaDoorRows.lean that lists a variable, with what it lists TIED to the program's text (the seventh form; the later family's looks); each row that meets fmt, with fmt's text TOLD by the authors' own Lean function (tested against real Go, not proved from fmt's source: count such statements apart). THE CARD IS WHAT COUNTS. Prove the row's statement (the work); the ties are given (YtegnhljcpdpdpaaDoorTie.lean); close each card by the builder's one call (the guide's Derived/Test/ToyasCard.lean, 'card_holds'). Laid BY PROGRAM, IN A SANDBOX (cutbox-door.mjs). By AI agents, Wed Nov 11 2026. No macro, syntax, notation, axiom, sorry.
-/
import Derived.Test.YtegnhljcpdpdpaaDoorRows
import GoSem.ClaimSeven
namespace Go.Proofs.YtegnhljcpdpdpaaDoor
namespace Rows

/-- THE TIED CARD OF 'scriniumlaw17.ShardGives'. -/
def shardGivesCard : Claim7 := { stood := { row := shardGivesRow, standIns := [], harness := (true, "eb4c760b65b5f3dd88790133be7f13a6bcd9b760c8ad79adbc09cd87e2b1b125"), looks := false }, kinds := [], alts := [], laidByText := true, laidKinds := [.data], laidTests := true, laidLooks := .later }
def ShardGivesCardSaid : Prop := Claim7.holds Tryd.pinned (.plain (OpenSpec.ofChange shardGivesSpec)) shardGivesCard

/-- THE TIED CARD OF 'scriniumlaw17.ShardCopies'. -/
def shardCopiesCard : Claim7 := { stood := { row := shardCopiesRow, standIns := [], harness := (true, "eb4c760b65b5f3dd88790133be7f13a6bcd9b760c8ad79adbc09cd87e2b1b125"), looks := false }, kinds := [], alts := [], laidByText := true, laidKinds := [.data], laidTests := true, laidLooks := .later }
def ShardCopiesCardSaid : Prop := Claim7.holds Tryd.pinned (.plain (OpenSpec.ofChange shardCopiesSpec)) shardCopiesCard

/-- THE SECOND FORM's CARD OF 'scriniumlaw17.ShardGives'. -/
def shardGivesUptoCard : Claim7 := { stood := { row := shardGivesUptoRow, standIns := [], harness := (true, "eb4c760b65b5f3dd88790133be7f13a6bcd9b760c8ad79adbc09cd87e2b1b125"), looks := false }, kinds := [], alts := [], laidByText := true, laidKinds := [.data], laidTests := true, laidLooks := .later }
def ShardGivesUptoCardSaid : Prop := Claim7.holds Tryd.pinned (.plain (OpenSpec.upto shardGivesSpec)) shardGivesUptoCard

/-- THE SECOND FORM's CARD OF 'scriniumlaw17.ShardCopies'. -/
def shardCopiesUptoCard : Claim7 := { stood := { row := shardCopiesUptoRow, standIns := [], harness := (true, "eb4c760b65b5f3dd88790133be7f13a6bcd9b760c8ad79adbc09cd87e2b1b125"), looks := false }, kinds := [], alts := [], laidByText := true, laidKinds := [.data], laidTests := true, laidLooks := .later }
def ShardCopiesUptoCardSaid : Prop := Claim7.holds Tryd.pinned (.plain (OpenSpec.upto shardCopiesSpec)) shardCopiesUptoCard
end Rows
end Go.Proofs.YtegnhljcpdpdpaaDoor
