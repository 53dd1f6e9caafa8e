/-
  DERIVED. GIVEN WITH THE SEED: THE CARDS: each row of YtlepjakmadlkjaaGreatDoorRows.lean that lists a variable, with what it lists TIED to the program's text (the seventh form; the later family's looks); each row that meets fmt, with fmt's text TOLD by the authors' own Lean function (tested against real Go, not proved from fmt's source: count such statements apart). THE CARD IS WHAT COUNTS. Prove the row's statement (the work); the ties are given (YtlepjakmadlkjaaGreatDoorTie.lean); close each card by the builder's one call (the guide's Derived/Test/ToyasCard.lean, 'card_holds'). Laid BY PROGRAM, IN A SANDBOX (cutbox-door.mjs). By AI agents, Wed Nov 11 2026. No macro, syntax, notation, axiom, sorry.
-/
import Derived.Test.YtlepjakmadlkjaaGreatDoorRows
import GoSem.ClaimSeven
namespace Go.Proofs.YtlepjakmadlkjaaGreatDoor
namespace Rows

/-- THE TIED CARD OF 'scriniumlaw20.VaultKeeps'. -/
def vaultKeepsCard : Claim7 := { stood := { row := vaultKeepsRow, standIns := [], harness := (true, "bdc5196e3f663067f7f6b5a0d7802f18ddb89e279428c154d2e37a666e5f7c10"), looks := false }, kinds := [], alts := [], laidByText := true, laidKinds := [.data], laidTests := true, laidLooks := .later }
def VaultKeepsCardSaid : Prop := Claim7.holds Tryz.pinned (.plain (OpenSpec.ofChange vaultKeepsSpec)) vaultKeepsCard

/-- THE TIED CARD OF 'scriniumlaw20.VaultHeads'. -/
def vaultHeadsCard : Claim7 := { stood := { row := vaultHeadsRow, standIns := [], harness := (true, "bdc5196e3f663067f7f6b5a0d7802f18ddb89e279428c154d2e37a666e5f7c10"), looks := false }, kinds := [], alts := [], laidByText := true, laidKinds := [.data], laidTests := true, laidLooks := .later }
def VaultHeadsCardSaid : Prop := Claim7.holds Tryz.pinned (.plain (OpenSpec.ofChange vaultHeadsSpec)) vaultHeadsCard

/-- THE TIED CARD OF 'scriniumlaw20.VaultCites'. -/
def vaultCitesCard : Claim7 := { stood := { row := vaultCitesRow, standIns := [], harness := (true, "bdc5196e3f663067f7f6b5a0d7802f18ddb89e279428c154d2e37a666e5f7c10"), looks := false }, kinds := [], alts := [], laidByText := true, laidKinds := [.data], laidTests := true, laidLooks := .later }
def VaultCitesCardSaid : Prop := Claim7.holds Tryz.pinned (.plain (OpenSpec.ofChange vaultCitesSpec)) vaultCitesCard

/-- THE TIED CARD OF 'scriniumlaw20.VaultEnds'. -/
def vaultEndsCard : Claim7 := { stood := { row := vaultEndsRow, standIns := [], harness := (true, "bdc5196e3f663067f7f6b5a0d7802f18ddb89e279428c154d2e37a666e5f7c10"), looks := false }, kinds := [], alts := [], laidByText := true, laidKinds := [.data], laidTests := true, laidLooks := .later }
def VaultEndsCardSaid : Prop := Claim7.holds Tryz.pinned (.plain (OpenSpec.ofChange vaultEndsSpec)) vaultEndsCard

/-- THE TIED CARD OF 'scriniumlaw20.VaultLasts'. -/
def vaultLastsCard : Claim7 := { stood := { row := vaultLastsRow, standIns := [], harness := (true, "bdc5196e3f663067f7f6b5a0d7802f18ddb89e279428c154d2e37a666e5f7c10"), looks := false }, kinds := [], alts := [], laidByText := true, laidKinds := [.data], laidTests := true, laidLooks := .later }
def VaultLastsCardSaid : Prop := Claim7.holds Tryz.pinned (.plain (OpenSpec.ofChange vaultLastsSpec)) vaultLastsCard

/-- THE TIED CARD OF 'scriniumlaw20.VaultAsks'. -/
def vaultAsksCard : Claim7 := { stood := { row := vaultAsksRow, standIns := [], harness := (true, "bdc5196e3f663067f7f6b5a0d7802f18ddb89e279428c154d2e37a666e5f7c10"), looks := false }, kinds := [], alts := [], laidByText := true, laidKinds := [.data], laidTests := true, laidLooks := .later }
def VaultAsksCardSaid : Prop := Claim7.holds Tryz.pinned (.plain (OpenSpec.ofChange vaultAsksSpec)) vaultAsksCard

/-- THE TIED CARD OF 'scriniumlaw20.VaultPlays'. -/
def vaultPlaysCard : Claim7 := { stood := { row := vaultPlaysRow, standIns := [], harness := (true, "bdc5196e3f663067f7f6b5a0d7802f18ddb89e279428c154d2e37a666e5f7c10"), looks := false }, kinds := [], alts := [], laidByText := true, laidKinds := [.data], laidTests := true, laidLooks := .later }
def VaultPlaysCardSaid : Prop := Claim7.holds Tryz.pinned (.plain (OpenSpec.ofChange vaultPlaysSpec)) vaultPlaysCard

/-- THE TIED CARD OF 'scriniumlaw20.VaultLoads'. -/
def vaultLoadsCard : Claim7 := { stood := { row := vaultLoadsRow, standIns := [], harness := (true, "bdc5196e3f663067f7f6b5a0d7802f18ddb89e279428c154d2e37a666e5f7c10"), looks := false }, kinds := [], alts := [], laidByText := true, laidKinds := [.data], laidTests := true, laidLooks := .later }
def VaultLoadsCardSaid : Prop := Claim7.holds Tryz.pinned (.plain (OpenSpec.ofChange vaultLoadsSpec)) vaultLoadsCard

/-- THE TIED CARD OF 'scriniumlaw20.VaultNil'. -/
def vaultNilCard : Claim7 := { stood := { row := vaultNilRow, standIns := [], harness := (true, "bdc5196e3f663067f7f6b5a0d7802f18ddb89e279428c154d2e37a666e5f7c10"), looks := false }, kinds := [], alts := [], laidByText := true, laidKinds := [.data], laidTests := true, laidLooks := .later }
def VaultNilCardSaid : Prop := Claim7.holds Tryz.pinned (.plain (OpenSpec.ofChange vaultNilSpec)) vaultNilCard

/-- THE SECOND FORM's CARD OF 'scriniumlaw20.VaultKeeps'. -/
def vaultKeepsUptoCard : Claim7 := { stood := { row := vaultKeepsUptoRow, standIns := [], harness := (true, "bdc5196e3f663067f7f6b5a0d7802f18ddb89e279428c154d2e37a666e5f7c10"), looks := false }, kinds := [], alts := [], laidByText := true, laidKinds := [.data], laidTests := true, laidLooks := .later }
def VaultKeepsUptoCardSaid : Prop := Claim7.holds Tryz.pinned (.plain (OpenSpec.upto vaultKeepsSpec)) vaultKeepsUptoCard

/-- THE SECOND FORM's CARD OF 'scriniumlaw20.VaultHeads'. -/
def vaultHeadsUptoCard : Claim7 := { stood := { row := vaultHeadsUptoRow, standIns := [], harness := (true, "bdc5196e3f663067f7f6b5a0d7802f18ddb89e279428c154d2e37a666e5f7c10"), looks := false }, kinds := [], alts := [], laidByText := true, laidKinds := [.data], laidTests := true, laidLooks := .later }
def VaultHeadsUptoCardSaid : Prop := Claim7.holds Tryz.pinned (.plain (OpenSpec.upto vaultHeadsSpec)) vaultHeadsUptoCard

/-- THE SECOND FORM's CARD OF 'scriniumlaw20.VaultCites'. -/
def vaultCitesUptoCard : Claim7 := { stood := { row := vaultCitesUptoRow, standIns := [], harness := (true, "bdc5196e3f663067f7f6b5a0d7802f18ddb89e279428c154d2e37a666e5f7c10"), looks := false }, kinds := [], alts := [], laidByText := true, laidKinds := [.data], laidTests := true, laidLooks := .later }
def VaultCitesUptoCardSaid : Prop := Claim7.holds Tryz.pinned (.plain (OpenSpec.upto vaultCitesSpec)) vaultCitesUptoCard

/-- THE SECOND FORM's CARD OF 'scriniumlaw20.VaultEnds'. -/
def vaultEndsUptoCard : Claim7 := { stood := { row := vaultEndsUptoRow, standIns := [], harness := (true, "bdc5196e3f663067f7f6b5a0d7802f18ddb89e279428c154d2e37a666e5f7c10"), looks := false }, kinds := [], alts := [], laidByText := true, laidKinds := [.data], laidTests := true, laidLooks := .later }
def VaultEndsUptoCardSaid : Prop := Claim7.holds Tryz.pinned (.plain (OpenSpec.upto vaultEndsSpec)) vaultEndsUptoCard

/-- THE SECOND FORM's CARD OF 'scriniumlaw20.VaultLasts'. -/
def vaultLastsUptoCard : Claim7 := { stood := { row := vaultLastsUptoRow, standIns := [], harness := (true, "bdc5196e3f663067f7f6b5a0d7802f18ddb89e279428c154d2e37a666e5f7c10"), looks := false }, kinds := [], alts := [], laidByText := true, laidKinds := [.data], laidTests := true, laidLooks := .later }
def VaultLastsUptoCardSaid : Prop := Claim7.holds Tryz.pinned (.plain (OpenSpec.upto vaultLastsSpec)) vaultLastsUptoCard

/-- THE SECOND FORM's CARD OF 'scriniumlaw20.VaultAsks'. -/
def vaultAsksUptoCard : Claim7 := { stood := { row := vaultAsksUptoRow, standIns := [], harness := (true, "bdc5196e3f663067f7f6b5a0d7802f18ddb89e279428c154d2e37a666e5f7c10"), looks := false }, kinds := [], alts := [], laidByText := true, laidKinds := [.data], laidTests := true, laidLooks := .later }
def VaultAsksUptoCardSaid : Prop := Claim7.holds Tryz.pinned (.plain (OpenSpec.upto vaultAsksSpec)) vaultAsksUptoCard

/-- THE SECOND FORM's CARD OF 'scriniumlaw20.VaultPlays'. -/
def vaultPlaysUptoCard : Claim7 := { stood := { row := vaultPlaysUptoRow, standIns := [], harness := (true, "bdc5196e3f663067f7f6b5a0d7802f18ddb89e279428c154d2e37a666e5f7c10"), looks := false }, kinds := [], alts := [], laidByText := true, laidKinds := [.data], laidTests := true, laidLooks := .later }
def VaultPlaysUptoCardSaid : Prop := Claim7.holds Tryz.pinned (.plain (OpenSpec.upto vaultPlaysSpec)) vaultPlaysUptoCard

/-- THE SECOND FORM's CARD OF 'scriniumlaw20.VaultLoads'. -/
def vaultLoadsUptoCard : Claim7 := { stood := { row := vaultLoadsUptoRow, standIns := [], harness := (true, "bdc5196e3f663067f7f6b5a0d7802f18ddb89e279428c154d2e37a666e5f7c10"), looks := false }, kinds := [], alts := [], laidByText := true, laidKinds := [.data], laidTests := true, laidLooks := .later }
def VaultLoadsUptoCardSaid : Prop := Claim7.holds Tryz.pinned (.plain (OpenSpec.upto vaultLoadsSpec)) vaultLoadsUptoCard

/-- THE SECOND FORM's CARD OF 'scriniumlaw20.VaultNil'. -/
def vaultNilUptoCard : Claim7 := { stood := { row := vaultNilUptoRow, standIns := [], harness := (true, "bdc5196e3f663067f7f6b5a0d7802f18ddb89e279428c154d2e37a666e5f7c10"), looks := false }, kinds := [], alts := [], laidByText := true, laidKinds := [.data], laidTests := true, laidLooks := .later }
def VaultNilUptoCardSaid : Prop := Claim7.holds Tryz.pinned (.plain (OpenSpec.upto vaultNilSpec)) vaultNilUptoCard
end Rows
end Go.Proofs.YtlepjakmadlkjaaGreatDoor
