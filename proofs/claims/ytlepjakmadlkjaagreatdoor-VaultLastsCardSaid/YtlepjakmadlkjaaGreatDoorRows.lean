/-
  NARROWER THAN 'FOR EVERY INPUT', by the rows' own cells (each row's printed sentence says how): VaultKeeps: laid · VaultHeads: laid · VaultCites: laid · VaultEnds: laid · VaultLasts: laid · VaultAsks: laid · VaultPlays: laid · VaultLoads: laid · VaultNil: laid.
  DERIVED. THE GIVEN ROWS OF THIS SEAT. 9 by the template 'for every input the law returns true; each argument reads behind the call as it read before'; 0 by the template 'total and deterministic' (their statements: YtlepjakmadlkjaaGreatDoorTotals.lean).
  GIVEN WITH THE SEED: the statements are not yours to turn. If you find one false, say at which input.
  Laid BY PROGRAM, IN A SANDBOX (cutbox-rows.mjs): the forced cells as the released guide's own fill.sh prints them over the translation 9c4c2c37b541bbf3… (all of the seat's roots in one cut). By AI agents, Wed Nov 11 2026. No macro, syntax, notation, axiom, sorry.
-/
import Derived.Test.YtlepjakmadlkjaaGreatDoorChecked
import GoSem.Claim
import GoSem.ClaimJoined
import GoSem.ClaimMapViews
import Derived.JoinedTies
import Derived.KernelRfl
namespace Go.Proofs.YtlepjakmadlkjaaGreatDoor
/- THE CELL 'sum', in the pinned program and in every row, IS THE sha256 OF THE DUMP (.gsa) THAT YtlepjakmadlkjaaGreatDoorProg.lean LOADS. Nothing in Lean hashes anything: it is a label: what it is worth is what the hold of that sum in a sandbox is worth. -/
noncomputable def Tryz.pinned : Pinned := { name := "ytlepjakmadlkjaagreatdoor", sum := "9c4c2c37b541bbf35dc9ebef3f0b595f3459edbb5927e7ef0000ba87b60fb625", checked := Tryz.checked }
namespace Rows
def none {H : Type} : Left H := { results := [], args := [] }

/- WHAT THE LISTED PACKAGE-LEVEL VARIABLES READ AS WHEN THE CALL BEGINS. Each datum BY PROGRAM (the guide's laid-datum.mjs) off the statement by which the dump's own 'gosem.cut.vars' lays the variable. In a bare row this is a premise. The card (YtlepjakmadlkjaaGreatDoorCards.lean) ties it to the program's text. -/
def laid_scrinium_sha_keys {H : Type} : DataW H := .agg [.lit (.int .u32 1116352408), .lit (.int .u32 1899447441), .lit (.int .u32 3049323471), .lit (.int .u32 3921009573), .lit (.int .u32 961987163), .lit (.int .u32 1508970993), .lit (.int .u32 2453635748), .lit (.int .u32 2870763221), .lit (.int .u32 3624381080), .lit (.int .u32 310598401), .lit (.int .u32 607225278), .lit (.int .u32 1426881987), .lit (.int .u32 1925078388), .lit (.int .u32 2162078206), .lit (.int .u32 2614888103), .lit (.int .u32 3248222580), .lit (.int .u32 3835390401), .lit (.int .u32 4022224774), .lit (.int .u32 264347078), .lit (.int .u32 604807628), .lit (.int .u32 770255983), .lit (.int .u32 1249150122), .lit (.int .u32 1555081692), .lit (.int .u32 1996064986), .lit (.int .u32 2554220882), .lit (.int .u32 2821834349), .lit (.int .u32 2952996808), .lit (.int .u32 3210313671), .lit (.int .u32 3336571891), .lit (.int .u32 3584528711), .lit (.int .u32 113926993), .lit (.int .u32 338241895), .lit (.int .u32 666307205), .lit (.int .u32 773529912), .lit (.int .u32 1294757372), .lit (.int .u32 1396182291), .lit (.int .u32 1695183700), .lit (.int .u32 1986661051), .lit (.int .u32 2177026350), .lit (.int .u32 2456956037), .lit (.int .u32 2730485921), .lit (.int .u32 2820302411), .lit (.int .u32 3259730800), .lit (.int .u32 3345764771), .lit (.int .u32 3516065817), .lit (.int .u32 3600352804), .lit (.int .u32 4094571909), .lit (.int .u32 275423344), .lit (.int .u32 430227734), .lit (.int .u32 506948616), .lit (.int .u32 659060556), .lit (.int .u32 883997877), .lit (.int .u32 958139571), .lit (.int .u32 1322822218), .lit (.int .u32 1537002063), .lit (.int .u32 1747873779), .lit (.int .u32 1955562222), .lit (.int .u32 2024104815), .lit (.int .u32 2227730452), .lit (.int .u32 2361852424), .lit (.int .u32 2428436474), .lit (.int .u32 2756734187), .lit (.int .u32 3204031479), .lit (.int .u32 3329325298)]

/-- 'scriniumlaw20.VaultKeeps': WHATEVER THE INPUT: true; the input reads as it did. -/
def vaultKeepsSpec : ChangeSpec := { name := "vaultKeeps", fn := fun _ => fun
  | [d1, d2] => { results := [.lit (.bool true)], args := [d1, d2] }
  | _ => none }
def vaultKeepsRow : OpenClaim := { program := "ytlepjakmadlkjaagreatdoor", sum := "9c4c2c37b541bbf35dc9ebef3f0b595f3459edbb5927e7ef0000ba87b60fb625", func := "scrinium/scriniumlaw20.VaultKeeps", spec := "vaultKeeps", inPlace := ["internal/abi.NoEscape", "internal/bytealg.MakeNoZero", "slices.overlaps[scrinium/api.Sum]"], unfollowed := true, recurses := true, named := ["scrinium/sha.keys"], apart := false, laid := [("scrinium/sha.keys", laid_scrinium_sha_keys)] }
def VaultKeepsSaid : Prop := vaultKeepsRow.holds Tryz.pinned (OpenSpec.ofChange vaultKeepsSpec)

/-- ITS FALSE NEIGHBOUR: 'it returns false'. Refute it at one input. -/
def vaultKeepsWrong : ChangeSpec := { name := "vaultKeeps", fn := fun _ => fun
  | [d1, d2] => { results := [.lit (.bool false)], args := [d1, d2] }
  | _ => none }
def VaultKeepsWrongFalsely : Prop := vaultKeepsRow.holds Tryz.pinned (OpenSpec.ofChange vaultKeepsWrong)

/-- 'scriniumlaw20.VaultHeads': WHATEVER THE INPUT: true; the input reads as it did. -/
def vaultHeadsSpec : ChangeSpec := { name := "vaultHeads", fn := fun _ => fun
  | [d1, d2, d3] => { results := [.lit (.bool true)], args := [d1, d2, d3] }
  | _ => none }
def vaultHeadsRow : OpenClaim := { program := "ytlepjakmadlkjaagreatdoor", sum := "9c4c2c37b541bbf35dc9ebef3f0b595f3459edbb5927e7ef0000ba87b60fb625", func := "scrinium/scriniumlaw20.VaultHeads", spec := "vaultHeads", inPlace := ["internal/abi.NoEscape", "internal/bytealg.MakeNoZero", "slices.overlaps[scrinium/api.Sum]"], unfollowed := true, recurses := true, named := ["scrinium/sha.keys"], apart := false, laid := [("scrinium/sha.keys", laid_scrinium_sha_keys)] }
def VaultHeadsSaid : Prop := vaultHeadsRow.holds Tryz.pinned (OpenSpec.ofChange vaultHeadsSpec)

/-- ITS FALSE NEIGHBOUR: 'it returns false'. Refute it at one input. -/
def vaultHeadsWrong : ChangeSpec := { name := "vaultHeads", fn := fun _ => fun
  | [d1, d2, d3] => { results := [.lit (.bool false)], args := [d1, d2, d3] }
  | _ => none }
def VaultHeadsWrongFalsely : Prop := vaultHeadsRow.holds Tryz.pinned (OpenSpec.ofChange vaultHeadsWrong)

/-- 'scriniumlaw20.VaultCites': WHATEVER THE INPUT: true; the input reads as it did. -/
def vaultCitesSpec : ChangeSpec := { name := "vaultCites", fn := fun _ => fun
  | [d1, d2] => { results := [.lit (.bool true)], args := [d1, d2] }
  | _ => none }
def vaultCitesRow : OpenClaim := { program := "ytlepjakmadlkjaagreatdoor", sum := "9c4c2c37b541bbf35dc9ebef3f0b595f3459edbb5927e7ef0000ba87b60fb625", func := "scrinium/scriniumlaw20.VaultCites", spec := "vaultCites", inPlace := ["internal/abi.NoEscape", "internal/bytealg.MakeNoZero", "slices.overlaps[scrinium/api.Sum]"], unfollowed := true, recurses := true, named := ["scrinium/sha.keys"], apart := false, laid := [("scrinium/sha.keys", laid_scrinium_sha_keys)] }
def VaultCitesSaid : Prop := vaultCitesRow.holds Tryz.pinned (OpenSpec.ofChange vaultCitesSpec)

/-- ITS FALSE NEIGHBOUR: 'it returns false'. Refute it at one input. -/
def vaultCitesWrong : ChangeSpec := { name := "vaultCites", fn := fun _ => fun
  | [d1, d2] => { results := [.lit (.bool false)], args := [d1, d2] }
  | _ => none }
def VaultCitesWrongFalsely : Prop := vaultCitesRow.holds Tryz.pinned (OpenSpec.ofChange vaultCitesWrong)

/-- 'scriniumlaw20.VaultEnds': WHATEVER THE INPUT: true; the input reads as it did. -/
def vaultEndsSpec : ChangeSpec := { name := "vaultEnds", fn := fun _ => fun
  | [d1, d2] => { results := [.lit (.bool true)], args := [d1, d2] }
  | _ => none }
def vaultEndsRow : OpenClaim := { program := "ytlepjakmadlkjaagreatdoor", sum := "9c4c2c37b541bbf35dc9ebef3f0b595f3459edbb5927e7ef0000ba87b60fb625", func := "scrinium/scriniumlaw20.VaultEnds", spec := "vaultEnds", inPlace := ["internal/abi.NoEscape", "internal/bytealg.MakeNoZero", "slices.overlaps[scrinium/api.Sum]"], unfollowed := true, recurses := true, named := ["scrinium/sha.keys"], apart := false, laid := [("scrinium/sha.keys", laid_scrinium_sha_keys)] }
def VaultEndsSaid : Prop := vaultEndsRow.holds Tryz.pinned (OpenSpec.ofChange vaultEndsSpec)

/-- ITS FALSE NEIGHBOUR: 'it returns false'. Refute it at one input. -/
def vaultEndsWrong : ChangeSpec := { name := "vaultEnds", fn := fun _ => fun
  | [d1, d2] => { results := [.lit (.bool false)], args := [d1, d2] }
  | _ => none }
def VaultEndsWrongFalsely : Prop := vaultEndsRow.holds Tryz.pinned (OpenSpec.ofChange vaultEndsWrong)

/-- 'scriniumlaw20.VaultLasts': WHATEVER THE INPUT: true; the input reads as it did. -/
def vaultLastsSpec : ChangeSpec := { name := "vaultLasts", fn := fun _ => fun
  | [d1, d2, d3] => { results := [.lit (.bool true)], args := [d1, d2, d3] }
  | _ => none }
def vaultLastsRow : OpenClaim := { program := "ytlepjakmadlkjaagreatdoor", sum := "9c4c2c37b541bbf35dc9ebef3f0b595f3459edbb5927e7ef0000ba87b60fb625", func := "scrinium/scriniumlaw20.VaultLasts", spec := "vaultLasts", inPlace := ["internal/abi.NoEscape", "internal/bytealg.MakeNoZero", "slices.overlaps[scrinium/api.Sum]"], unfollowed := true, recurses := true, named := ["scrinium/sha.keys"], apart := false, laid := [("scrinium/sha.keys", laid_scrinium_sha_keys)] }
def VaultLastsSaid : Prop := vaultLastsRow.holds Tryz.pinned (OpenSpec.ofChange vaultLastsSpec)

/-- ITS FALSE NEIGHBOUR: 'it returns false'. Refute it at one input. -/
def vaultLastsWrong : ChangeSpec := { name := "vaultLasts", fn := fun _ => fun
  | [d1, d2, d3] => { results := [.lit (.bool false)], args := [d1, d2, d3] }
  | _ => none }
def VaultLastsWrongFalsely : Prop := vaultLastsRow.holds Tryz.pinned (OpenSpec.ofChange vaultLastsWrong)

/-- 'scriniumlaw20.VaultAsks': WHATEVER THE INPUT: true; the input reads as it did. -/
def vaultAsksSpec : ChangeSpec := { name := "vaultAsks", fn := fun _ => fun
  | [d1, d2, d3] => { results := [.lit (.bool true)], args := [d1, d2, d3] }
  | _ => none }
def vaultAsksRow : OpenClaim := { program := "ytlepjakmadlkjaagreatdoor", sum := "9c4c2c37b541bbf35dc9ebef3f0b595f3459edbb5927e7ef0000ba87b60fb625", func := "scrinium/scriniumlaw20.VaultAsks", spec := "vaultAsks", inPlace := ["internal/abi.NoEscape", "internal/bytealg.MakeNoZero", "slices.overlaps[scrinium/api.Sum]"], unfollowed := true, recurses := true, named := ["scrinium/sha.keys"], apart := false, laid := [("scrinium/sha.keys", laid_scrinium_sha_keys)] }
def VaultAsksSaid : Prop := vaultAsksRow.holds Tryz.pinned (OpenSpec.ofChange vaultAsksSpec)

/-- ITS FALSE NEIGHBOUR: 'it returns false'. Refute it at one input. -/
def vaultAsksWrong : ChangeSpec := { name := "vaultAsks", fn := fun _ => fun
  | [d1, d2, d3] => { results := [.lit (.bool false)], args := [d1, d2, d3] }
  | _ => none }
def VaultAsksWrongFalsely : Prop := vaultAsksRow.holds Tryz.pinned (OpenSpec.ofChange vaultAsksWrong)

/-- 'scriniumlaw20.VaultPlays': WHATEVER THE INPUT: true; the input reads as it did. -/
def vaultPlaysSpec : ChangeSpec := { name := "vaultPlays", fn := fun _ => fun
  | [d1, d2, d3] => { results := [.lit (.bool true)], args := [d1, d2, d3] }
  | _ => none }
def vaultPlaysRow : OpenClaim := { program := "ytlepjakmadlkjaagreatdoor", sum := "9c4c2c37b541bbf35dc9ebef3f0b595f3459edbb5927e7ef0000ba87b60fb625", func := "scrinium/scriniumlaw20.VaultPlays", spec := "vaultPlays", inPlace := ["internal/abi.NoEscape", "internal/bytealg.MakeNoZero", "slices.overlaps[scrinium/api.Sum]"], unfollowed := true, recurses := true, named := ["scrinium/sha.keys"], apart := false, laid := [("scrinium/sha.keys", laid_scrinium_sha_keys)] }
def VaultPlaysSaid : Prop := vaultPlaysRow.holds Tryz.pinned (OpenSpec.ofChange vaultPlaysSpec)

/-- ITS FALSE NEIGHBOUR: 'it returns false'. Refute it at one input. -/
def vaultPlaysWrong : ChangeSpec := { name := "vaultPlays", fn := fun _ => fun
  | [d1, d2, d3] => { results := [.lit (.bool false)], args := [d1, d2, d3] }
  | _ => none }
def VaultPlaysWrongFalsely : Prop := vaultPlaysRow.holds Tryz.pinned (OpenSpec.ofChange vaultPlaysWrong)

/-- 'scriniumlaw20.VaultLoads': WHATEVER THE INPUT: true; the input reads as it did. -/
def vaultLoadsSpec : ChangeSpec := { name := "vaultLoads", fn := fun _ => fun
  | [d1, d2] => { results := [.lit (.bool true)], args := [d1, d2] }
  | _ => none }
def vaultLoadsRow : OpenClaim := { program := "ytlepjakmadlkjaagreatdoor", sum := "9c4c2c37b541bbf35dc9ebef3f0b595f3459edbb5927e7ef0000ba87b60fb625", func := "scrinium/scriniumlaw20.VaultLoads", spec := "vaultLoads", inPlace := ["internal/abi.NoEscape", "internal/bytealg.MakeNoZero", "slices.overlaps[scrinium/api.Sum]"], unfollowed := true, recurses := true, named := ["scrinium/sha.keys"], apart := false, laid := [("scrinium/sha.keys", laid_scrinium_sha_keys)] }
def VaultLoadsSaid : Prop := vaultLoadsRow.holds Tryz.pinned (OpenSpec.ofChange vaultLoadsSpec)

/-- ITS FALSE NEIGHBOUR: 'it returns false'. Refute it at one input. -/
def vaultLoadsWrong : ChangeSpec := { name := "vaultLoads", fn := fun _ => fun
  | [d1, d2] => { results := [.lit (.bool false)], args := [d1, d2] }
  | _ => none }
def VaultLoadsWrongFalsely : Prop := vaultLoadsRow.holds Tryz.pinned (OpenSpec.ofChange vaultLoadsWrong)

/-- 'scriniumlaw20.VaultNil': WHATEVER THE INPUT: true; the input reads as it did. -/
def vaultNilSpec : ChangeSpec := { name := "vaultNil", fn := fun _ => fun
  | [d] => { results := [.lit (.bool true)], args := [d] }
  | _ => none }
def vaultNilRow : OpenClaim := { program := "ytlepjakmadlkjaagreatdoor", sum := "9c4c2c37b541bbf35dc9ebef3f0b595f3459edbb5927e7ef0000ba87b60fb625", func := "scrinium/scriniumlaw20.VaultNil", spec := "vaultNil", inPlace := ["internal/abi.NoEscape", "internal/bytealg.MakeNoZero", "slices.overlaps[scrinium/api.Sum]"], unfollowed := true, recurses := true, named := ["scrinium/sha.keys"], apart := false, laid := [("scrinium/sha.keys", laid_scrinium_sha_keys)] }
def VaultNilSaid : Prop := vaultNilRow.holds Tryz.pinned (OpenSpec.ofChange vaultNilSpec)

/-- ITS FALSE NEIGHBOUR: 'it returns false'. Refute it at one input. -/
def vaultNilWrong : ChangeSpec := { name := "vaultNil", fn := fun _ => fun
  | [d] => { results := [.lit (.bool false)], args := [d] }
  | _ => none }
def VaultNilWrongFalsely : Prop := vaultNilRow.holds Tryz.pinned (OpenSpec.ofChange vaultNilWrong)

/- THE SECOND FORM. 'bulk': how many values and letters a reading holds, each counted each time it is reached (what is shared counts as often as it is met; a slice's spare places count too). A statement '..UptoSaid' is the law's where the arguments, and the package variables that the reading takes, are together of bulk at most 1048576: NARROWER than '..Said'. Prove '..Said' where nothing that the law and all that it calls make is longer than what came in: it says more and counts as full. Else prove '..UptoSaid'. A law counts once. -/
mutual
def uptoBulk {H : Type} : DataW H → Nat
  | .lit (.string bytes) => bytes.length + 1
  | .lit _ => 1
  | .nil => 1
  | .ptr d => uptoBulk d + 1
  | .slice elems spare => uptoBulkAll elems + uptoBulkAll spare + 1
  | .agg parts => uptoBulkAll parts + 1
  | .iface _ d => uptoBulk d + 1
  | .map entries => uptoBulkEntries entries + 1
  | .held _ => 1
def uptoBulkAll {H : Type} : List (DataW H) → Nat
  | [] => 0
  | d :: r => uptoBulk d + uptoBulkAll r
def uptoBulkEntries {H : Type} : List (Lit × DataW H) → Nat
  | [] => 0
  | x :: r => uptoBulkEntry x + uptoBulkEntries r
def uptoBulkEntry {H : Type} : Lit × DataW H → Nat
  | (.string bytes, d) => bytes.length + uptoBulk d + 1
  | (_, d) => uptoBulk d + 1
 end
def uptoSmall : (H : Type) → List (DataW H) → Bool := fun _ ds => decide (uptoBulkAll ds ≤ 1048576)
def OpenSpec.upto (s : _root_.Go.ChangeSpec) : _root_.Go.OpenSpec := { _root_.Go.OpenSpec.ofChange s with cond := some uptoSmall }

/-- 'scriniumlaw20.VaultKeeps', WHERE WHAT IT READS IS OF BULK AT MOST 1048576: true; the input reads as it did. -/
def vaultKeepsUptoRow : OpenClaim := { program := "ytlepjakmadlkjaagreatdoor", sum := "9c4c2c37b541bbf35dc9ebef3f0b595f3459edbb5927e7ef0000ba87b60fb625", func := "scrinium/scriniumlaw20.VaultKeeps", spec := "vaultKeeps", inPlace := ["internal/abi.NoEscape", "internal/bytealg.MakeNoZero", "slices.overlaps[scrinium/api.Sum]"], unfollowed := true, recurses := true, named := ["scrinium/sha.keys"], apart := false, laid := [("scrinium/sha.keys", laid_scrinium_sha_keys)], narrowed := true }
def VaultKeepsUptoSaid : Prop := vaultKeepsUptoRow.holds Tryz.pinned (OpenSpec.upto vaultKeepsSpec)

/-- 'scriniumlaw20.VaultHeads', WHERE WHAT IT READS IS OF BULK AT MOST 1048576: true; the input reads as it did. -/
def vaultHeadsUptoRow : OpenClaim := { program := "ytlepjakmadlkjaagreatdoor", sum := "9c4c2c37b541bbf35dc9ebef3f0b595f3459edbb5927e7ef0000ba87b60fb625", func := "scrinium/scriniumlaw20.VaultHeads", spec := "vaultHeads", inPlace := ["internal/abi.NoEscape", "internal/bytealg.MakeNoZero", "slices.overlaps[scrinium/api.Sum]"], unfollowed := true, recurses := true, named := ["scrinium/sha.keys"], apart := false, laid := [("scrinium/sha.keys", laid_scrinium_sha_keys)], narrowed := true }
def VaultHeadsUptoSaid : Prop := vaultHeadsUptoRow.holds Tryz.pinned (OpenSpec.upto vaultHeadsSpec)

/-- 'scriniumlaw20.VaultCites', WHERE WHAT IT READS IS OF BULK AT MOST 1048576: true; the input reads as it did. -/
def vaultCitesUptoRow : OpenClaim := { program := "ytlepjakmadlkjaagreatdoor", sum := "9c4c2c37b541bbf35dc9ebef3f0b595f3459edbb5927e7ef0000ba87b60fb625", func := "scrinium/scriniumlaw20.VaultCites", spec := "vaultCites", inPlace := ["internal/abi.NoEscape", "internal/bytealg.MakeNoZero", "slices.overlaps[scrinium/api.Sum]"], unfollowed := true, recurses := true, named := ["scrinium/sha.keys"], apart := false, laid := [("scrinium/sha.keys", laid_scrinium_sha_keys)], narrowed := true }
def VaultCitesUptoSaid : Prop := vaultCitesUptoRow.holds Tryz.pinned (OpenSpec.upto vaultCitesSpec)

/-- 'scriniumlaw20.VaultEnds', WHERE WHAT IT READS IS OF BULK AT MOST 1048576: true; the input reads as it did. -/
def vaultEndsUptoRow : OpenClaim := { program := "ytlepjakmadlkjaagreatdoor", sum := "9c4c2c37b541bbf35dc9ebef3f0b595f3459edbb5927e7ef0000ba87b60fb625", func := "scrinium/scriniumlaw20.VaultEnds", spec := "vaultEnds", inPlace := ["internal/abi.NoEscape", "internal/bytealg.MakeNoZero", "slices.overlaps[scrinium/api.Sum]"], unfollowed := true, recurses := true, named := ["scrinium/sha.keys"], apart := false, laid := [("scrinium/sha.keys", laid_scrinium_sha_keys)], narrowed := true }
def VaultEndsUptoSaid : Prop := vaultEndsUptoRow.holds Tryz.pinned (OpenSpec.upto vaultEndsSpec)

/-- 'scriniumlaw20.VaultLasts', WHERE WHAT IT READS IS OF BULK AT MOST 1048576: true; the input reads as it did. -/
def vaultLastsUptoRow : OpenClaim := { program := "ytlepjakmadlkjaagreatdoor", sum := "9c4c2c37b541bbf35dc9ebef3f0b595f3459edbb5927e7ef0000ba87b60fb625", func := "scrinium/scriniumlaw20.VaultLasts", spec := "vaultLasts", inPlace := ["internal/abi.NoEscape", "internal/bytealg.MakeNoZero", "slices.overlaps[scrinium/api.Sum]"], unfollowed := true, recurses := true, named := ["scrinium/sha.keys"], apart := false, laid := [("scrinium/sha.keys", laid_scrinium_sha_keys)], narrowed := true }
def VaultLastsUptoSaid : Prop := vaultLastsUptoRow.holds Tryz.pinned (OpenSpec.upto vaultLastsSpec)

/-- 'scriniumlaw20.VaultAsks', WHERE WHAT IT READS IS OF BULK AT MOST 1048576: true; the input reads as it did. -/
def vaultAsksUptoRow : OpenClaim := { program := "ytlepjakmadlkjaagreatdoor", sum := "9c4c2c37b541bbf35dc9ebef3f0b595f3459edbb5927e7ef0000ba87b60fb625", func := "scrinium/scriniumlaw20.VaultAsks", spec := "vaultAsks", inPlace := ["internal/abi.NoEscape", "internal/bytealg.MakeNoZero", "slices.overlaps[scrinium/api.Sum]"], unfollowed := true, recurses := true, named := ["scrinium/sha.keys"], apart := false, laid := [("scrinium/sha.keys", laid_scrinium_sha_keys)], narrowed := true }
def VaultAsksUptoSaid : Prop := vaultAsksUptoRow.holds Tryz.pinned (OpenSpec.upto vaultAsksSpec)

/-- 'scriniumlaw20.VaultPlays', WHERE WHAT IT READS IS OF BULK AT MOST 1048576: true; the input reads as it did. -/
def vaultPlaysUptoRow : OpenClaim := { program := "ytlepjakmadlkjaagreatdoor", sum := "9c4c2c37b541bbf35dc9ebef3f0b595f3459edbb5927e7ef0000ba87b60fb625", func := "scrinium/scriniumlaw20.VaultPlays", spec := "vaultPlays", inPlace := ["internal/abi.NoEscape", "internal/bytealg.MakeNoZero", "slices.overlaps[scrinium/api.Sum]"], unfollowed := true, recurses := true, named := ["scrinium/sha.keys"], apart := false, laid := [("scrinium/sha.keys", laid_scrinium_sha_keys)], narrowed := true }
def VaultPlaysUptoSaid : Prop := vaultPlaysUptoRow.holds Tryz.pinned (OpenSpec.upto vaultPlaysSpec)

/-- 'scriniumlaw20.VaultLoads', WHERE WHAT IT READS IS OF BULK AT MOST 1048576: true; the input reads as it did. -/
def vaultLoadsUptoRow : OpenClaim := { program := "ytlepjakmadlkjaagreatdoor", sum := "9c4c2c37b541bbf35dc9ebef3f0b595f3459edbb5927e7ef0000ba87b60fb625", func := "scrinium/scriniumlaw20.VaultLoads", spec := "vaultLoads", inPlace := ["internal/abi.NoEscape", "internal/bytealg.MakeNoZero", "slices.overlaps[scrinium/api.Sum]"], unfollowed := true, recurses := true, named := ["scrinium/sha.keys"], apart := false, laid := [("scrinium/sha.keys", laid_scrinium_sha_keys)], narrowed := true }
def VaultLoadsUptoSaid : Prop := vaultLoadsUptoRow.holds Tryz.pinned (OpenSpec.upto vaultLoadsSpec)

/-- 'scriniumlaw20.VaultNil', WHERE WHAT IT READS IS OF BULK AT MOST 1048576: true; the input reads as it did. -/
def vaultNilUptoRow : OpenClaim := { program := "ytlepjakmadlkjaagreatdoor", sum := "9c4c2c37b541bbf35dc9ebef3f0b595f3459edbb5927e7ef0000ba87b60fb625", func := "scrinium/scriniumlaw20.VaultNil", spec := "vaultNil", inPlace := ["internal/abi.NoEscape", "internal/bytealg.MakeNoZero", "slices.overlaps[scrinium/api.Sum]"], unfollowed := true, recurses := true, named := ["scrinium/sha.keys"], apart := false, laid := [("scrinium/sha.keys", laid_scrinium_sha_keys)], narrowed := true }
def VaultNilUptoSaid : Prop := vaultNilUptoRow.holds Tryz.pinned (OpenSpec.upto vaultNilSpec)

end Rows
end Go.Proofs.YtlepjakmadlkjaaGreatDoor
