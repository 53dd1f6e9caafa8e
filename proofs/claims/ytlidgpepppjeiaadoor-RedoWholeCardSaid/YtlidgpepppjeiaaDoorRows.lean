/-
  NARROWER THAN 'FOR EVERY INPUT', by the rows' own cells (each row's printed sentence says how): RedoLines: laid · RedoTells: laid · RedoMakes: laid · RedoNil: laid · RedoRound: laid · RedoWhole: laid.
  DERIVED. THE GIVEN ROWS OF THIS SEAT. 6 by the template 'for every input the law returns true; each argument reads behind the call as it read before'; 0 by the template 'total and deterministic' (their statements: YtlidgpepppjeiaaDoorTotals.lean).
  GIVEN WITH THE SEED: the statements are not yours to turn. If you find one false, say at which input.
  Laid BY PROGRAM, IN A SANDBOX (cutbox-rows.mjs): the forced cells as the released guide's own fill.sh prints them over the translation a6477cc99438e639… (all of the seat's roots in one cut). By AI agents, Wed Nov 11 2026. No macro, syntax, notation, axiom, sorry.
-/
import Derived.Test.YtlidgpepppjeiaaDoorChecked
import GoSem.Claim
import GoSem.ClaimJoined
import GoSem.ClaimMapViews
import Derived.JoinedTies
import Derived.KernelRfl
namespace Go.Proofs.YtlidgpepppjeiaaDoor
/- THE CELL 'sum', in the pinned program and in every row, IS THE sha256 OF THE DUMP (.gsa) THAT YtlidgpepppjeiaaDoorProg.lean LOADS. Nothing in Lean hashes anything: it is a label: what it is worth is what the hold of that sum in a sandbox is worth. -/
noncomputable def Tryd.pinned : Pinned := { name := "ytlidgpepppjeiaadoor", sum := "a6477cc99438e63976d86eff02e0513b587c3539c336655c5a4b075f4a5b39b3", checked := Tryd.checked }
namespace Rows
def none {H : Type} : Left H := { results := [], args := [] }

/- WHAT THE LISTED PACKAGE-LEVEL VARIABLES READ AS WHEN THE CALL BEGINS. Each datum BY PROGRAM (the guide's laid-datum.mjs) off the statement by which the dump's own 'gosem.cut.vars' lays the variable. In a bare row this is a premise. The card (YtlidgpepppjeiaaDoorCards.lean) ties it to the program's text. -/
def laid_scrinium_check_table {H : Type} : DataW H := .agg [.lit (.int .u32 0), .lit (.int .u32 498536548), .lit (.int .u32 997073096), .lit (.int .u32 651767980), .lit (.int .u32 1994146192), .lit (.int .u32 1802195444), .lit (.int .u32 1303535960), .lit (.int .u32 1342533948), .lit (.int .u32 3988292384), .lit (.int .u32 4027552580), .lit (.int .u32 3604390888), .lit (.int .u32 3412177804), .lit (.int .u32 2607071920), .lit (.int .u32 2262029012), .lit (.int .u32 2685067896), .lit (.int .u32 3183342108)]

/-- 'scriniumlaw07.RedoLines': WHATEVER THE INPUT: true; the input reads as it did. -/
def redoLinesSpec : ChangeSpec := { name := "redoLines", fn := fun _ => fun
  | [d1, d2] => { results := [.lit (.bool true)], args := [d1, d2] }
  | _ => none }
def redoLinesRow : OpenClaim := { program := "ytlidgpepppjeiaadoor", sum := "a6477cc99438e63976d86eff02e0513b587c3539c336655c5a4b075f4a5b39b3", func := "scrinium/scriniumlaw07.RedoLines", spec := "redoLines", inPlace := ["internal/abi.NoEscape", "internal/bytealg.MakeNoZero"], unfollowed := true, recurses := true, named := ["scrinium/check.table"], apart := false, laid := [("scrinium/check.table", laid_scrinium_check_table)] }
def RedoLinesSaid : Prop := redoLinesRow.holds Tryd.pinned (OpenSpec.ofChange redoLinesSpec)

/-- ITS FALSE NEIGHBOUR: 'it returns false'. Refute it at one input. -/
def redoLinesWrong : ChangeSpec := { name := "redoLines", fn := fun _ => fun
  | [d1, d2] => { results := [.lit (.bool false)], args := [d1, d2] }
  | _ => none }
def RedoLinesWrongFalsely : Prop := redoLinesRow.holds Tryd.pinned (OpenSpec.ofChange redoLinesWrong)

/-- 'scriniumlaw07.RedoTells': WHATEVER THE INPUT: true; the input reads as it did. -/
def redoTellsSpec : ChangeSpec := { name := "redoTells", fn := fun _ => fun
  | [d1, d2, d3] => { results := [.lit (.bool true)], args := [d1, d2, d3] }
  | _ => none }
def redoTellsRow : OpenClaim := { program := "ytlidgpepppjeiaadoor", sum := "a6477cc99438e63976d86eff02e0513b587c3539c336655c5a4b075f4a5b39b3", func := "scrinium/scriniumlaw07.RedoTells", spec := "redoTells", inPlace := ["internal/abi.NoEscape", "internal/bytealg.MakeNoZero"], unfollowed := true, recurses := true, named := ["scrinium/check.table"], apart := false, laid := [("scrinium/check.table", laid_scrinium_check_table)] }
def RedoTellsSaid : Prop := redoTellsRow.holds Tryd.pinned (OpenSpec.ofChange redoTellsSpec)

/-- ITS FALSE NEIGHBOUR: 'it returns false'. Refute it at one input. -/
def redoTellsWrong : ChangeSpec := { name := "redoTells", fn := fun _ => fun
  | [d1, d2, d3] => { results := [.lit (.bool false)], args := [d1, d2, d3] }
  | _ => none }
def RedoTellsWrongFalsely : Prop := redoTellsRow.holds Tryd.pinned (OpenSpec.ofChange redoTellsWrong)

/-- 'scriniumlaw07.RedoMakes': WHATEVER THE INPUT: true; the input reads as it did. -/
def redoMakesSpec : ChangeSpec := { name := "redoMakes", fn := fun _ => fun
  | [d1, d2] => { results := [.lit (.bool true)], args := [d1, d2] }
  | _ => none }
def redoMakesRow : OpenClaim := { program := "ytlidgpepppjeiaadoor", sum := "a6477cc99438e63976d86eff02e0513b587c3539c336655c5a4b075f4a5b39b3", func := "scrinium/scriniumlaw07.RedoMakes", spec := "redoMakes", inPlace := ["internal/abi.NoEscape", "internal/bytealg.MakeNoZero"], unfollowed := true, recurses := true, named := ["scrinium/check.table"], apart := false, laid := [("scrinium/check.table", laid_scrinium_check_table)] }
def RedoMakesSaid : Prop := redoMakesRow.holds Tryd.pinned (OpenSpec.ofChange redoMakesSpec)

/-- ITS FALSE NEIGHBOUR: 'it returns false'. Refute it at one input. -/
def redoMakesWrong : ChangeSpec := { name := "redoMakes", fn := fun _ => fun
  | [d1, d2] => { results := [.lit (.bool false)], args := [d1, d2] }
  | _ => none }
def RedoMakesWrongFalsely : Prop := redoMakesRow.holds Tryd.pinned (OpenSpec.ofChange redoMakesWrong)

/-- 'scriniumlaw07.RedoNil': WHATEVER THE INPUT: true; the input reads as it did. -/
def redoNilSpec : ChangeSpec := { name := "redoNil", fn := fun _ => fun
  | [d] => { results := [.lit (.bool true)], args := [d] }
  | _ => none }
def redoNilRow : OpenClaim := { program := "ytlidgpepppjeiaadoor", sum := "a6477cc99438e63976d86eff02e0513b587c3539c336655c5a4b075f4a5b39b3", func := "scrinium/scriniumlaw07.RedoNil", spec := "redoNil", inPlace := ["internal/abi.NoEscape", "internal/bytealg.MakeNoZero"], unfollowed := true, recurses := true, named := ["scrinium/check.table"], apart := false, laid := [("scrinium/check.table", laid_scrinium_check_table)] }
def RedoNilSaid : Prop := redoNilRow.holds Tryd.pinned (OpenSpec.ofChange redoNilSpec)

/-- ITS FALSE NEIGHBOUR: 'it returns false'. Refute it at one input. -/
def redoNilWrong : ChangeSpec := { name := "redoNil", fn := fun _ => fun
  | [d] => { results := [.lit (.bool false)], args := [d] }
  | _ => none }
def RedoNilWrongFalsely : Prop := redoNilRow.holds Tryd.pinned (OpenSpec.ofChange redoNilWrong)

/-- 'scriniumlaw07.RedoRound': WHATEVER THE INPUT: true; the input reads as it did. -/
def redoRoundSpec : ChangeSpec := { name := "redoRound", fn := fun _ => fun
  | [d1, d2, d3] => { results := [.lit (.bool true)], args := [d1, d2, d3] }
  | _ => none }
def redoRoundRow : OpenClaim := { program := "ytlidgpepppjeiaadoor", sum := "a6477cc99438e63976d86eff02e0513b587c3539c336655c5a4b075f4a5b39b3", func := "scrinium/scriniumlaw07.RedoRound", spec := "redoRound", inPlace := ["internal/abi.NoEscape", "internal/bytealg.MakeNoZero"], unfollowed := true, recurses := true, named := ["scrinium/check.table"], apart := false, laid := [("scrinium/check.table", laid_scrinium_check_table)] }
def RedoRoundSaid : Prop := redoRoundRow.holds Tryd.pinned (OpenSpec.ofChange redoRoundSpec)

/-- ITS FALSE NEIGHBOUR: 'it returns false'. Refute it at one input. -/
def redoRoundWrong : ChangeSpec := { name := "redoRound", fn := fun _ => fun
  | [d1, d2, d3] => { results := [.lit (.bool false)], args := [d1, d2, d3] }
  | _ => none }
def RedoRoundWrongFalsely : Prop := redoRoundRow.holds Tryd.pinned (OpenSpec.ofChange redoRoundWrong)

/-- 'scriniumlaw07.RedoWhole': WHATEVER THE INPUT: true; the input reads as it did. -/
def redoWholeSpec : ChangeSpec := { name := "redoWhole", fn := fun _ => fun
  | [d1, d2] => { results := [.lit (.bool true)], args := [d1, d2] }
  | _ => none }
def redoWholeRow : OpenClaim := { program := "ytlidgpepppjeiaadoor", sum := "a6477cc99438e63976d86eff02e0513b587c3539c336655c5a4b075f4a5b39b3", func := "scrinium/scriniumlaw07.RedoWhole", spec := "redoWhole", inPlace := ["internal/abi.NoEscape", "internal/bytealg.MakeNoZero"], unfollowed := true, recurses := true, named := ["scrinium/check.table"], apart := false, laid := [("scrinium/check.table", laid_scrinium_check_table)] }
def RedoWholeSaid : Prop := redoWholeRow.holds Tryd.pinned (OpenSpec.ofChange redoWholeSpec)

/-- ITS FALSE NEIGHBOUR: 'it returns false'. Refute it at one input. -/
def redoWholeWrong : ChangeSpec := { name := "redoWhole", fn := fun _ => fun
  | [d1, d2] => { results := [.lit (.bool false)], args := [d1, d2] }
  | _ => none }
def RedoWholeWrongFalsely : Prop := redoWholeRow.holds Tryd.pinned (OpenSpec.ofChange redoWholeWrong)

/- THE SECOND FORM. 'bulk': how many values and letters a reading holds, each counted each time it is reached (what is shared counts as often as it is met; a slice's spare places count too). A statement '..UptoSaid' is the law's where the arguments, and the package variables that the reading takes, are together of bulk at most 1048576: NARROWER than '..Said'. Prove '..Said' where nothing that the law and all that it calls make is longer than what came in: it says more and counts as full. Else prove '..UptoSaid'. A law counts once. -/
mutual
def uptoBulk {H : Type} : DataW H → Nat
  | .lit (.string bytes) => bytes.length + 1
  | .lit _ => 1
  | .nil => 1
  | .ptr d => uptoBulk d + 1
  | .slice elems spare => uptoBulkAll elems + uptoBulkAll spare + 1
  | .agg parts => uptoBulkAll parts + 1
  | .iface _ d => uptoBulk d + 1
  | .map entries => uptoBulkEntries entries + 1
  | .held _ => 1
def uptoBulkAll {H : Type} : List (DataW H) → Nat
  | [] => 0
  | d :: r => uptoBulk d + uptoBulkAll r
def uptoBulkEntries {H : Type} : List (Lit × DataW H) → Nat
  | [] => 0
  | x :: r => uptoBulkEntry x + uptoBulkEntries r
def uptoBulkEntry {H : Type} : Lit × DataW H → Nat
  | (.string bytes, d) => bytes.length + uptoBulk d + 1
  | (_, d) => uptoBulk d + 1
 end
def uptoSmall : (H : Type) → List (DataW H) → Bool := fun _ ds => decide (uptoBulkAll ds ≤ 1048576)
def OpenSpec.upto (s : _root_.Go.ChangeSpec) : _root_.Go.OpenSpec := { _root_.Go.OpenSpec.ofChange s with cond := some uptoSmall }

/-- 'scriniumlaw07.RedoLines', WHERE WHAT IT READS IS OF BULK AT MOST 1048576: true; the input reads as it did. -/
def redoLinesUptoRow : OpenClaim := { program := "ytlidgpepppjeiaadoor", sum := "a6477cc99438e63976d86eff02e0513b587c3539c336655c5a4b075f4a5b39b3", func := "scrinium/scriniumlaw07.RedoLines", spec := "redoLines", inPlace := ["internal/abi.NoEscape", "internal/bytealg.MakeNoZero"], unfollowed := true, recurses := true, named := ["scrinium/check.table"], apart := false, laid := [("scrinium/check.table", laid_scrinium_check_table)], narrowed := true }
def RedoLinesUptoSaid : Prop := redoLinesUptoRow.holds Tryd.pinned (OpenSpec.upto redoLinesSpec)

/-- 'scriniumlaw07.RedoTells', WHERE WHAT IT READS IS OF BULK AT MOST 1048576: true; the input reads as it did. -/
def redoTellsUptoRow : OpenClaim := { program := "ytlidgpepppjeiaadoor", sum := "a6477cc99438e63976d86eff02e0513b587c3539c336655c5a4b075f4a5b39b3", func := "scrinium/scriniumlaw07.RedoTells", spec := "redoTells", inPlace := ["internal/abi.NoEscape", "internal/bytealg.MakeNoZero"], unfollowed := true, recurses := true, named := ["scrinium/check.table"], apart := false, laid := [("scrinium/check.table", laid_scrinium_check_table)], narrowed := true }
def RedoTellsUptoSaid : Prop := redoTellsUptoRow.holds Tryd.pinned (OpenSpec.upto redoTellsSpec)

/-- 'scriniumlaw07.RedoMakes', WHERE WHAT IT READS IS OF BULK AT MOST 1048576: true; the input reads as it did. -/
def redoMakesUptoRow : OpenClaim := { program := "ytlidgpepppjeiaadoor", sum := "a6477cc99438e63976d86eff02e0513b587c3539c336655c5a4b075f4a5b39b3", func := "scrinium/scriniumlaw07.RedoMakes", spec := "redoMakes", inPlace := ["internal/abi.NoEscape", "internal/bytealg.MakeNoZero"], unfollowed := true, recurses := true, named := ["scrinium/check.table"], apart := false, laid := [("scrinium/check.table", laid_scrinium_check_table)], narrowed := true }
def RedoMakesUptoSaid : Prop := redoMakesUptoRow.holds Tryd.pinned (OpenSpec.upto redoMakesSpec)

/-- 'scriniumlaw07.RedoNil', WHERE WHAT IT READS IS OF BULK AT MOST 1048576: true; the input reads as it did. -/
def redoNilUptoRow : OpenClaim := { program := "ytlidgpepppjeiaadoor", sum := "a6477cc99438e63976d86eff02e0513b587c3539c336655c5a4b075f4a5b39b3", func := "scrinium/scriniumlaw07.RedoNil", spec := "redoNil", inPlace := ["internal/abi.NoEscape", "internal/bytealg.MakeNoZero"], unfollowed := true, recurses := true, named := ["scrinium/check.table"], apart := false, laid := [("scrinium/check.table", laid_scrinium_check_table)], narrowed := true }
def RedoNilUptoSaid : Prop := redoNilUptoRow.holds Tryd.pinned (OpenSpec.upto redoNilSpec)

/-- 'scriniumlaw07.RedoRound', WHERE WHAT IT READS IS OF BULK AT MOST 1048576: true; the input reads as it did. -/
def redoRoundUptoRow : OpenClaim := { program := "ytlidgpepppjeiaadoor", sum := "a6477cc99438e63976d86eff02e0513b587c3539c336655c5a4b075f4a5b39b3", func := "scrinium/scriniumlaw07.RedoRound", spec := "redoRound", inPlace := ["internal/abi.NoEscape", "internal/bytealg.MakeNoZero"], unfollowed := true, recurses := true, named := ["scrinium/check.table"], apart := false, laid := [("scrinium/check.table", laid_scrinium_check_table)], narrowed := true }
def RedoRoundUptoSaid : Prop := redoRoundUptoRow.holds Tryd.pinned (OpenSpec.upto redoRoundSpec)

/-- 'scriniumlaw07.RedoWhole', WHERE WHAT IT READS IS OF BULK AT MOST 1048576: true; the input reads as it did. -/
def redoWholeUptoRow : OpenClaim := { program := "ytlidgpepppjeiaadoor", sum := "a6477cc99438e63976d86eff02e0513b587c3539c336655c5a4b075f4a5b39b3", func := "scrinium/scriniumlaw07.RedoWhole", spec := "redoWhole", inPlace := ["internal/abi.NoEscape", "internal/bytealg.MakeNoZero"], unfollowed := true, recurses := true, named := ["scrinium/check.table"], apart := false, laid := [("scrinium/check.table", laid_scrinium_check_table)], narrowed := true }
def RedoWholeUptoSaid : Prop := redoWholeUptoRow.holds Tryd.pinned (OpenSpec.upto redoWholeSpec)

end Rows
end Go.Proofs.YtlidgpepppjeiaaDoor
