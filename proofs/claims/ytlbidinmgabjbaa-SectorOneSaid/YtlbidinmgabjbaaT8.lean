/- Texts of the proof, put together: part 8. No condition. -/
import Derived.Test.YtlbidinmgabjbaaT7
import Derived.Test.YtlbidinmgabjbaaRows
import Derived.WalkKit
import Derived.ProofKit
import Derived.OpenShut
import Derived.ShutString
import Derived.ChangeOld
import Derived.SizedLaws
import Derived.Deep.Slices
/- Contracts of the functions that the laws reach: what each computes. No condition. -/
set_option linter.unusedVariables false
namespace Go.Proofs.Ytlbidinmgabjbaa
open Go
@[reducible] def T0 : Ty := .pair (.int .i64) .str
@[reducible] def T1 : Ty := .pair (.int .i64) (.pair (.int .i64) (.pair (.int .i64) (.pair (.int .u8) (.pair .bool (.sl 3 (.int .i64))))))
@[reducible] def T2 : Ty := .arr 8 .str
@[reducible] def T3 : Ty := .arr 4 .str
def inl : List Nat := [2, 11, 12, 18, 19, 20, 21, 23, 25, 26, 30, 39, 40, 41, 43, 44, 45, 47, 50, 53, 54, 55, 66]
def bk : List Bk := [⟨55, 3, 4, 50, 64, 86⟩]
theorem bk_ok : ∀ B ∈ bk, BkOk Try.prog B := by
  intro B hB
  simp only [bk, List.mem_cons, List.not_mem_nil, or_false] at hB
  rcases hB with rfl
  · exact ⟨⟨Try.f55, by kernel_rfl, by kernel_rfl, by kernel_rfl, by kernel_rfl⟩, by kernel_rfl, by kernel_rfl⟩

theorem follows : Try.prog.follows .mixedOrders = true := by kernel_rfl
noncomputable def G0 : List Con := []
theorem okG0 : ∀ c ∈ G0, ConOk Try.prog c := forall_nil
/-- strings.Repeat -/
abbrev strings_Repeat : Nat → (ByteArray × Int) → Option (ByteArray) := L_strings_Repeat
noncomputable def L_strings_Repeat_ : Con := ⟨36, ⟨[(0, .v (.a (.fl .str))), (1, .v (.a (.fl (.int .i64))))], [], []⟩, [⟨[(100000, .v (.a (.fl .str)))], [], []⟩], strings_Repeat⟩
theorem ok_strings_Repeat : ConOk Try.prog L_strings_Repeat_ := L_strings_Repeat_ok
noncomputable def G1 : List Con := L_strings_Repeat_ :: G0
theorem okG1 : ∀ c ∈ G1, ConOk Try.prog c := forall_cons ok_strings_Repeat okG0
/-- slices.Repeat[[]string,string] -/
abbrev slices_Repeat : Nat → (Int × (List ByteArray)) → Option ((List ByteArray)) := L_slices_Repeat
noncomputable def L_slices_Repeat_ : Con := ⟨35, ⟨[(0, .v (.a (.sl 0))), (1, .v (.a (.fl (.int .i64))))], [], [.row 9 .str .lent]⟩, [⟨[(100000, .v (.a (.sl 1)))], [], [.row 9 .str .own]⟩], slices_Repeat⟩
theorem ok_slices_Repeat : ConOk Try.prog L_slices_Repeat_ := L_slices_Repeat_ok
noncomputable def G2 : List Con := L_slices_Repeat_ :: G1
theorem okG2 : ∀ c ∈ G2, ConOk Try.prog c := forall_cons ok_slices_Repeat okG1
/-- scrinium/scriniumref01.Put -/
def ref01_Put (k : Nat) (x : Int) : Option (ByteArray) :=
  (loopK (H := Int × ByteArray) (E := ByteArray) k (fun h0 => condO (igt h0.1 0) (guardO ((nz 256)) (guardO ((catOk (strOfNums ([(WK .u8 (Int.tmod h0.1 256))] : List Int)) h0.2)) (guardO ((nz 256)) (some (.inl (((WK .u64 (Int.tdiv h0.1 256)), ((strOfNums ([(WK .u8 (Int.tmod h0.1 256))] : List Int)) ++ h0.2)))))))) (some (.inr (h0.2)))) ((x, str0))).bind fun r0 => guardO ((catOk (strOfNums ([(WK .u8 (blen r0))] : List Int)) r0)) (some (((strOfNums ([(WK .u8 (blen r0))] : List Int)) ++ r0)))
noncomputable def L_ref01_Put_ : Con := ⟨57, ⟨[(0, .v (.a (.fl (.int .u64))))], [], []⟩, [⟨[(100000, .v (.a (.fl .str)))], [], []⟩], ref01_Put⟩
theorem ok_ref01_Put : ConOk Try.prog L_ref01_Put_ := con_of (a := mkCon Try.prog G2 inl bk 57 ⟨[(0, .v (.a (.fl (.int .u64))))], [], []⟩ ⟨[(.ret, ⟨[(100000, .v (.a (.fl .str)))], [], []⟩)], [], []⟩ (.n (.l ⟨[(.normal, ⟨[(0, .v (.a (.fl (.int .u64)))), (3, .v (.a (.fl .str)))], [], []⟩)], [], []⟩ ⟨[(.exit 0, ⟨[(3, .v (.a (.fl .str)))], [], []⟩)], [], []⟩ [.n (.nil)] [.nil]))) (by kernel_rfl) (mkCon_ok follows bk_ok okG2 (by kernel_rfl))
noncomputable def G3 : List Con := L_ref01_Put_ :: G2
theorem okG3 : ∀ c ∈ G3, ConOk Try.prog c := forall_cons ok_ref01_Put okG2
/-- scrinium/scriniumref05.Fill -/
def ref05_Fill (k : Nat) (x : ByteArray) : Option (ByteArray × Int) :=
  (ref01_Put k (WK .u64 (blen x))).bind fun r0 => guardO ((catOk r0 x)) (condO (igt (blen (r0 ++ x)) 256) (some ((str0, 11))) (guardO ((mkOk (WK .i64 (256 - (blen (r0 ++ x)))) (WK .i64 (256 - (blen (r0 ++ x)))) 1)) (guardO ((catOk (r0 ++ x) (strOfNums (lrep (WK .i64 (256 - (blen (r0 ++ x)))) (0 : Int))))) (some ((((r0 ++ x) ++ (strOfNums (lrep (WK .i64 (256 - (blen (r0 ++ x)))) (0 : Int)))), 0))))))
noncomputable def L_ref05_Fill_ : Con := ⟨32, ⟨[(0, .v (.a (.fl .str)))], [], []⟩, [⟨[(100000, .v (.a (.fl .str))), (100001, .v (.a (.fl (.int .i64))))], [], []⟩], ref05_Fill⟩
theorem ok_ref05_Fill : ConOk Try.prog L_ref05_Fill_ := con_of (a := mkCon Try.prog G3 inl bk 32 ⟨[(0, .v (.a (.fl .str)))], [], []⟩ ⟨[(.ret, ⟨[(100000, .v (.a (.fl .str))), (100001, .v (.a (.fl (.int .i64))))], [], []⟩)], [], []⟩ (.n (.nil))) (by kernel_rfl) (mkCon_ok follows bk_ok okG3 (by kernel_rfl))
noncomputable def G4 : List Con := L_ref05_Fill_ :: G3
theorem okG4 : ∀ c ∈ G4, ConOk Try.prog c := forall_cons ok_ref05_Fill okG3
/-- (*scrinium/sector.Disk).step -/
def sector_Disk_step (k : Nat) (x : Bool × Bool × Int × Int × (List ByteArray) × (List (Int × ByteArray))) : Option (Int × Bool × Bool × Int × Int × (List ByteArray) × (List (Int × ByteArray))) :=
  (condO x.1 (condO x.2.1 (condO (ieq x.2.2.1 0) (some ((false, x.2.1, x.2.2.1, x.2.2.2.1, x.2.2.2.2.1, x.2.2.2.2.2))) (some ((x.1, x.2.1, x.2.2.1, x.2.2.2.1, x.2.2.2.2.1, x.2.2.2.2.2)))) (some ((x.1, x.2.1, x.2.2.1, x.2.2.2.1, x.2.2.2.2.1, x.2.2.2.2.2)))) (some ((x.1, x.2.1, x.2.2.1, x.2.2.2.1, x.2.2.2.2.1, x.2.2.2.2.2))) : Option (Bool × Bool × Int × Int × (List ByteArray) × (List (Int × ByteArray)))).bind fun r0 => condO (!r0.1) (some ((14, r0.1, r0.2.1, r0.2.2.1, r0.2.2.2.1, r0.2.2.2.2.1, r0.2.2.2.2.2))) ((condO r0.2.1 (some ((r0.1, r0.2.1, (WK .i64 (r0.2.2.1 - 1)), r0.2.2.2.1, r0.2.2.2.2.1, r0.2.2.2.2.2))) (some ((r0.1, r0.2.1, r0.2.2.1, r0.2.2.2.1, r0.2.2.2.2.1, r0.2.2.2.2.2))) : Option (Bool × Bool × Int × Int × (List ByteArray) × (List (Int × ByteArray)))).bind fun r1 => some ((0, r1.1, r1.2.1, r1.2.2.1, (WK .i64 (r1.2.2.2.1 + 1)), r1.2.2.2.2.1, r1.2.2.2.2.2)))
noncomputable def L_sector_Disk_step_ : Con := ⟨37, ⟨[(0, .v (.a (.ptr 0 0)))], [], [.box 54 [.sl 1, .sl 2, .fl .bool, .fl .bool, .fl (.int .i64), .fl (.int .i64)], .row 9 .str .own, .row 64 T0 .own]⟩, [⟨[(100000, .v (.a (.fl (.int .i64))))], [(0, .box 54 [.sl 3, .sl 4, .fl .bool, .fl .bool, .fl (.int .i64), .fl (.int .i64)]), (1, .gone), (2, .gone)], [.row 9 .str .own, .row 64 T0 .own]⟩], sector_Disk_step⟩
theorem ok_sector_Disk_step : ConOk Try.prog L_sector_Disk_step_ := con_of (a := mkCon Try.prog G4 inl bk 37 ⟨[(0, .v (.a (.ptr 0 0)))], [], [.box 54 [.sl 1, .sl 2, .fl .bool, .fl .bool, .fl (.int .i64), .fl (.int .i64)], .row 9 .str .own, .row 64 T0 .own]⟩ ⟨[(.ret, ⟨[(100000, .v (.a (.fl (.int .i64))))], [(0, .box 54 [.sl 3, .sl 4, .fl .bool, .fl .bool, .fl (.int .i64), .fl (.int .i64)]), (1, .gone), (2, .gone)], [.row 9 .str .own, .row 64 T0 .own]⟩)], [0, 1, 2], []⟩ (.j ⟨[(.normal, ⟨[], [(0, .box 54 [.sl 3, .sl 4, .fl .bool, .fl .bool, .fl (.int .i64), .fl (.int .i64)]), (1, .gone), (2, .gone)], [.row 9 .str .own, .row 64 T0 .own]⟩)], [0, 1, 2], []⟩ (.nil) [.n (.b [.nil, .j ⟨[(.normal, ⟨[], [(0, .box 54 [.sl 5, .sl 6, .fl .bool, .fl .bool, .fl (.int .i64), .fl (.int .i64)]), (3, .gone), (4, .gone)], [.row 9 .str .own, .row 64 T0 .own]⟩)], [0, 3, 4], []⟩ (.nil) [.nil]])])) (by kernel_rfl) (mkCon_ok follows bk_ok okG4 (by kernel_rfl))
noncomputable def G5 : List Con := L_sector_Disk_step_ :: G4
theorem okG5 : ∀ c ∈ G5, ConOk Try.prog c := forall_cons ok_sector_Disk_step okG4
/-- (*scrinium/sector.Disk).Write -/
def sector_Disk_Write (k : Nat) (x : Int × ByteArray × Bool × Bool × Int × Int × (List ByteArray) × (List (Int × ByteArray))) : Option (Int × Bool × Bool × Int × Int × (List ByteArray) × (List (Int × ByteArray))) :=
  condO (ilt x.1 0) (some ((1, x.2.2.1, x.2.2.2.1, x.2.2.2.2.1, x.2.2.2.2.2.1, x.2.2.2.2.2.2.1, x.2.2.2.2.2.2.2))) (condO (ige x.1 (llen x.2.2.2.2.2.2.1)) (some ((1, x.2.2.1, x.2.2.2.1, x.2.2.2.2.1, x.2.2.2.2.2.1, x.2.2.2.2.2.2.1, x.2.2.2.2.2.2.2))) (condO (ine (blen x.2.1) 256) (some ((1, x.2.2.1, x.2.2.2.1, x.2.2.2.2.1, x.2.2.2.2.2.1, x.2.2.2.2.2.2.1, x.2.2.2.2.2.2.2))) ((sector_Disk_step k (x.2.2.1, x.2.2.2.1, x.2.2.2.2.1, x.2.2.2.2.2.1, x.2.2.2.2.2.2.1, x.2.2.2.2.2.2.2)).bind fun r0 => (condO (ieq r0.1 0) (guardO ((appOk r0.2.2.2.2.2.2 ([(x.1, x.2.1)] : List (Int × ByteArray)) 24)) (some ((r0.2.1, r0.2.2.1, r0.2.2.2.1, r0.2.2.2.2.1, r0.2.2.2.2.2.1, (r0.2.2.2.2.2.2 ++ ([(x.1, x.2.1)] : List (Int × ByteArray))))))) (some ((r0.2.1, r0.2.2.1, r0.2.2.2.1, r0.2.2.2.2.1, r0.2.2.2.2.2.1, r0.2.2.2.2.2.2))) : Option (Bool × Bool × Int × Int × (List ByteArray) × (List (Int × ByteArray)))).bind fun r1 => some ((r0.1, r1.1, r1.2.1, r1.2.2.1, r1.2.2.2.1, r1.2.2.2.2.1, r1.2.2.2.2.2)))))
noncomputable def L_sector_Disk_Write_ : Con := ⟨13, ⟨[(0, .v (.a (.ptr 0 0))), (1, .v (.a (.fl (.int .i64)))), (2, .v (.a (.fl .str)))], [], [.box 54 [.sl 1, .sl 2, .fl .bool, .fl .bool, .fl (.int .i64), .fl (.int .i64)], .row 9 .str .own, .row 64 T0 .own]⟩, [⟨[(100000, .v (.a (.fl (.int .i64))))], [(0, .box 54 [.sl 3, .sl 4, .fl .bool, .fl .bool, .fl (.int .i64), .fl (.int .i64)]), (1, .gone), (2, .gone)], [.row 9 .str .own, .row 64 T0 .own]⟩], sector_Disk_Write⟩
theorem ok_sector_Disk_Write : ConOk Try.prog L_sector_Disk_Write_ := con_of (a := mkCon Try.prog G5 inl bk 13 ⟨[(0, .v (.a (.ptr 0 0))), (1, .v (.a (.fl (.int .i64)))), (2, .v (.a (.fl .str)))], [], [.box 54 [.sl 1, .sl 2, .fl .bool, .fl .bool, .fl (.int .i64), .fl (.int .i64)], .row 9 .str .own, .row 64 T0 .own]⟩ ⟨[(.ret, ⟨[(100000, .v (.a (.fl (.int .i64))))], [(0, .box 54 [.sl 3, .sl 4, .fl .bool, .fl .bool, .fl (.int .i64), .fl (.int .i64)]), (1, .gone), (2, .gone)], [.row 9 .str .own, .row 64 T0 .own]⟩)], [0, 1, 2], []⟩ (.n (.b [.nil, .n (.b [.nil, .b [.nil, .j ⟨[(.normal, ⟨[], [(0, .box 54 [.sl 8, .sl 9, .fl .bool, .fl .bool, .fl (.int .i64), .fl (.int .i64)]), (6, .gone), (7, .gone)], [.row 9 .str .own, .row 64 T0 .own]⟩)], [0, 6, 7], []⟩ (.nil) [.nil]]])]))) (by kernel_rfl) (mkCon_ok follows bk_ok okG5 (by kernel_rfl))
noncomputable def G6 : List Con := L_sector_Disk_Write_ :: G5
theorem okG6 : ∀ c ∈ G6, ConOk Try.prog c := forall_cons ok_sector_Disk_Write okG5
/-- (*scrinium/sector.Disk).Read -/
def sector_Disk_Read (k : Nat) (x : Int × Bool × Bool × Int × Int × (List ByteArray) × (List (Int × ByteArray))) : Option (ByteArray × Int) :=
  condO (ilt x.1 0) (some ((str0, 1))) (condO (ige x.1 (llen x.2.2.2.2.2.1)) (some ((str0, 1))) (condO (!x.2.1) (some ((str0, 14))) ((iterL (H := Unit) (E := ByteArray × Int) (backL x.2.2.2.2.2.2) (fun h0 p0 => condO (ine p0.2.1 x.1) (some (.inl (()))) (some (.inr ((p0.2.2, 0))))) (())).bind fun r0 => caseS r0 (fun r0 => guardO ((inR x.1 (llen x.2.2.2.2.2.1))) (some (((at_ .str x.2.2.2.2.2.1 x.1), 0)))) (fun r0 => some ((r0.1, r0.2))))))
noncomputable def L_sector_Disk_Read_ : Con := ⟨15, ⟨[(0, .v (.a (.ptr 0 0))), (1, .v (.a (.fl (.int .i64))))], [], [.box 54 [.sl 1, .sl 2, .fl .bool, .fl .bool, .fl (.int .i64), .fl (.int .i64)], .row 9 .str .lent, .row 64 T0 .lent]⟩, [⟨[(100000, .v (.a (.fl .str))), (100001, .v (.a (.fl (.int .i64))))], [], []⟩], sector_Disk_Read⟩
theorem ok_sector_Disk_Read : ConOk Try.prog L_sector_Disk_Read_ := con_of (a := mkCon Try.prog G6 inl bk 15 ⟨[(0, .v (.a (.ptr 0 0))), (1, .v (.a (.fl (.int .i64))))], [], [.box 54 [.sl 1, .sl 2, .fl .bool, .fl .bool, .fl (.int .i64), .fl (.int .i64)], .row 9 .str .lent, .row 64 T0 .lent]⟩ ⟨[(.ret, ⟨[(100000, .v (.a (.fl .str))), (100001, .v (.a (.fl (.int .i64))))], [], []⟩)], [], [1, 2]⟩ (.n (.d [0, 1, 2, 3, 4, 5] (.b [.nil, .n (.b [.nil, .b [.nil, .n (.r ⟨[(.normal, ⟨[], [], []⟩)], [], [1, 2]⟩ ⟨[(.ret, ⟨[], [(4, .box 9 [.fl .str]), (5, .box 32 [.fl (.int .i64)])], []⟩)], [4, 5], [1, 2]⟩ [.n (.nil)] [.d [0, 1, 2, 3, 5, 6] (.nil)] [.nil])]])])))) (by kernel_rfl) (mkCon_ok follows bk_ok okG6 (by kernel_rfl))
noncomputable def G7 : List Con := L_sector_Disk_Read_ :: G6
theorem okG7 : ∀ c ∈ G7, ConOk Try.prog c := forall_cons ok_sector_Disk_Read okG6
/-- (*scrinium/sector.Disk).Peek -/
def sector_Disk_Peek (k : Nat) (x : Int × Bool × Bool × Int × Int × (List ByteArray) × (List (Int × ByteArray))) : Option (ByteArray) :=
  condO (ilt x.1 0) (some (str0)) (condO (ige x.1 (llen x.2.2.2.2.2.1)) (some (str0)) (guardO ((inR x.1 (llen x.2.2.2.2.2.1))) (some ((at_ .str x.2.2.2.2.2.1 x.1)))))
noncomputable def L_sector_Disk_Peek_ : Con := ⟨17, ⟨[(0, .v (.a (.ptr 0 0))), (1, .v (.a (.fl (.int .i64))))], [], [.box 54 [.sl 1, .sl 2, .fl .bool, .fl .bool, .fl (.int .i64), .fl (.int .i64)], .row 9 .str .lent, .row 64 T0 .lent]⟩, [⟨[(100000, .v (.a (.fl .str)))], [], []⟩], sector_Disk_Peek⟩
theorem ok_sector_Disk_Peek : ConOk Try.prog L_sector_Disk_Peek_ := con_of (a := mkCon Try.prog G7 inl bk 17 ⟨[(0, .v (.a (.ptr 0 0))), (1, .v (.a (.fl (.int .i64))))], [], [.box 54 [.sl 1, .sl 2, .fl .bool, .fl .bool, .fl (.int .i64), .fl (.int .i64)], .row 9 .str .lent, .row 64 T0 .lent]⟩ ⟨[(.ret, ⟨[(100000, .v (.a (.fl .str)))], [], []⟩)], [], [1, 2]⟩ (.n (.b [.nil, .n (.nil)]))) (by kernel_rfl) (mkCon_ok follows bk_ok okG7 (by kernel_rfl))
noncomputable def G8 : List Con := L_sector_Disk_Peek_ :: G7
theorem okG8 : ∀ c ∈ G8, ConOk Try.prog c := forall_cons ok_sector_Disk_Peek okG7
/-- (*scrinium/sector.Disk).settle -/
def sector_Disk_settle (k : Nat) (x : Bool × Bool × Int × Int × (List ByteArray) × (List (Int × ByteArray)) × (List Int)) : Option (Bool × Bool × Int × Int × (List ByteArray) × (List (Int × ByteArray))) :=
  (loopK (H := Int × (List ByteArray)) (E := (List ByteArray)) k (fun h0 => condO (ilt h0.1 (llen x.2.2.2.2.2.1)) (guardO ((inR h0.1 (llen x.2.2.2.2.2.1))) (condO (ilt h0.1 (llen x.2.2.2.2.2.2)) (guardO ((inR h0.1 (llen x.2.2.2.2.2.2))) (guardO ((nz 2)) (condO (ine (Int.tmod (at_ (.int .i64) x.2.2.2.2.2.2 h0.1) 2) 0) (guardO ((inR (at_ T0 x.2.2.2.2.2.1 h0.1).1 (llen h0.2))) (some (.inl (((WK .i64 (h0.1 + 1)), (lset h0.2 (at_ T0 x.2.2.2.2.2.1 h0.1).1 (at_ T0 x.2.2.2.2.2.1 h0.1).2)))))) (some (.inl (((WK .i64 (h0.1 + 1)), h0.2))))))) (some (.inl (((WK .i64 (h0.1 + 1)), h0.2)))))) (some (.inr (h0.2)))) ((0, x.2.2.2.2.1))).bind fun r0 => some ((x.1, x.2.1, x.2.2.1, x.2.2.2.1, r0, ([] : List (Int × ByteArray))))
noncomputable def L_sector_Disk_settle_ : Con := ⟨38, ⟨[(0, .v (.a (.ptr 0 0))), (1, .v (.fn 41 [] [.ptr 1 0]))], [], [.box 54 [.sl 2, .sl 3, .fl .bool, .fl .bool, .fl (.int .i64), .fl (.int .i64)], .box 28 [.sl 4], .row 9 .str .own, .row 64 T0 .own, .row 3 (.int .i64) .lent]⟩, [⟨[], [(0, .box 54 [.sl 5, .sl 6, .fl .bool, .fl .bool, .fl (.int .i64), .fl (.int .i64)]), (2, .gone)], [.row 9 .str .own, .row 64 T0 .own]⟩], sector_Disk_settle⟩
theorem ok_sector_Disk_settle : ConOk Try.prog L_sector_Disk_settle_ := con_of (a := mkCon Try.prog G8 inl bk 38 ⟨[(0, .v (.a (.ptr 0 0))), (1, .v (.fn 41 [] [.ptr 1 0]))], [], [.box 54 [.sl 2, .sl 3, .fl .bool, .fl .bool, .fl (.int .i64), .fl (.int .i64)], .box 28 [.sl 4], .row 9 .str .own, .row 64 T0 .own, .row 3 (.int .i64) .lent]⟩ ⟨[(.ret, ⟨[], [(0, .box 54 [.sl 5, .sl 6, .fl .bool, .fl .bool, .fl (.int .i64), .fl (.int .i64)]), (2, .gone)], [.row 9 .str .own, .row 64 T0 .own]⟩)], [0, 2], [4]⟩ (.l ⟨[(.normal, ⟨[(11, .v (.a (.fl (.int .i64))))], [(2, .row 9 .str .own)], []⟩)], [2], [2, 3, 4]⟩ ⟨[(.exit 0, ⟨[], [(2, .row 9 .str .own)], []⟩)], [2], [2, 3, 4]⟩ [.n (.b [.b [.b [.d [0, 1, 2, 3, 4, 5] (.nil), .nil], .nil], .nil])] [.nil])) (by kernel_rfl) (mkCon_ok follows bk_ok okG8 (by kernel_rfl))
noncomputable def G9 : List Con := L_sector_Disk_settle_ :: G8
theorem okG9 : ∀ c ∈ G9, ConOk Try.prog c := forall_cons ok_sector_Disk_settle okG8
/-- (*scrinium/sector.Disk).Crash -/
def sector_Disk_Crash (k : Nat) (x : Bool × Bool × Int × Int × (List Int) × (List ByteArray) × (List (Int × ByteArray))) : Option (Bool × Bool × Int × Int × (List ByteArray) × (List (Int × ByteArray))) :=
  condO (ieq (llen x.2.2.2.2.2.1) 0) (some ((x.1, x.2.1, x.2.2.1, x.2.2.2.1, x.2.2.2.2.2.1, x.2.2.2.2.2.2))) ((sector_Disk_settle k (x.1, x.2.1, x.2.2.1, x.2.2.2.1, x.2.2.2.2.2.1, x.2.2.2.2.2.2, x.2.2.2.2.1)).bind fun r0 => some ((true, false, r0.2.2.1, r0.2.2.2.1, r0.2.2.2.2.1, r0.2.2.2.2.2)))
noncomputable def L_sector_Disk_Crash_ : Con := ⟨16, ⟨[(0, .v (.a (.ptr 0 0))), (1, .v (.a (.sl 1)))], [], [.box 54 [.sl 2, .sl 3, .fl .bool, .fl .bool, .fl (.int .i64), .fl (.int .i64)], .row 3 (.int .i64) .lent, .row 9 .str .own, .row 64 T0 .own]⟩, [⟨[], [(0, .box 54 [.sl 4, .sl 5, .fl .bool, .fl .bool, .fl (.int .i64), .fl (.int .i64)]), (2, .gone), (3, .gone)], [.row 9 .str .own, .row 64 T0 .own]⟩], sector_Disk_Crash⟩
theorem ok_sector_Disk_Crash : ConOk Try.prog L_sector_Disk_Crash_ := con_of (a := mkCon Try.prog G9 inl bk 16 ⟨[(0, .v (.a (.ptr 0 0))), (1, .v (.a (.sl 1)))], [], [.box 54 [.sl 2, .sl 3, .fl .bool, .fl .bool, .fl (.int .i64), .fl (.int .i64)], .row 3 (.int .i64) .lent, .row 9 .str .own, .row 64 T0 .own]⟩ ⟨[(.ret, ⟨[], [(0, .box 54 [.sl 4, .sl 5, .fl .bool, .fl .bool, .fl (.int .i64), .fl (.int .i64)]), (2, .gone), (3, .gone)], [.row 9 .str .own, .row 64 T0 .own]⟩)], [0, 2, 3], [1]⟩ (.n (.n (.nil)))) (by kernel_rfl) (mkCon_ok follows bk_ok okG9 (by kernel_rfl))
noncomputable def G10 : List Con := L_sector_Disk_Crash_ :: G9
theorem okG10 : ∀ c ∈ G10, ConOk Try.prog c := forall_cons ok_sector_Disk_Crash okG9
/-- (*scrinium/sector.Disk).settle -/
def sector_Disk_settle_2 (k : Nat) (x : Bool × Bool × Int × Int × (List ByteArray) × (List (Int × ByteArray))) : Option (Bool × Bool × Int × Int × (List ByteArray) × (List (Int × ByteArray))) :=
  (loopK (H := Int × (List ByteArray)) (E := (List ByteArray)) k (fun h0 => condO (ilt h0.1 (llen x.2.2.2.2.2)) (guardO ((inR h0.1 (llen x.2.2.2.2.2))) (guardO ((inR (at_ T0 x.2.2.2.2.2 h0.1).1 (llen h0.2))) (some (.inl (((WK .i64 (h0.1 + 1)), (lset h0.2 (at_ T0 x.2.2.2.2.2 h0.1).1 (at_ T0 x.2.2.2.2.2 h0.1).2))))))) (some (.inr (h0.2)))) ((0, x.2.2.2.2.1))).bind fun r0 => some ((x.1, x.2.1, x.2.2.1, x.2.2.2.1, r0, ([] : List (Int × ByteArray))))
noncomputable def L_sector_Disk_settle_2_ : Con := ⟨38, ⟨[(0, .v (.a (.ptr 0 0))), (1, .v (.fn 39 [] []))], [], [.box 54 [.sl 1, .sl 2, .fl .bool, .fl .bool, .fl (.int .i64), .fl (.int .i64)], .row 9 .str .own, .row 64 T0 .own]⟩, [⟨[], [(0, .box 54 [.sl 3, .sl 4, .fl .bool, .fl .bool, .fl (.int .i64), .fl (.int .i64)]), (1, .gone)], [.row 9 .str .own, .row 64 T0 .own]⟩], sector_Disk_settle_2⟩
theorem ok_sector_Disk_settle_2 : ConOk Try.prog L_sector_Disk_settle_2_ := con_of (a := mkCon Try.prog G10 inl bk 38 ⟨[(0, .v (.a (.ptr 0 0))), (1, .v (.fn 39 [] []))], [], [.box 54 [.sl 1, .sl 2, .fl .bool, .fl .bool, .fl (.int .i64), .fl (.int .i64)], .row 9 .str .own, .row 64 T0 .own]⟩ ⟨[(.ret, ⟨[], [(0, .box 54 [.sl 3, .sl 4, .fl .bool, .fl .bool, .fl (.int .i64), .fl (.int .i64)]), (1, .gone)], [.row 9 .str .own, .row 64 T0 .own]⟩)], [0, 1], []⟩ (.l ⟨[(.normal, ⟨[(11, .v (.a (.fl (.int .i64))))], [(1, .row 9 .str .own)], []⟩)], [1], [1, 2]⟩ ⟨[(.exit 0, ⟨[], [(1, .row 9 .str .own)], []⟩)], [1], [1, 2]⟩ [.n (.b [.d [0, 1, 2, 3] (.nil), .nil])] [.nil])) (by kernel_rfl) (mkCon_ok follows bk_ok okG10 (by kernel_rfl))
noncomputable def G11 : List Con := L_sector_Disk_settle_2_ :: G10
theorem okG11 : ∀ c ∈ G11, ConOk Try.prog c := forall_cons ok_sector_Disk_settle_2 okG10
/-- (*scrinium/sector.Disk).Flush -/
def sector_Disk_Flush (k : Nat) (x : Bool × Bool × Int × Int × (List ByteArray) × (List (Int × ByteArray))) : Option (Int × Bool × Bool × Int × Int × (List ByteArray) × (List (Int × ByteArray))) :=
  condO (ieq (llen x.2.2.2.2.1) 0) (some ((1, x.1, x.2.1, x.2.2.1, x.2.2.2.1, x.2.2.2.2.1, x.2.2.2.2.2))) ((sector_Disk_step k (x.1, x.2.1, x.2.2.1, x.2.2.2.1, x.2.2.2.2.1, x.2.2.2.2.2)).bind fun r0 => (condO (ieq r0.1 0) ((sector_Disk_settle_2 k (r0.2.1, r0.2.2.1, r0.2.2.2.1, r0.2.2.2.2.1, r0.2.2.2.2.2.1, r0.2.2.2.2.2.2)).bind fun r1 => some ((r1.1, r1.2.1, r1.2.2.1, r1.2.2.2.1, r1.2.2.2.2.1, r1.2.2.2.2.2))) (some ((r0.2.1, r0.2.2.1, r0.2.2.2.1, r0.2.2.2.2.1, r0.2.2.2.2.2.1, r0.2.2.2.2.2.2))) : Option (Bool × Bool × Int × Int × (List ByteArray) × (List (Int × ByteArray)))).bind fun r1 => some ((r0.1, r1.1, r1.2.1, r1.2.2.1, r1.2.2.2.1, r1.2.2.2.2.1, r1.2.2.2.2.2)))
noncomputable def L_sector_Disk_Flush_ : Con := ⟨14, ⟨[(0, .v (.a (.ptr 0 0)))], [], [.box 54 [.sl 1, .sl 2, .fl .bool, .fl .bool, .fl (.int .i64), .fl (.int .i64)], .row 9 .str .own, .row 64 T0 .own]⟩, [⟨[(100000, .v (.a (.fl (.int .i64))))], [(0, .box 54 [.sl 3, .sl 4, .fl .bool, .fl .bool, .fl (.int .i64), .fl (.int .i64)]), (1, .gone), (2, .gone)], [.row 9 .str .own, .row 64 T0 .own]⟩], sector_Disk_Flush⟩
theorem ok_sector_Disk_Flush : ConOk Try.prog L_sector_Disk_Flush_ := con_of (a := mkCon Try.prog G11 inl bk 14 ⟨[(0, .v (.a (.ptr 0 0)))], [], [.box 54 [.sl 1, .sl 2, .fl .bool, .fl .bool, .fl (.int .i64), .fl (.int .i64)], .row 9 .str .own, .row 64 T0 .own]⟩ ⟨[(.ret, ⟨[(100000, .v (.a (.fl (.int .i64))))], [(0, .box 54 [.sl 3, .sl 4, .fl .bool, .fl .bool, .fl (.int .i64), .fl (.int .i64)]), (1, .gone), (2, .gone)], [.row 9 .str .own, .row 64 T0 .own]⟩)], [0, 1, 2], []⟩ (.n (.n (.b [.nil, .j ⟨[(.normal, ⟨[], [(0, .box 54 [.sl 8, .sl 9, .fl .bool, .fl .bool, .fl (.int .i64), .fl (.int .i64)]), (6, .gone), (7, .gone)], [.row 9 .str .own, .row 64 T0 .own]⟩)], [0, 6, 7], []⟩ (.nil) [.nil]])))) (by kernel_rfl) (mkCon_ok follows bk_ok okG11 (by kernel_rfl))
noncomputable def G12 : List Con := L_sector_Disk_Flush_ :: G11
theorem okG12 : ∀ c ∈ G12, ConOk Try.prog c := forall_cons ok_sector_Disk_Flush okG11
/-- scrinium/scriniumlaw05.awake -/
def law05_awake (k : Nat) (x : Unit) : Option (Bool) :=
  (strings_Repeat k (⟨#[0]⟩, 256)).bind fun r0 => (slices_Repeat k ((mnI (mxI 2 1) 65536), ([r0] : List ByteArray))).bind fun r1 => (ref05_Fill k (strOfNums ([120] : List Int))).bind fun r2 => guardO ((mkOk 256 256 1)) ((sector_Disk_Write k (0, r2.1, true, false, 0, 0, r1, ([] : List (Int × ByteArray)))).bind fun r3 => (sector_Disk_Read k (0, r3.2.1, r3.2.2.1, r3.2.2.2.1, r3.2.2.2.2.1, r3.2.2.2.2.2.1, r3.2.2.2.2.2.2)).bind fun r4 => (sector_Disk_Peek k (0, r3.2.1, r3.2.2.1, r3.2.2.2.1, r3.2.2.2.2.1, r3.2.2.2.2.2.1, r3.2.2.2.2.2.2)).bind fun r5 => (sector_Disk_Crash k (r3.2.1, r3.2.2.1, r3.2.2.2.1, r3.2.2.2.2.1, ([0] : List Int), r3.2.2.2.2.2.1, r3.2.2.2.2.2.2)).bind fun r6 => (sector_Disk_Read k (0, r6.1, r6.2.1, r6.2.2.1, r6.2.2.2.1, r6.2.2.2.2.1, r6.2.2.2.2.2)).bind fun r7 => (sector_Disk_Write k (0, r2.1, r6.1, r6.2.1, r6.2.2.1, r6.2.2.2.1, r6.2.2.2.2.1, r6.2.2.2.2.2)).bind fun r8 => (sector_Disk_Flush k (r8.2.1, r8.2.2.1, r8.2.2.2.1, r8.2.2.2.2.1, r8.2.2.2.2.2.1, r8.2.2.2.2.2.2)).bind fun r9 => (sector_Disk_Crash k (r9.2.1, r9.2.2.1, r9.2.2.2.1, r9.2.2.2.2.1, ([] : List Int), r9.2.2.2.2.2.1, r9.2.2.2.2.2.2)).bind fun r10 => (sector_Disk_Read k (0, r10.1, r10.2.1, r10.2.2.1, r10.2.2.2.1, r10.2.2.2.2.1, r10.2.2.2.2.2)).bind fun r11 => (sector_Disk_Write k (1, r2.1, r10.1, true, (mxI 1 0), r10.2.2.2.1, r10.2.2.2.2.1, r10.2.2.2.2.2)).bind fun r12 => (sector_Disk_Write k (1, r2.1, r12.2.1, r12.2.2.1, r12.2.2.2.1, r12.2.2.2.2.1, r12.2.2.2.2.2.1, r12.2.2.2.2.2.2)).bind fun r13 => condO (ieq r3.1 0) (condO (sEq r4.1 r2.1) (condO (sEq r5 (strOfNums (lrep 256 (0 : Int)))) (condO (sEq r7.1 (strOfNums (lrep 256 (0 : Int)))) (condO (ieq r9.1 0) (condO (sEq r11.1 r2.1) (condO (ieq r12.1 0) (condO (ieq r13.1 14) (some ((!r13.2.1))) (some (false))) (some (false))) (some (false))) (some (false))) (some (false))) (some (false))) (some (false))) (some (false)))
noncomputable def L_law05_awake_ : Con := ⟨10, ⟨[], [], []⟩, [⟨[(100000, .v (.a (.fl .bool)))], [], []⟩], law05_awake⟩
theorem ok_law05_awake : ConOk Try.prog L_law05_awake_ := con_of (a := mkCon Try.prog G12 inl bk 10 ⟨[], [], []⟩ ⟨[(.ret, ⟨[(100000, .v (.a (.fl .bool)))], [], []⟩)], [], []⟩ (.n (.nil))) (by kernel_rfl) (mkCon_ok follows bk_ok okG12 (by kernel_rfl))
noncomputable def G13 : List Con := L_law05_awake_ :: G12
theorem okG13 : ∀ c ∈ G13, ConOk Try.prog c := forall_cons ok_law05_awake okG12
/-- scrinium/scriniumlaw05.SectorApart -/
def law05_SectorApart (k : Nat) (x : Int × (List (Int × (Int × (Int × (Int × (Bool × (List Int)))))))) : Option (Bool) :=
  (law05_awake k ()).bind fun r0 => (strings_Repeat k (⟨#[0]⟩, 256)).bind fun r1 => (slices_Repeat k ((mnI (mxI 8 1) 65536), ([r1] : List ByteArray))).bind fun r2 => (loopK (H := Int × (Vector ByteArray 8)) (E := (Vector ByteArray 8)) k (fun h3 => condO (ilt h3.1 8) (guardO ((mkOk 256 256 1)) (guardO ((inR h3.1 8)) (some (.inl (((WK .i64 (h3.1 + 1)), (vSet h3.2 h3.1 (strOfNums (lrep 256 (0 : Int)))))))))) (some (.inr (h3.2)))) ((0, (Vector.replicate 8 str0)))).bind fun r3 => (loopK (H := Int × Bool × Bool × Int × Int × (Vector ByteArray 8) × (List ByteArray) × (List (Int × ByteArray))) (E := (Bool × Bool × Bool × Int × Int × (Vector ByteArray 8) × (List ByteArray) × (List (Int × ByteArray))) ⊕ (Bool × Bool × Int × Int × (Vector ByteArray 8) × (List ByteArray) × (List (Int × ByteArray)))) k (fun h4 => condO (ilt h4.1 (llen x.2)) (condO (ilt h4.1 40) (guardO ((inR h4.1 (llen x.2))) (guardO ((inR h4.1 (llen x.2))) ((ref05_Fill k (strOfNums ([(at_ T1 x.2 h4.1).2.2.2.1] : List Int))).bind fun r5 => guardO ((inR (andK .i64 (at_ T1 x.2 h4.1).2.1 7) 8)) ((guardO ((inR (andK .i64 (at_ T1 x.2 h4.1).2.1 7) 8)) ((sector_Disk_Write k ((andK .i64 (at_ T1 x.2 h4.1).2.1 7), (vAt str0 (vSet h4.2.2.2.2.2.1 (andK .i64 (at_ T1 x.2 h4.1).2.1 7) r5.1) (andK .i64 (at_ T1 x.2 h4.1).2.1 7)), h4.2.1, h4.2.2.1, h4.2.2.2.1, h4.2.2.2.2.1, h4.2.2.2.2.2.2.1, h4.2.2.2.2.2.2.2)).bind fun r6 => condO (ine r6.1 0) (some (.inl (false, r6.2.1, r6.2.2.1, r6.2.2.2.1, r6.2.2.2.2.1, r6.2.2.2.2.2.1, r6.2.2.2.2.2.2))) (condO (ieq h4.1 x.1) ((sector_Disk_Flush k (r6.2.1, r6.2.2.1, r6.2.2.2.1, r6.2.2.2.2.1, r6.2.2.2.2.2.1, r6.2.2.2.2.2.2)).bind fun r7 => condO (ine r7.1 0) (some (.inl (false, r7.2.1, r7.2.2.1, r7.2.2.2.1, r7.2.2.2.2.1, r7.2.2.2.2.2.1, r7.2.2.2.2.2.2))) (some (.inr ((r7.2.1, r7.2.2.1, r7.2.2.2.1, r7.2.2.2.2.1, r7.2.2.2.2.2.1, r7.2.2.2.2.2.2))))) (some (.inr ((r6.2.1, r6.2.2.1, r6.2.2.2.1, r6.2.2.2.2.1, r6.2.2.2.2.2.1, r6.2.2.2.2.2.2)))))) : Option ((Bool × Bool × Bool × Int × Int × (List ByteArray) × (List (Int × ByteArray))) ⊕ (Bool × Bool × Int × Int × (List ByteArray) × (List (Int × ByteArray))))).bind fun r6 => caseS r6 (fun r6 => some (.inr (.inl (r6.1, r6.2.1, r6.2.2.1, r6.2.2.2.1, r6.2.2.2.2.1, (vSet h4.2.2.2.2.2.1 (andK .i64 (at_ T1 x.2 h4.1).2.1 7) r5.1), r6.2.2.2.2.2.1, r6.2.2.2.2.2.2)))) (fun r6 => (loopK (H := Int) (E := (Bool) ⊕ (Unit)) k (fun h7 => condO (ilt h7 8) ((sector_Disk_Read k (h7, r6.1, r6.2.1, r6.2.2.1, r6.2.2.2.1, r6.2.2.2.2.1, r6.2.2.2.2.2)).bind fun r8 => condO (ine r8.2 0) (some (.inr (.inl false))) (guardO ((inR h7 8)) (condO (!(sEq r8.1 (vAt str0 (vSet h4.2.2.2.2.2.1 (andK .i64 (at_ T1 x.2 h4.1).2.1 7) r5.1) h7))) (some (.inr (.inl false))) (some (.inl ((WK .i64 (h7 + 1)))))))) (some (.inr (.inr (()))))) (0)).bind fun r7 => caseS r7 (fun r7 => some (.inr (.inl (r7, r6.1, r6.2.1, r6.2.2.1, r6.2.2.2.1, (vSet h4.2.2.2.2.2.1 (andK .i64 (at_ T1 x.2 h4.1).2.1 7) r5.1), r6.2.2.2.2.1, r6.2.2.2.2.2)))) (fun r7 => some (.inl (((WK .i64 (h4.1 + 1)), r6.1, r6.2.1, r6.2.2.1, r6.2.2.2.1, (vSet h4.2.2.2.2.2.1 (andK .i64 (at_ T1 x.2 h4.1).2.1 7) r5.1), r6.2.2.2.2.1, r6.2.2.2.2.2))))))))) (some (.inr (.inr ((h4.2.1, h4.2.2.1, h4.2.2.2.1, h4.2.2.2.2.1, h4.2.2.2.2.2.1, h4.2.2.2.2.2.2.1, h4.2.2.2.2.2.2.2)))))) (some (.inr (.inr ((h4.2.1, h4.2.2.1, h4.2.2.2.1, h4.2.2.2.2.1, h4.2.2.2.2.2.1, h4.2.2.2.2.2.2.1, h4.2.2.2.2.2.2.2)))))) ((0, true, false, 0, 0, r3, r2, ([] : List (Int × ByteArray))))).bind fun r4 => caseS r4 (fun r4 => some (r4.1)) (fun r4 => some (r0))
noncomputable def L_law05_SectorApart_ : Con := ⟨3, ⟨[(0, .v (.a (.sl 0))), (1, .v (.a (.fl (.int .i64))))], [], [.row 30 T1 .lent]⟩, [⟨[(100000, .v (.a (.fl .bool)))], [], []⟩], law05_SectorApart⟩
theorem ok_law05_SectorApart : ConOk Try.prog L_law05_SectorApart_ := con_of (a := mkCon Try.prog G13 inl bk 3 ⟨[(0, .v (.a (.sl 0))), (1, .v (.a (.fl (.int .i64))))], [], [.row 30 T1 .lent]⟩ ⟨[(.ret, ⟨[(100000, .v (.a (.fl .bool)))], [], []⟩)], [], [0]⟩ (.n (.n (.l ⟨[(.normal, ⟨[(8, .v (.a (.fl (.int .i64))))], [(5, .box 26 [.fl T2])], []⟩)], [5], [0, 3]⟩ ⟨[(.exit 0, ⟨[], [(5, .box 26 [.fl T2])], []⟩)], [5], [0, 3]⟩ [.n (.nil)] [.n (.l ⟨[(.normal, ⟨[(9, .v (.a (.fl (.int .i64))))], [(3, .gone), (4, .box 54 [.sl 6, .sl 7, .fl .bool, .fl .bool, .fl (.int .i64), .fl (.int .i64)]), (5, .box 26 [.fl T2])], [.row 9 .str .own, .row 64 T0 .own]⟩)], [3, 4, 5], [0]⟩ ⟨[(.ret, ⟨[(4, .v (.a (.fl .bool)))], [(3, .gone), (4, .box 54 [.sl 6, .sl 7, .fl .bool, .fl .bool, .fl (.int .i64), .fl (.int .i64)]), (5, .box 26 [.fl T2])], [.row 9 .str .own, .row 64 T0 .own]⟩), (.exit 2, ⟨[], [(3, .gone), (4, .box 54 [.sl 6, .sl 7, .fl .bool, .fl .bool, .fl (.int .i64), .fl (.int .i64)]), (5, .box 26 [.fl T2])], [.row 9 .str .own, .row 64 T0 .own]⟩)], [3, 4, 5], []⟩ [.n (.b [.b [.j ⟨[(.ret, ⟨[(4, .v (.a (.fl .bool)))], [(4, .box 54 [.sl 9, .sl 10, .fl .bool, .fl .bool, .fl (.int .i64), .fl (.int .i64)]), (6, .gone), (7, .gone)], [.row 9 .str .own, .row 64 T0 .own]⟩), (.normal, ⟨[], [(4, .box 54 [.sl 9, .sl 10, .fl .bool, .fl .bool, .fl (.int .i64), .fl (.int .i64)]), (6, .gone), (7, .gone)], [.row 9 .str .own, .row 64 T0 .own]⟩)], [4, 6, 7], [0]⟩ (.nil) [.nil, .l ⟨[(.normal, ⟨[(11, .v (.a (.fl (.int .i64))))], [], []⟩)], [], [0, 9, 10]⟩ ⟨[(.ret, ⟨[(4, .v (.a (.fl .bool)))], [], []⟩), (.exit 4, ⟨[], [], []⟩)], [], [0, 9, 10]⟩ [.n (.nil)] [.nil, .nil]], .nil], .nil])] [.nil, .nil])])))) (by kernel_rfl) (mkCon_ok follows bk_ok okG13 (by kernel_rfl))
noncomputable def G14 : List Con := L_law05_SectorApart_ :: G13
theorem okG14 : ∀ c ∈ G14, ConOk Try.prog c := forall_cons ok_law05_SectorApart okG13
/-- scrinium/scriniumlaw05.SectorLasts -/
def law05_SectorLasts (k : Nat) (x : (List (Int × (Int × (Int × (Int × (Bool × (List Int))))))) × (List (Int × (Int × (Int × (Int × (Bool × (List Int))))))) × (List Int)) : Option (Bool) :=
  (law05_awake k ()).bind fun r0 => (strings_Repeat k (⟨#[0]⟩, 256)).bind fun r1 => (slices_Repeat k ((mnI (mxI 4 1) 65536), ([r1] : List ByteArray))).bind fun r2 => guardO ((mkOk 256 256 1)) ((loopK (H := Int × Bool × Bool × Int × Int × (Vector ByteArray 4) × (List ByteArray) × (List (Int × ByteArray))) (E := (Bool × Bool × Bool × Int × Int × (Vector ByteArray 4) × (List ByteArray) × (List (Int × ByteArray))) ⊕ (Bool × Bool × Int × Int × (Vector ByteArray 4) × (List ByteArray) × (List (Int × ByteArray)))) k (fun h3 => condO (ilt h3.1 (llen x.1)) (condO (ilt h3.1 20) (guardO ((inR h3.1 (llen x.1))) (guardO ((inR h3.1 (llen x.1))) ((ref05_Fill k (strOfNums ([(at_ T1 x.1 h3.1).2.2.2.1] : List Int))).bind fun r4 => guardO ((inR (andK .i64 (at_ T1 x.1 h3.1).2.1 3) 4)) (guardO ((inR (andK .i64 (at_ T1 x.1 h3.1).2.1 3) 4)) ((sector_Disk_Write k ((andK .i64 (at_ T1 x.1 h3.1).2.1 3), (vAt str0 (vSet h3.2.2.2.2.2.1 (andK .i64 (at_ T1 x.1 h3.1).2.1 3) r4.1) (andK .i64 (at_ T1 x.1 h3.1).2.1 3)), h3.2.1, h3.2.2.1, h3.2.2.2.1, h3.2.2.2.2.1, h3.2.2.2.2.2.2.1, h3.2.2.2.2.2.2.2)).bind fun r5 => condO (ine r5.1 0) (some (.inr (.inl (false, r5.2.1, r5.2.2.1, r5.2.2.2.1, r5.2.2.2.2.1, (vSet h3.2.2.2.2.2.1 (andK .i64 (at_ T1 x.1 h3.1).2.1 3) r4.1), r5.2.2.2.2.2.1, r5.2.2.2.2.2.2)))) (some (.inl (((WK .i64 (h3.1 + 1)), r5.2.1, r5.2.2.1, r5.2.2.2.1, r5.2.2.2.2.1, (vSet h3.2.2.2.2.2.1 (andK .i64 (at_ T1 x.1 h3.1).2.1 3) r4.1), r5.2.2.2.2.2.1, r5.2.2.2.2.2.2))))))))) (some (.inr (.inr ((h3.2.1, h3.2.2.1, h3.2.2.2.1, h3.2.2.2.2.1, h3.2.2.2.2.2.1, h3.2.2.2.2.2.2.1, h3.2.2.2.2.2.2.2)))))) (some (.inr (.inr ((h3.2.1, h3.2.2.1, h3.2.2.2.1, h3.2.2.2.2.1, h3.2.2.2.2.2.1, h3.2.2.2.2.2.2.1, h3.2.2.2.2.2.2.2)))))) ((0, true, false, 0, 0, ⟨#[(strOfNums (lrep 256 (0 : Int))), (strOfNums (lrep 256 (0 : Int))), (strOfNums (lrep 256 (0 : Int))), (strOfNums (lrep 256 (0 : Int)))], rfl⟩, r2, ([] : List (Int × ByteArray))))).bind fun r3 => caseS r3 (fun r3 => some (r3.1)) (fun r3 => (sector_Disk_Flush k (r3.1, r3.2.1, r3.2.2.1, r3.2.2.2.1, r3.2.2.2.2.2.1, r3.2.2.2.2.2.2)).bind fun r4 => condO (ine r4.1 0) (some (false)) ((loopK (H := Int × Bool × Bool × Int × Int × (List ByteArray) × (List (Int × ByteArray))) (E := (Bool × Bool × Bool × Int × Int × (List ByteArray) × (List (Int × ByteArray))) ⊕ (Bool × Bool × Int × Int × (List ByteArray) × (List (Int × ByteArray)))) k (fun h5 => condO (ilt h5.1 (llen x.2.1)) (condO (ilt h5.1 20) (guardO ((inR h5.1 (llen x.2.1))) (guardO ((inR h5.1 (llen x.2.1))) ((ref05_Fill k (strOfNums ([(at_ T1 x.2.1 h5.1).2.2.2.1] : List Int))).bind fun r6 => (sector_Disk_Write k ((andK .i64 (at_ T1 x.2.1 h5.1).2.1 3), r6.1, h5.2.1, h5.2.2.1, h5.2.2.2.1, h5.2.2.2.2.1, h5.2.2.2.2.2.1, h5.2.2.2.2.2.2)).bind fun r7 => condO (ine r7.1 0) (some (.inr (.inl (false, r7.2.1, r7.2.2.1, r7.2.2.2.1, r7.2.2.2.2.1, r7.2.2.2.2.2.1, r7.2.2.2.2.2.2)))) (some (.inl (((WK .i64 (h5.1 + 1)), r7.2.1, r7.2.2.1, r7.2.2.2.1, r7.2.2.2.2.1, r7.2.2.2.2.2.1, r7.2.2.2.2.2.2))))))) (some (.inr (.inr ((h5.2.1, h5.2.2.1, h5.2.2.2.1, h5.2.2.2.2.1, h5.2.2.2.2.2.1, h5.2.2.2.2.2.2)))))) (some (.inr (.inr ((h5.2.1, h5.2.2.1, h5.2.2.2.1, h5.2.2.2.2.1, h5.2.2.2.2.2.1, h5.2.2.2.2.2.2)))))) ((0, r4.2.1, r4.2.2.1, r4.2.2.2.1, r4.2.2.2.2.1, r4.2.2.2.2.2.1, r4.2.2.2.2.2.2))).bind fun r5 => caseS r5 (fun r5 => some (r5.1)) (fun r5 => (condO (igt (llen x.2.2) 20) (guardO ((cutOk4 0 20 (llen x.2.2) 20)) (some ((ltake 20 x.2.2)))) (some (x.2.2)) : Option ((List Int))).bind fun r6 => (sector_Disk_Crash k (r5.1, r5.2.1, r5.2.2.1, r5.2.2.2.1, r6, r5.2.2.2.2.1, r5.2.2.2.2.2)).bind fun r7 => (loopK (H := Int) (E := (Bool) ⊕ (Unit)) k (fun h8 => condO (ilt h8 4) ((sector_Disk_Read k (h8, r7.1, r7.2.1, r7.2.2.1, r7.2.2.2.1, r7.2.2.2.2.1, r7.2.2.2.2.2)).bind fun r9 => guardO ((inR h8 4)) ((loopK (H := Bool × Int) (E := Bool) k (fun h10 => condO (ilt h10.2 (llen x.2.1)) (condO (ilt h10.2 20) (condO h10.1 (some (.inl ((true, (WK .i64 (h10.2 + 1)))))) (guardO ((inR h10.2 (llen x.2.1))) (condO (ieq (andK .i64 (at_ T1 x.2.1 h10.2).2.1 3) h8) (guardO ((inR h10.2 (llen x.2.1))) ((ref05_Fill k (strOfNums ([(at_ T1 x.2.1 h10.2).2.2.2.1] : List Int))).bind fun r11 => some (.inl (((sEq r9.1 r11.1), (WK .i64 (h10.2 + 1))))))) (some (.inl ((false, (WK .i64 (h10.2 + 1))))))))) (some (.inr (h10.1)))) (some (.inr (h10.1)))) (((sEq r9.1 (vAt str0 r3.2.2.2.2.1 h8)), 0))).bind fun r10 => condO (!r10) (some (.inr (.inl false))) (condO (ine r9.2 0) (some (.inr (.inl false))) ((sector_Disk_Peek k (h8, r7.1, r7.2.1, r7.2.2.1, r7.2.2.2.1, r7.2.2.2.2.1, r7.2.2.2.2.2)).bind fun r11 => condO (!(sEq r11 r9.1)) (some (.inr (.inl false))) (some (.inl ((WK .i64 (h8 + 1))))))))) (some (.inr (.inr (()))))) (0)).bind fun r8 => caseS r8 (fun r8 => some (r8)) (fun r8 => condO r0 (some ((ieq (llen r7.2.2.2.2.2) 0))) (some (false)))))))
noncomputable def L_law05_SectorLasts_ : Con := ⟨4, ⟨[(0, .v (.a (.sl 0))), (1, .v (.a (.sl 1))), (2, .v (.a (.sl 2)))], [], [.row 30 T1 .lent, .row 30 T1 .lent, .row 3 (.int .i64) .lent]⟩, [⟨[(100000, .v (.a (.fl .bool)))], [], []⟩], law05_SectorLasts⟩
theorem ok_law05_SectorLasts : ConOk Try.prog L_law05_SectorLasts_ := con_of (a := mkCon Try.prog G14 inl bk 4 ⟨[(0, .v (.a (.sl 0))), (1, .v (.a (.sl 1))), (2, .v (.a (.sl 2)))], [], [.row 30 T1 .lent, .row 30 T1 .lent, .row 3 (.int .i64) .lent]⟩ ⟨[(.ret, ⟨[(100000, .v (.a (.fl .bool)))], [], []⟩)], [], [0, 1, 2]⟩ (.n (.n (.l ⟨[(.normal, ⟨[(11, .v (.a (.fl (.int .i64))))], [(5, .gone), (6, .box 54 [.sl 9, .sl 10, .fl .bool, .fl .bool, .fl (.int .i64), .fl (.int .i64)]), (8, .box 38 [.fl T3])], [.row 9 .str .own, .row 64 T0 .own]⟩)], [5, 6, 8], [0, 1, 2]⟩ ⟨[(.ret, ⟨[(6, .v (.a (.fl .bool)))], [(5, .gone), (6, .box 54 [.sl 9, .sl 10, .fl .bool, .fl .bool, .fl (.int .i64), .fl (.int .i64)]), (8, .box 38 [.fl T3])], [.row 9 .str .own, .row 64 T0 .own]⟩), (.exit 0, ⟨[], [(5, .gone), (6, .box 54 [.sl 9, .sl 10, .fl .bool, .fl .bool, .fl (.int .i64), .fl (.int .i64)]), (8, .box 38 [.fl T3])], [.row 9 .str .own, .row 64 T0 .own]⟩)], [5, 6, 8], [1, 2]⟩ [.n (.nil)] [.nil, .n (.b [.nil, .n (.l ⟨[(.normal, ⟨[(13, .v (.a (.fl (.int .i64))))], [(6, .box 54 [.sl 16, .sl 17, .fl .bool, .fl .bool, .fl (.int .i64), .fl (.int .i64)]), (14, .gone), (15, .gone)], [.row 9 .str .own, .row 64 T0 .own]⟩)], [6, 14, 15], [1, 2]⟩ ⟨[(.ret, ⟨[(6, .v (.a (.fl .bool)))], [(6, .box 54 [.sl 16, .sl 17, .fl .bool, .fl .bool, .fl (.int .i64), .fl (.int .i64)]), (14, .gone), (15, .gone)], [.row 9 .str .own, .row 64 T0 .own]⟩), (.exit 2, ⟨[], [(6, .box 54 [.sl 16, .sl 17, .fl .bool, .fl .bool, .fl (.int .i64), .fl (.int .i64)]), (14, .gone), (15, .gone)], [.row 9 .str .own, .row 64 T0 .own]⟩)], [6, 14, 15], [1, 2]⟩ [.n (.b [.b [.d [0, 1, 2, 3, 4, 5, 7, 8, 9, 10, 11, 12, 13, 14, 15] (.nil), .nil], .nil])] [.nil, .j ⟨[(.normal, ⟨[(2, .v (.a (.sl 18)))], [], [.row 3 (.int .i64) .lent]⟩)], [], [1, 16, 17]⟩ (.nil) [.n (.l ⟨[(.normal, ⟨[(14, .v (.a (.fl (.int .i64))))], [], []⟩)], [], [1, 23, 24]⟩ ⟨[(.ret, ⟨[(6, .v (.a (.fl .bool)))], [], []⟩), (.exit 4, ⟨[], [], []⟩)], [], [23, 24]⟩ [.n (.b [.n (.l ⟨[(.normal, ⟨[(17, .v (.a (.fl .bool))), (18, .v (.a (.fl (.int .i64))))], [], []⟩)], [], [1, 23, 24]⟩ ⟨[(.exit 6, ⟨[(17, .v (.a (.fl .bool)))], [], []⟩)], [], [1, 23, 24]⟩ [.n (.nil)] [.nil]), .nil])] [.nil, .b [.n (.nil), .nil]])]])])])))) (by kernel_rfl) (mkCon_ok follows bk_ok okG14 (by kernel_rfl))
noncomputable def G15 : List Con := L_law05_SectorLasts_ :: G14
theorem okG15 : ∀ c ∈ G15, ConOk Try.prog c := forall_cons ok_law05_SectorLasts okG14
/-- scrinium/scriniumlaw05.SectorArms -/
def law05_SectorArms (k : Nat) (x : Int × (List (Int × (Int × (Int × (Int × (Bool × (List Int)))))))) : Option (Bool) :=
  (law05_awake k ()).bind fun r0 => (strings_Repeat k (⟨#[0]⟩, 256)).bind fun r1 => (slices_Repeat k ((mnI (mxI 4 1) 65536), ([r1] : List ByteArray))).bind fun r2 => guardO ((nz 41)) ((condO (ilt (Int.tmod x.1 41) 0) (some ((WK .i64 (0 - (Int.tmod x.1 41))))) (some ((Int.tmod x.1 41))) : Option (Int)).bind fun r3 => (loopK (H := Int × Int × Bool × Bool × Int × Int × (List ByteArray) × (List (Int × ByteArray))) (E := (Bool × Bool × Bool × Int × Int × (List ByteArray) × (List (Int × ByteArray))) ⊕ (Int × Bool × Bool × Int × Int × (List ByteArray) × (List (Int × ByteArray)))) k (fun h4 => condO (ilt h4.2.1 (llen x.2)) (condO (ilt h4.2.1 60) (guardO ((inR h4.2.1 (llen x.2))) (guardO ((inR h4.2.1 (llen x.2))) ((ref05_Fill k (strOfNums ([(at_ T1 x.2 h4.2.1).2.2.2.1] : List Int))).bind fun r5 => (sector_Disk_Write k ((andK .i64 (at_ T1 x.2 h4.2.1).2.1 3), r5.1, h4.2.2.1, h4.2.2.2.1, h4.2.2.2.2.1, h4.2.2.2.2.2.1, h4.2.2.2.2.2.2.1, h4.2.2.2.2.2.2.2)).bind fun r6 => condO (!(beq (ieq r6.1 0) (ilt h4.1 r3))) (some (.inr (.inl (false, r6.2.1, r6.2.2.1, r6.2.2.2.1, r6.2.2.2.2.1, r6.2.2.2.2.2.1, r6.2.2.2.2.2.2)))) ((condO (ieq r6.1 0) (some ((WK .i64 (h4.1 + 1)))) (some (h4.1)) : Option (Int)).bind fun r7 => (guardO ((nz 3)) (condO (ieq (Int.tmod h4.2.1 3) 2) ((sector_Disk_Flush k (r6.2.1, r6.2.2.1, r6.2.2.2.1, r6.2.2.2.2.1, r6.2.2.2.2.2.1, r6.2.2.2.2.2.2)).bind fun r8 => condO (!(beq (ieq r8.1 0) (ilt r7 r3))) (some (.inl (false, r8.2.1, r8.2.2.1, r8.2.2.2.1, r8.2.2.2.2.1, r8.2.2.2.2.2.1, r8.2.2.2.2.2.2))) (condO (ieq r8.1 0) (some (.inr (((WK .i64 (r7 + 1)), r8.2.1, r8.2.2.1, r8.2.2.2.1, r8.2.2.2.2.1, r8.2.2.2.2.2.1, r8.2.2.2.2.2.2)))) (some (.inr ((r7, r8.2.1, r8.2.2.1, r8.2.2.2.1, r8.2.2.2.2.1, r8.2.2.2.2.2.1, r8.2.2.2.2.2.2)))))) (some (.inr ((r7, r6.2.1, r6.2.2.1, r6.2.2.2.1, r6.2.2.2.2.1, r6.2.2.2.2.2.1, r6.2.2.2.2.2.2))))) : Option ((Bool × Bool × Bool × Int × Int × (List ByteArray) × (List (Int × ByteArray))) ⊕ (Int × Bool × Bool × Int × Int × (List ByteArray) × (List (Int × ByteArray))))).bind fun r8 => caseS r8 (fun r8 => some (.inr (.inl (r8.1, r8.2.1, r8.2.2.1, r8.2.2.2.1, r8.2.2.2.2.1, r8.2.2.2.2.2.1, r8.2.2.2.2.2.2)))) (fun r8 => (sector_Disk_Read k (0, r8.2.1, r8.2.2.1, r8.2.2.2.1, r8.2.2.2.2.1, r8.2.2.2.2.2.1, r8.2.2.2.2.2.2)).bind fun r9 => condO (ine r8.2.2.2.2.1 r8.1) (some (.inr (.inl (false, r8.2.1, r8.2.2.1, r8.2.2.2.1, r8.2.2.2.2.1, r8.2.2.2.2.2.1, r8.2.2.2.2.2.2)))) (condO (!(beq r8.2.1 (ieq r9.2 0))) (some (.inr (.inl (false, r8.2.1, r8.2.2.1, r8.2.2.2.1, r8.2.2.2.2.1, r8.2.2.2.2.2.1, r8.2.2.2.2.2.2)))) (some (.inl ((r8.1, (WK .i64 (h4.2.1 + 1)), r8.2.1, r8.2.2.1, r8.2.2.2.1, r8.2.2.2.2.1, r8.2.2.2.2.2.1, r8.2.2.2.2.2.2)))))))))) (some (.inr (.inr ((h4.1, h4.2.2.1, h4.2.2.2.1, h4.2.2.2.2.1, h4.2.2.2.2.2.1, h4.2.2.2.2.2.2.1, h4.2.2.2.2.2.2.2)))))) (some (.inr (.inr ((h4.1, h4.2.2.1, h4.2.2.2.1, h4.2.2.2.2.1, h4.2.2.2.2.2.1, h4.2.2.2.2.2.2.1, h4.2.2.2.2.2.2.2)))))) ((0, 0, true, true, (mxI r3 0), 0, r2, ([] : List (Int × ByteArray))))).bind fun r4 => caseS r4 (fun r4 => some (r4.1)) (fun r4 => (sector_Disk_Crash k (r4.2.1, r4.2.2.1, r4.2.2.2.1, r4.2.2.2.2.1, ([] : List Int), r4.2.2.2.2.2.1, r4.2.2.2.2.2.2)).bind fun r5 => condO r0 (condO r5.1 ((ref05_Fill k (strOfNums ([120] : List Int))).bind fun r6 => (sector_Disk_Write k (0, r6.1, r5.1, r5.2.1, r5.2.2.1, r5.2.2.2.1, r5.2.2.2.2.1, r5.2.2.2.2.2)).bind fun r7 => condO (ieq r7.1 0) (some ((ieq r7.2.2.2.2.1 (WK .i64 (r4.1 + 1))))) (some (false))) (some (false))) (some (false))))
noncomputable def L_law05_SectorArms_ : Con := ⟨5, ⟨[(0, .v (.a (.fl (.int .i64)))), (1, .v (.a (.sl 0)))], [], [.row 30 T1 .lent]⟩, [⟨[(100000, .v (.a (.fl .bool)))], [], []⟩], law05_SectorArms⟩
theorem ok_law05_SectorArms : ConOk Try.prog L_law05_SectorArms_ := con_of (a := mkCon Try.prog G15 inl bk 5 ⟨[(0, .v (.a (.fl (.int .i64)))), (1, .v (.a (.sl 0)))], [], [.row 30 T1 .lent]⟩ ⟨[(.ret, ⟨[(100000, .v (.a (.fl .bool)))], [], []⟩)], [], [0]⟩ (.n (.j ⟨[(.normal, ⟨[(7, .v (.a (.fl (.int .i64))))], [], []⟩)], [], [0, 3]⟩ (.nil) [.n (.l ⟨[(.normal, ⟨[(8, .v (.a (.fl (.int .i64)))), (9, .v (.a (.fl (.int .i64))))], [(3, .gone), (4, .box 54 [.sl 5, .sl 6, .fl .bool, .fl .bool, .fl (.int .i64), .fl (.int .i64)])], [.row 9 .str .own, .row 64 T0 .own]⟩)], [3, 4], [0]⟩ ⟨[(.ret, ⟨[(4, .v (.a (.fl .bool)))], [(3, .gone), (4, .box 54 [.sl 5, .sl 6, .fl .bool, .fl .bool, .fl (.int .i64), .fl (.int .i64)])], [.row 9 .str .own, .row 64 T0 .own]⟩), (.exit 0, ⟨[(8, .v (.a (.fl (.int .i64))))], [(3, .gone), (4, .box 54 [.sl 5, .sl 6, .fl .bool, .fl .bool, .fl (.int .i64), .fl (.int .i64)])], [.row 9 .str .own, .row 64 T0 .own]⟩)], [3, 4], []⟩ [.n (.b [.b [.d [0, 1, 2, 3] (.n (.b [.nil, .j ⟨[(.normal, ⟨[(8, .v (.a (.fl (.int .i64))))], [], []⟩)], [], [0, 11, 12]⟩ (.nil) [.j ⟨[(.ret, ⟨[(4, .v (.a (.fl .bool)))], [(4, .box 54 [.sl 13, .sl 14, .fl .bool, .fl .bool, .fl (.int .i64), .fl (.int .i64)]), (11, .gone), (12, .gone)], [.row 9 .str .own, .row 64 T0 .own]⟩), (.normal, ⟨[(8, .v (.a (.fl (.int .i64))))], [(4, .box 54 [.sl 13, .sl 14, .fl .bool, .fl .bool, .fl (.int .i64), .fl (.int .i64)]), (11, .gone), (12, .gone)], [.row 9 .str .own, .row 64 T0 .own]⟩)], [4, 11, 12], [0]⟩ (.b [.n (.nil), .nil]) [.nil, .n (.nil)]]])), .nil], .nil])] [.nil, .b [.b [.b [.n (.nil), .nil], .nil], .nil]])]))) (by kernel_rfl) (mkCon_ok follows bk_ok okG15 (by kernel_rfl))
noncomputable def G16 : List Con := L_law05_SectorArms_ :: G15
theorem okG16 : ∀ c ∈ G16, ConOk Try.prog c := forall_cons ok_law05_SectorArms okG15
/-- scrinium/scriniumref05.New -/
def ref05_New (k : Nat) (x : Int) : Option (Bool × Int × Int × (List ByteArray) × (List (Int × ByteArray))) :=
  (condO (ilt x 1) (some (1)) (some (x)) : Option (Int)).bind fun r0 => (condO (igt r0 65536) (some (65536)) (some (r0)) : Option (Int)).bind fun r1 => (loopK (H := Int × Bool × Int × Int × (List ByteArray) × (List (Int × ByteArray))) (E := Bool × Int × Int × (List ByteArray) × (List (Int × ByteArray))) k (fun h2 => condO (ilt h2.1 r1) (guardO ((mkOk 256 256 1)) (guardO ((appOk h2.2.2.2.2.1 ([(strOfNums (lrep 256 (0 : Int)))] : List ByteArray) 16)) (some (.inl (((WK .i64 (h2.1 + 1)), h2.2.1, h2.2.2.1, h2.2.2.2.1, (h2.2.2.2.2.1 ++ ([(strOfNums (lrep 256 (0 : Int)))] : List ByteArray)), h2.2.2.2.2.2)))))) (some (.inr ((h2.2.1, h2.2.2.1, h2.2.2.2.1, h2.2.2.2.2.1, h2.2.2.2.2.2))))) ((0, false, (-1), 0, ([] : List ByteArray), ([] : List (Int × ByteArray))))).bind fun r2 => some ((r2.1, r2.2.1, r2.2.2.1, r2.2.2.2.1, r2.2.2.2.2))
noncomputable def L_ref05_New_ : Con := ⟨22, ⟨[(0, .v (.a (.fl (.int .i64))))], [], []⟩, [⟨[(100000, .v (.a (.ptr 0 0)))], [], [.box 52 [.sl 1, .sl 2, .fl .bool, .fl (.int .i64), .fl (.int .i64)], .row 9 .str .own, .row 64 T0 .own]⟩], ref05_New⟩
theorem ok_ref05_New : ConOk Try.prog L_ref05_New_ := con_of (a := mkCon Try.prog G16 inl bk 22 ⟨[(0, .v (.a (.fl (.int .i64))))], [], []⟩ ⟨[(.ret, ⟨[(100000, .v (.a (.ptr 0 0)))], [], [.box 52 [.sl 1, .sl 2, .fl .bool, .fl (.int .i64), .fl (.int .i64)], .row 9 .str .own, .row 64 T0 .own]⟩)], [], []⟩ (.j ⟨[(.normal, ⟨[(0, .v (.a (.fl (.int .i64))))], [], []⟩)], [], []⟩ (.nil) [.j ⟨[(.normal, ⟨[(0, .v (.a (.fl (.int .i64))))], [], []⟩)], [], []⟩ (.nil) [.n (.l ⟨[(.normal, ⟨[(4, .v (.a (.fl (.int .i64))))], [(0, .box 52 [.sl 1, .sl 2, .fl .bool, .fl (.int .i64), .fl (.int .i64)])], [.row 9 .str .own, .row 64 T0 .own]⟩)], [0], []⟩ ⟨[(.exit 0, ⟨[], [(0, .box 52 [.sl 1, .sl 2, .fl .bool, .fl (.int .i64), .fl (.int .i64)])], [.row 9 .str .own, .row 64 T0 .own]⟩)], [0], []⟩ [.n (.b [.d [0, 2] (.nil), .nil])] [.nil])]])) (by kernel_rfl) (mkCon_ok follows bk_ok okG16 (by kernel_rfl))
noncomputable def G17 : List Con := L_ref05_New_ :: G16
theorem okG17 : ∀ c ∈ G17, ConOk Try.prog c := forall_cons ok_ref05_New okG16
/-- (*scrinium/scriniumref05.Disk).step -/
def ref05_Disk_step (k : Nat) (x : Bool × Int × Int × (List ByteArray) × (List (Int × ByteArray))) : Option (Bool × Bool × Int × Int × (List ByteArray) × (List (Int × ByteArray))) :=
  condO x.1 (some ((false, x.1, x.2.1, x.2.2.1, x.2.2.2.1, x.2.2.2.2))) (condO (ieq x.2.1 0) (some ((false, true, x.2.1, x.2.2.1, x.2.2.2.1, x.2.2.2.2))) ((condO (igt x.2.1 0) (some ((x.1, (WK .i64 (x.2.1 - 1)), x.2.2.1, x.2.2.2.1, x.2.2.2.2))) (some ((x.1, x.2.1, x.2.2.1, x.2.2.2.1, x.2.2.2.2))) : Option (Bool × Int × Int × (List ByteArray) × (List (Int × ByteArray)))).bind fun r0 => some ((true, r0.1, r0.2.1, (WK .i64 (r0.2.2.1 + 1)), r0.2.2.2.1, r0.2.2.2.2))))
noncomputable def L_ref05_Disk_step_ : Con := ⟨42, ⟨[(0, .v (.a (.ptr 0 0)))], [], [.box 52 [.sl 1, .sl 2, .fl .bool, .fl (.int .i64), .fl (.int .i64)], .row 9 .str .own, .row 64 T0 .own]⟩, [⟨[(100000, .v (.a (.fl .bool)))], [(0, .box 52 [.sl 3, .sl 4, .fl .bool, .fl (.int .i64), .fl (.int .i64)]), (1, .gone), (2, .gone)], [.row 9 .str .own, .row 64 T0 .own]⟩], ref05_Disk_step⟩
theorem ok_ref05_Disk_step : ConOk Try.prog L_ref05_Disk_step_ := con_of (a := mkCon Try.prog G17 inl bk 42 ⟨[(0, .v (.a (.ptr 0 0)))], [], [.box 52 [.sl 1, .sl 2, .fl .bool, .fl (.int .i64), .fl (.int .i64)], .row 9 .str .own, .row 64 T0 .own]⟩ ⟨[(.ret, ⟨[(100000, .v (.a (.fl .bool)))], [(0, .box 52 [.sl 3, .sl 4, .fl .bool, .fl (.int .i64), .fl (.int .i64)]), (1, .gone), (2, .gone)], [.row 9 .str .own, .row 64 T0 .own]⟩)], [0, 1, 2], []⟩ (.n (.b [.nil, .n (.b [.nil, .j ⟨[(.normal, ⟨[], [(0, .box 52 [.sl 3, .sl 4, .fl .bool, .fl (.int .i64), .fl (.int .i64)]), (1, .gone), (2, .gone)], [.row 9 .str .own, .row 64 T0 .own]⟩)], [0, 1, 2], []⟩ (.nil) [.nil]])]))) (by kernel_rfl) (mkCon_ok follows bk_ok okG17 (by kernel_rfl))
noncomputable def G18 : List Con := L_ref05_Disk_step_ :: G17
theorem okG18 : ∀ c ∈ G18, ConOk Try.prog c := forall_cons ok_ref05_Disk_step okG17
/-- (*scrinium/scriniumref05.Disk).Flush -/
def ref05_Disk_Flush (k : Nat) (x : Bool × Int × Int × (List ByteArray) × (List (Int × ByteArray))) : Option (Int × Bool × Int × Int × (List ByteArray) × (List (Int × ByteArray))) :=
  (ref05_Disk_step k (x.1, x.2.1, x.2.2.1, x.2.2.2.1, x.2.2.2.2)).bind fun r0 => condO (!r0.1) (some ((14, r0.2.1, r0.2.2.1, r0.2.2.2.1, r0.2.2.2.2.1, r0.2.2.2.2.2))) ((loopK (H := Int × (List ByteArray)) (E := (List ByteArray)) k (fun h1 => condO (ilt h1.1 (llen r0.2.2.2.2.2)) (guardO ((inR h1.1 (llen r0.2.2.2.2.2))) (guardO ((inR h1.1 (llen r0.2.2.2.2.2))) (guardO ((inR (at_ T0 r0.2.2.2.2.2 h1.1).1 (llen h1.2))) (some (.inl (((WK .i64 (h1.1 + 1)), (lset h1.2 (at_ T0 r0.2.2.2.2.2 h1.1).1 (at_ T0 r0.2.2.2.2.2 h1.1).2)))))))) (some (.inr (h1.2)))) ((0, r0.2.2.2.2.1))).bind fun r1 => some ((0, r0.2.1, r0.2.2.1, r0.2.2.2.1, r1, ([] : List (Int × ByteArray)))))
noncomputable def L_ref05_Disk_Flush_ : Con := ⟨24, ⟨[(0, .v (.a (.ptr 0 0)))], [], [.box 52 [.sl 1, .sl 2, .fl .bool, .fl (.int .i64), .fl (.int .i64)], .row 9 .str .own, .row 64 T0 .own]⟩, [⟨[(100000, .v (.a (.fl (.int .i64))))], [(0, .box 52 [.sl 3, .sl 4, .fl .bool, .fl (.int .i64), .fl (.int .i64)]), (1, .gone), (2, .gone)], [.row 9 .str .own, .row 64 T0 .own]⟩], ref05_Disk_Flush⟩
theorem ok_ref05_Disk_Flush : ConOk Try.prog L_ref05_Disk_Flush_ := con_of (a := mkCon Try.prog G18 inl bk 24 ⟨[(0, .v (.a (.ptr 0 0)))], [], [.box 52 [.sl 1, .sl 2, .fl .bool, .fl (.int .i64), .fl (.int .i64)], .row 9 .str .own, .row 64 T0 .own]⟩ ⟨[(.ret, ⟨[(100000, .v (.a (.fl (.int .i64))))], [(0, .box 52 [.sl 3, .sl 4, .fl .bool, .fl (.int .i64), .fl (.int .i64)]), (1, .gone), (2, .gone)], [.row 9 .str .own, .row 64 T0 .own]⟩)], [0, 1, 2], []⟩ (.n (.b [.nil, .n (.l ⟨[(.normal, ⟨[(4, .v (.a (.fl (.int .i64))))], [(6, .row 9 .str .own)], []⟩)], [6], [6, 7]⟩ ⟨[(.exit 0, ⟨[], [(6, .row 9 .str .own)], []⟩)], [6], [6, 7]⟩ [.n (.b [.d [0, 1, 2, 3, 4, 5, 6, 7] (.nil), .nil])] [.nil])]))) (by kernel_rfl) (mkCon_ok follows bk_ok okG18 (by kernel_rfl))
noncomputable def G19 : List Con := L_ref05_Disk_Flush_ :: G18
theorem okG19 : ∀ c ∈ G19, ConOk Try.prog c := forall_cons ok_ref05_Disk_Flush okG18
/-- (*scrinium/scriniumref05.Disk).Crash -/
def ref05_Disk_Crash (k : Nat) (x : Bool × Int × Int × (List Int) × (List ByteArray) × (List (Int × ByteArray))) : Option (Bool × Int × Int × (List ByteArray) × (List (Int × ByteArray))) :=
  (loopK (H := Int × (List ByteArray)) (E := (List ByteArray)) k (fun h0 => condO (ilt h0.1 (llen x.2.2.2.2.2)) (condO (ilt h0.1 (llen x.2.2.2.1)) (guardO ((inR h0.1 (llen x.2.2.2.1))) (guardO ((nz 2)) (condO (ine (Int.tmod (at_ (.int .i64) x.2.2.2.1 h0.1) 2) 0) (guardO ((inR h0.1 (llen x.2.2.2.2.2))) (guardO ((inR h0.1 (llen x.2.2.2.2.2))) (guardO ((inR (at_ T0 x.2.2.2.2.2 h0.1).1 (llen h0.2))) (some (.inl (((WK .i64 (h0.1 + 1)), (lset h0.2 (at_ T0 x.2.2.2.2.2 h0.1).1 (at_ T0 x.2.2.2.2.2 h0.1).2)))))))) (some (.inl (((WK .i64 (h0.1 + 1)), h0.2))))))) (some (.inr (h0.2)))) (some (.inr (h0.2)))) ((0, x.2.2.2.2.1))).bind fun r0 => some ((false, (-1), x.2.2.1, r0, ([] : List (Int × ByteArray))))
noncomputable def L_ref05_Disk_Crash_ : Con := ⟨27, ⟨[(0, .v (.a (.ptr 0 0))), (1, .v (.a (.sl 1)))], [], [.box 52 [.sl 2, .sl 3, .fl .bool, .fl (.int .i64), .fl (.int .i64)], .row 3 (.int .i64) .lent, .row 9 .str .own, .row 64 T0 .own]⟩, [⟨[], [(0, .box 52 [.sl 4, .sl 5, .fl .bool, .fl (.int .i64), .fl (.int .i64)]), (2, .gone)], [.row 9 .str .own, .row 64 T0 .own]⟩], ref05_Disk_Crash⟩
theorem ok_ref05_Disk_Crash : ConOk Try.prog L_ref05_Disk_Crash_ := con_of (a := mkCon Try.prog G19 inl bk 27 ⟨[(0, .v (.a (.ptr 0 0))), (1, .v (.a (.sl 1)))], [], [.box 52 [.sl 2, .sl 3, .fl .bool, .fl (.int .i64), .fl (.int .i64)], .row 3 (.int .i64) .lent, .row 9 .str .own, .row 64 T0 .own]⟩ ⟨[(.ret, ⟨[], [(0, .box 52 [.sl 4, .sl 5, .fl .bool, .fl (.int .i64), .fl (.int .i64)]), (2, .gone)], [.row 9 .str .own, .row 64 T0 .own]⟩)], [0, 2], [1]⟩ (.n (.l ⟨[(.normal, ⟨[(4, .v (.a (.fl (.int .i64))))], [(2, .row 9 .str .own)], []⟩)], [2], [1, 2, 3]⟩ ⟨[(.exit 0, ⟨[], [(2, .row 9 .str .own)], []⟩)], [2], [2, 3]⟩ [.n (.b [.b [.b [.d [0, 1, 2, 3] (.nil), .nil], .nil], .nil])] [.nil]))) (by kernel_rfl) (mkCon_ok follows bk_ok okG19 (by kernel_rfl))
noncomputable def G20 : List Con := L_ref05_Disk_Crash_ :: G19
theorem okG20 : ∀ c ∈ G20, ConOk Try.prog c := forall_cons ok_ref05_Disk_Crash okG19
/-- (*scrinium/scriniumref05.Disk).Write -/
def ref05_Disk_Write (k : Nat) (x : Int × ByteArray × Bool × Int × Int × (List ByteArray) × (List (Int × ByteArray))) : Option (Int × Bool × Int × Int × (List ByteArray) × (List (Int × ByteArray))) :=
  condO (ilt x.1 0) (some ((1, x.2.2.1, x.2.2.2.1, x.2.2.2.2.1, x.2.2.2.2.2.1, x.2.2.2.2.2.2))) (condO (ige x.1 (llen x.2.2.2.2.2.1)) (some ((1, x.2.2.1, x.2.2.2.1, x.2.2.2.2.1, x.2.2.2.2.2.1, x.2.2.2.2.2.2))) (condO (ine (blen x.2.1) 256) (some ((1, x.2.2.1, x.2.2.2.1, x.2.2.2.2.1, x.2.2.2.2.2.1, x.2.2.2.2.2.2))) ((ref05_Disk_step k (x.2.2.1, x.2.2.2.1, x.2.2.2.2.1, x.2.2.2.2.2.1, x.2.2.2.2.2.2)).bind fun r0 => condO (!r0.1) (some ((14, r0.2.1, r0.2.2.1, r0.2.2.2.1, r0.2.2.2.2.1, r0.2.2.2.2.2))) (guardO ((appOk r0.2.2.2.2.2 ([(x.1, x.2.1)] : List (Int × ByteArray)) 24)) (some ((0, r0.2.1, r0.2.2.1, r0.2.2.2.1, r0.2.2.2.2.1, (r0.2.2.2.2.2 ++ ([(x.1, x.2.1)] : List (Int × ByteArray))))))))))
noncomputable def L_ref05_Disk_Write_ : Con := ⟨28, ⟨[(0, .v (.a (.ptr 0 0))), (1, .v (.a (.fl (.int .i64)))), (2, .v (.a (.fl .str)))], [], [.box 52 [.sl 1, .sl 2, .fl .bool, .fl (.int .i64), .fl (.int .i64)], .row 9 .str .own, .row 64 T0 .own]⟩, [⟨[(100000, .v (.a (.fl (.int .i64))))], [(0, .box 52 [.sl 3, .sl 4, .fl .bool, .fl (.int .i64), .fl (.int .i64)]), (1, .gone), (2, .gone)], [.row 9 .str .own, .row 64 T0 .own]⟩], ref05_Disk_Write⟩
theorem ok_ref05_Disk_Write : ConOk Try.prog L_ref05_Disk_Write_ := con_of (a := mkCon Try.prog G20 inl bk 28 ⟨[(0, .v (.a (.ptr 0 0))), (1, .v (.a (.fl (.int .i64)))), (2, .v (.a (.fl .str)))], [], [.box 52 [.sl 1, .sl 2, .fl .bool, .fl (.int .i64), .fl (.int .i64)], .row 9 .str .own, .row 64 T0 .own]⟩ ⟨[(.ret, ⟨[(100000, .v (.a (.fl (.int .i64))))], [(0, .box 52 [.sl 3, .sl 4, .fl .bool, .fl (.int .i64), .fl (.int .i64)]), (1, .gone), (2, .gone)], [.row 9 .str .own, .row 64 T0 .own]⟩)], [0, 1, 2], []⟩ (.n (.b [.nil, .b [.nil, .b [.nil, .n (.nil)]]]))) (by kernel_rfl) (mkCon_ok follows bk_ok okG20 (by kernel_rfl))
noncomputable def G21 : List Con := L_ref05_Disk_Write_ :: G20
theorem okG21 : ∀ c ∈ G21, ConOk Try.prog c := forall_cons ok_ref05_Disk_Write okG20
/-- (*scrinium/scriniumref05.Disk).Read -/
def ref05_Disk_Read (k : Nat) (x : Int × Bool × Int × Int × (List ByteArray) × (List (Int × ByteArray))) : Option (ByteArray × Int) :=
  condO (ilt x.1 0) (some ((str0, 1))) (condO (ige x.1 (llen x.2.2.2.2.1)) (some ((str0, 1))) (condO x.2.1 (some ((str0, 14))) (guardO ((inR x.1 (llen x.2.2.2.2.1))) ((loopK (H := ByteArray × Int) (E := ByteArray) k (fun h0 => condO (ilt h0.2 (llen x.2.2.2.2.2)) (guardO ((inR h0.2 (llen x.2.2.2.2.2))) (condO (ieq (at_ T0 x.2.2.2.2.2 h0.2).1 x.1) (guardO ((inR h0.2 (llen x.2.2.2.2.2))) (some (.inl (((at_ T0 x.2.2.2.2.2 h0.2).2, (WK .i64 (h0.2 + 1))))))) (some (.inl ((h0.1, (WK .i64 (h0.2 + 1)))))))) (some (.inr (h0.1)))) (((at_ .str x.2.2.2.2.1 x.1), 0))).bind fun r0 => some ((r0, 0))))))
noncomputable def L_ref05_Disk_Read_ : Con := ⟨29, ⟨[(0, .v (.a (.ptr 0 0))), (1, .v (.a (.fl (.int .i64))))], [], [.box 52 [.sl 1, .sl 2, .fl .bool, .fl (.int .i64), .fl (.int .i64)], .row 9 .str .lent, .row 64 T0 .lent]⟩, [⟨[(100000, .v (.a (.fl .str))), (100001, .v (.a (.fl (.int .i64))))], [], []⟩], ref05_Disk_Read⟩
theorem ok_ref05_Disk_Read : ConOk Try.prog L_ref05_Disk_Read_ := con_of (a := mkCon Try.prog G21 inl bk 29 ⟨[(0, .v (.a (.ptr 0 0))), (1, .v (.a (.fl (.int .i64))))], [], [.box 52 [.sl 1, .sl 2, .fl .bool, .fl (.int .i64), .fl (.int .i64)], .row 9 .str .lent, .row 64 T0 .lent]⟩ ⟨[(.ret, ⟨[(100000, .v (.a (.fl .str))), (100001, .v (.a (.fl (.int .i64))))], [], []⟩)], [], [1, 2]⟩ (.n (.b [.nil, .b [.nil, .n (.b [.nil, .n (.l ⟨[(.normal, ⟨[(6, .v (.a (.fl .str))), (7, .v (.a (.fl (.int .i64))))], [], []⟩)], [], [1, 2]⟩ ⟨[(.exit 0, ⟨[(6, .v (.a (.fl .str)))], [], []⟩)], [], [1, 2]⟩ [.n (.nil)] [.nil])])]]))) (by kernel_rfl) (mkCon_ok follows bk_ok okG21 (by kernel_rfl))
noncomputable def G22 : List Con := L_ref05_Disk_Read_ :: G21
theorem okG22 : ∀ c ∈ G22, ConOk Try.prog c := forall_cons ok_ref05_Disk_Read okG21
/-- scrinium/scriniumlaw05.SectorPlays -/
def law05_SectorPlays (k : Nat) (x : Int × (List (Int × (Int × (Int × (Int × (Bool × (List Int)))))))) : Option (Bool) :=
  (law05_awake k ()).bind fun r0 => (strings_Repeat k (⟨#[0]⟩, 256)).bind fun r1 => (slices_Repeat k ((mnI (mxI (WK .i64 (1 + (andK .i64 x.1 7))) 1) 65536), ([r1] : List ByteArray))).bind fun r2 => (ref05_New k (WK .i64 (1 + (andK .i64 x.1 7)))).bind fun r3 => condO (ine (llen r2) (WK .i64 (1 + (andK .i64 x.1 7)))) (some (false)) ((loopK (H := Int × Bool × Bool × Int × Int × Bool × Int × Int × (List ByteArray) × (List (Int × ByteArray)) × (List ByteArray) × (List (Int × ByteArray))) (E := (Bool × Bool × Bool × Int × Int × Bool × Int × Int × (List ByteArray) × (List (Int × ByteArray)) × (List ByteArray) × (List (Int × ByteArray))) ⊕ (Bool × Bool × Int × Int × Bool × Int × Int × (List ByteArray) × (List (Int × ByteArray)) × (List ByteArray) × (List (Int × ByteArray)))) k (fun h4 => condO (ilt h4.1 (llen x.2)) (condO (ilt h4.1 80) (guardO ((inR h4.1 (llen x.2))) (guardO ((nz 10)) ((condO (ilt (Int.tmod (at_ T1 x.2 h4.1).1 10) 0) (some ((WK .i64 ((Int.tmod (at_ T1 x.2 h4.1).1 10) + 10)))) (some ((Int.tmod (at_ T1 x.2 h4.1).1 10))) : Option (Int)).bind fun r5 => ((condO (ieq r5 5) (some ((ieq r5 5))) (some ((ieq r5 6))) : Option (Bool)).bind fun r6 => condO r6 ((sector_Disk_Flush k (h4.2.1, h4.2.2.1, h4.2.2.2.1, h4.2.2.2.2.1, h4.2.2.2.2.2.2.2.2.1, h4.2.2.2.2.2.2.2.2.2.1)).bind fun r7 => (ref05_Disk_Flush k (h4.2.2.2.2.2.1, h4.2.2.2.2.2.2.1, h4.2.2.2.2.2.2.2.1, h4.2.2.2.2.2.2.2.2.2.2.1, h4.2.2.2.2.2.2.2.2.2.2.2)).bind fun r8 => some (((ieq r7.1 r8.1), r7.2.1, r7.2.2.1, r7.2.2.2.1, r7.2.2.2.2.1, r8.2.1, r8.2.2.1, r8.2.2.2.1, r7.2.2.2.2.2.1, r7.2.2.2.2.2.2, r8.2.2.2.2.1, r8.2.2.2.2.2))) (condO (ieq r5 7) (condO (ilt (at_ T1 x.2 h4.1).2.2.1 0) (some ((true, h4.2.1, true, (mxI (at_ T1 x.2 h4.1).2.2.1 0), h4.2.2.2.2.1, h4.2.2.2.2.2.1, 0, h4.2.2.2.2.2.2.2.1, h4.2.2.2.2.2.2.2.2.1, h4.2.2.2.2.2.2.2.2.2.1, h4.2.2.2.2.2.2.2.2.2.2.1, h4.2.2.2.2.2.2.2.2.2.2.2))) (some ((true, h4.2.1, true, (mxI (at_ T1 x.2 h4.1).2.2.1 0), h4.2.2.2.2.1, h4.2.2.2.2.2.1, (at_ T1 x.2 h4.1).2.2.1, h4.2.2.2.2.2.2.2.1, h4.2.2.2.2.2.2.2.2.1, h4.2.2.2.2.2.2.2.2.2.1, h4.2.2.2.2.2.2.2.2.2.2.1, h4.2.2.2.2.2.2.2.2.2.2.2)))) ((condO (ieq r5 8) (some ((ieq r5 8))) (some ((ieq r5 9))) : Option (Bool)).bind fun r7 => condO r7 (condO (igt (llen (at_ T1 x.2 h4.1).2.2.2.2.2) 20) (guardO ((cutOk4 0 20 (llen (at_ T1 x.2 h4.1).2.2.2.2.2) 20)) ((sector_Disk_Crash k (h4.2.1, h4.2.2.1, h4.2.2.2.1, h4.2.2.2.2.1, (ltake 20 (at_ T1 x.2 h4.1).2.2.2.2.2), h4.2.2.2.2.2.2.2.2.1, h4.2.2.2.2.2.2.2.2.2.1)).bind fun r8 => condO (igt (llen (at_ T1 x.2 h4.1).2.2.2.2.2) 20) (guardO ((cutOk4 0 20 (llen (at_ T1 x.2 h4.1).2.2.2.2.2) 20)) ((ref05_Disk_Crash k (h4.2.2.2.2.2.1, h4.2.2.2.2.2.2.1, h4.2.2.2.2.2.2.2.1, (ltake 20 (at_ T1 x.2 h4.1).2.2.2.2.2), h4.2.2.2.2.2.2.2.2.2.2.1, h4.2.2.2.2.2.2.2.2.2.2.2)).bind fun r9 => some ((true, r8.1, r8.2.1, r8.2.2.1, r8.2.2.2.1, r9.1, r9.2.1, r9.2.2.1, r8.2.2.2.2.1, r8.2.2.2.2.2, r9.2.2.2.1, r9.2.2.2.2)))) ((ref05_Disk_Crash k (h4.2.2.2.2.2.1, h4.2.2.2.2.2.2.1, h4.2.2.2.2.2.2.2.1, (at_ T1 x.2 h4.1).2.2.2.2.2, h4.2.2.2.2.2.2.2.2.2.2.1, h4.2.2.2.2.2.2.2.2.2.2.2)).bind fun r9 => some ((true, r8.1, r8.2.1, r8.2.2.1, r8.2.2.2.1, r9.1, r9.2.1, r9.2.2.1, r8.2.2.2.2.1, r8.2.2.2.2.2, r9.2.2.2.1, r9.2.2.2.2))))) ((sector_Disk_Crash k (h4.2.1, h4.2.2.1, h4.2.2.2.1, h4.2.2.2.2.1, (at_ T1 x.2 h4.1).2.2.2.2.2, h4.2.2.2.2.2.2.2.2.1, h4.2.2.2.2.2.2.2.2.2.1)).bind fun r8 => condO (igt (llen (at_ T1 x.2 h4.1).2.2.2.2.2) 20) (guardO ((cutOk4 0 20 (llen (at_ T1 x.2 h4.1).2.2.2.2.2) 20)) ((ref05_Disk_Crash k (h4.2.2.2.2.2.1, h4.2.2.2.2.2.2.1, h4.2.2.2.2.2.2.2.1, (ltake 20 (at_ T1 x.2 h4.1).2.2.2.2.2), h4.2.2.2.2.2.2.2.2.2.2.1, h4.2.2.2.2.2.2.2.2.2.2.2)).bind fun r9 => some ((true, r8.1, r8.2.1, r8.2.2.1, r8.2.2.2.1, r9.1, r9.2.1, r9.2.2.1, r8.2.2.2.2.1, r8.2.2.2.2.2, r9.2.2.2.1, r9.2.2.2.2)))) ((ref05_Disk_Crash k (h4.2.2.2.2.2.1, h4.2.2.2.2.2.2.1, h4.2.2.2.2.2.2.2.1, (at_ T1 x.2 h4.1).2.2.2.2.2, h4.2.2.2.2.2.2.2.2.2.2.1, h4.2.2.2.2.2.2.2.2.2.2.2)).bind fun r9 => some ((true, r8.1, r8.2.1, r8.2.2.1, r8.2.2.2.1, r9.1, r9.2.1, r9.2.2.1, r8.2.2.2.2.1, r8.2.2.2.2.2, r9.2.2.2.1, r9.2.2.2.2))))) ((ref05_Fill k (strOfNums ([(at_ T1 x.2 h4.1).2.2.2.1] : List Int))).bind fun r8 => condO (at_ T1 x.2 h4.1).2.2.2.2.1 (guardO ((cutOk 0 255 (blen r8.1))) ((sector_Disk_Write k ((at_ T1 x.2 h4.1).2.1, (scut r8.1 0 255), h4.2.1, h4.2.2.1, h4.2.2.2.1, h4.2.2.2.2.1, h4.2.2.2.2.2.2.2.2.1, h4.2.2.2.2.2.2.2.2.2.1)).bind fun r9 => (ref05_Disk_Write k ((at_ T1 x.2 h4.1).2.1, (scut r8.1 0 255), h4.2.2.2.2.2.1, h4.2.2.2.2.2.2.1, h4.2.2.2.2.2.2.2.1, h4.2.2.2.2.2.2.2.2.2.2.1, h4.2.2.2.2.2.2.2.2.2.2.2)).bind fun r10 => some (((ieq r9.1 r10.1), r9.2.1, r9.2.2.1, r9.2.2.2.1, r9.2.2.2.2.1, r10.2.1, r10.2.2.1, r10.2.2.2.1, r9.2.2.2.2.2.1, r9.2.2.2.2.2.2, r10.2.2.2.2.1, r10.2.2.2.2.2)))) ((sector_Disk_Write k ((at_ T1 x.2 h4.1).2.1, r8.1, h4.2.1, h4.2.2.1, h4.2.2.2.1, h4.2.2.2.2.1, h4.2.2.2.2.2.2.2.2.1, h4.2.2.2.2.2.2.2.2.2.1)).bind fun r9 => (ref05_Disk_Write k ((at_ T1 x.2 h4.1).2.1, r8.1, h4.2.2.2.2.2.1, h4.2.2.2.2.2.2.1, h4.2.2.2.2.2.2.2.1, h4.2.2.2.2.2.2.2.2.2.2.1, h4.2.2.2.2.2.2.2.2.2.2.2)).bind fun r10 => some (((ieq r9.1 r10.1), r9.2.1, r9.2.2.1, r9.2.2.2.1, r9.2.2.2.2.1, r10.2.1, r10.2.2.1, r10.2.2.2.1, r9.2.2.2.2.2.1, r9.2.2.2.2.2.2, r10.2.2.2.2.1, r10.2.2.2.2.2)))))) : Option (Bool × Bool × Bool × Int × Int × Bool × Int × Int × (List ByteArray) × (List (Int × ByteArray)) × (List ByteArray) × (List (Int × ByteArray)))).bind fun r6 => condO (!r6.1) (some (.inr (.inl (false, r6.2.1, r6.2.2.1, r6.2.2.2.1, r6.2.2.2.2.1, r6.2.2.2.2.2.1, r6.2.2.2.2.2.2.1, r6.2.2.2.2.2.2.2.1, r6.2.2.2.2.2.2.2.2.1, r6.2.2.2.2.2.2.2.2.2.1, r6.2.2.2.2.2.2.2.2.2.2.1, r6.2.2.2.2.2.2.2.2.2.2.2)))) (condO (beq r6.2.1 r6.2.2.2.2.2.1) (some (.inr (.inl (false, r6.2.1, r6.2.2.1, r6.2.2.2.1, r6.2.2.2.2.1, r6.2.2.2.2.2.1, r6.2.2.2.2.2.2.1, r6.2.2.2.2.2.2.2.1, r6.2.2.2.2.2.2.2.2.1, r6.2.2.2.2.2.2.2.2.2.1, r6.2.2.2.2.2.2.2.2.2.2.1, r6.2.2.2.2.2.2.2.2.2.2.2)))) (condO (ine r6.2.2.2.2.1 r6.2.2.2.2.2.2.2.1) (some (.inr (.inl (false, r6.2.1, r6.2.2.1, r6.2.2.2.1, r6.2.2.2.2.1, r6.2.2.2.2.2.1, r6.2.2.2.2.2.2.1, r6.2.2.2.2.2.2.2.1, r6.2.2.2.2.2.2.2.2.1, r6.2.2.2.2.2.2.2.2.2.1, r6.2.2.2.2.2.2.2.2.2.2.1, r6.2.2.2.2.2.2.2.2.2.2.2)))) (condO (ine (llen r6.2.2.2.2.2.2.2.2.2.1) (llen r6.2.2.2.2.2.2.2.2.2.2.2)) (some (.inr (.inl (false, r6.2.1, r6.2.2.1, r6.2.2.2.1, r6.2.2.2.2.1, r6.2.2.2.2.2.1, r6.2.2.2.2.2.2.1, r6.2.2.2.2.2.2.2.1, r6.2.2.2.2.2.2.2.2.1, r6.2.2.2.2.2.2.2.2.2.1, r6.2.2.2.2.2.2.2.2.2.2.1, r6.2.2.2.2.2.2.2.2.2.2.2)))) ((loopK (H := Int) (E := (Bool) ⊕ (Unit)) k (fun h7 => condO (ile h7 (WK .i64 (1 + (andK .i64 x.1 7)))) ((sector_Disk_Read k (h7, r6.2.1, r6.2.2.1, r6.2.2.2.1, r6.2.2.2.2.1, r6.2.2.2.2.2.2.2.2.1, r6.2.2.2.2.2.2.2.2.2.1)).bind fun r8 => (ref05_Disk_Read k (h7, r6.2.2.2.2.2.1, r6.2.2.2.2.2.2.1, r6.2.2.2.2.2.2.2.1, r6.2.2.2.2.2.2.2.2.2.2.1, r6.2.2.2.2.2.2.2.2.2.2.2)).bind fun r9 => (condO (ige h7 0) (condO (ilt h7 (WK .i64 (1 + (andK .i64 x.1 7)))) (guardO ((inR h7 (llen r6.2.2.2.2.2.2.2.2.2.2.1))) (some ((at_ .str r6.2.2.2.2.2.2.2.2.2.2.1 h7)))) (some (str0))) (some (str0)) : Option (ByteArray)).bind fun r10 => condO (!(sEq r8.1 r9.1)) (some (.inr (.inl false))) (condO (ine r8.2 r9.2) (some (.inr (.inl false))) ((sector_Disk_Peek k (h7, r6.2.1, r6.2.2.1, r6.2.2.2.1, r6.2.2.2.2.1, r6.2.2.2.2.2.2.2.2.1, r6.2.2.2.2.2.2.2.2.2.1)).bind fun r11 => condO (!(sEq r11 r10)) (some (.inr (.inl false))) (some (.inl ((WK .i64 (h7 + 1)))))))) (some (.inr (.inr (()))))) ((-1))).bind fun r7 => caseS r7 (fun r7 => some (.inr (.inl (r7, r6.2.1, r6.2.2.1, r6.2.2.2.1, r6.2.2.2.2.1, r6.2.2.2.2.2.1, r6.2.2.2.2.2.2.1, r6.2.2.2.2.2.2.2.1, r6.2.2.2.2.2.2.2.2.1, r6.2.2.2.2.2.2.2.2.2.1, r6.2.2.2.2.2.2.2.2.2.2.1, r6.2.2.2.2.2.2.2.2.2.2.2)))) (fun r7 => some (.inl (((WK .i64 (h4.1 + 1)), r6.2.1, r6.2.2.1, r6.2.2.2.1, r6.2.2.2.2.1, r6.2.2.2.2.2.1, r6.2.2.2.2.2.2.1, r6.2.2.2.2.2.2.2.1, r6.2.2.2.2.2.2.2.2.1, r6.2.2.2.2.2.2.2.2.2.1, r6.2.2.2.2.2.2.2.2.2.2.1, r6.2.2.2.2.2.2.2.2.2.2.2))))))))))) (some (.inr (.inr ((h4.2.1, h4.2.2.1, h4.2.2.2.1, h4.2.2.2.2.1, h4.2.2.2.2.2.1, h4.2.2.2.2.2.2.1, h4.2.2.2.2.2.2.2.1, h4.2.2.2.2.2.2.2.2.1, h4.2.2.2.2.2.2.2.2.2.1, h4.2.2.2.2.2.2.2.2.2.2.1, h4.2.2.2.2.2.2.2.2.2.2.2)))))) (some (.inr (.inr ((h4.2.1, h4.2.2.1, h4.2.2.2.1, h4.2.2.2.2.1, h4.2.2.2.2.2.1, h4.2.2.2.2.2.2.1, h4.2.2.2.2.2.2.2.1, h4.2.2.2.2.2.2.2.2.1, h4.2.2.2.2.2.2.2.2.2.1, h4.2.2.2.2.2.2.2.2.2.2.1, h4.2.2.2.2.2.2.2.2.2.2.2)))))) ((0, true, false, 0, 0, r3.1, r3.2.1, r3.2.2.1, r2, ([] : List (Int × ByteArray)), r3.2.2.2.1, r3.2.2.2.2))).bind fun r4 => caseS r4 (fun r4 => some (r4.1)) (fun r4 => some (r0)))
noncomputable def L_law05_SectorPlays_ : Con := ⟨6, ⟨[(0, .v (.a (.fl (.int .i64)))), (1, .v (.a (.sl 0)))], [], [.row 30 T1 .lent]⟩, [⟨[(100000, .v (.a (.fl .bool)))], [], []⟩], law05_SectorPlays⟩
theorem ok_law05_SectorPlays : ConOk Try.prog L_law05_SectorPlays_ := con_of (a := mkCon Try.prog G22 inl bk 6 ⟨[(0, .v (.a (.fl (.int .i64)))), (1, .v (.a (.sl 0)))], [], [.row 30 T1 .lent]⟩ ⟨[(.ret, ⟨[(100000, .v (.a (.fl .bool)))], [], []⟩)], [], [0]⟩ (.n (.n (.b [.nil, .n (.l ⟨[(.normal, ⟨[(9, .v (.a (.fl (.int .i64))))], [(3, .gone), (4, .box 54 [.sl 8, .sl 9, .fl .bool, .fl .bool, .fl (.int .i64), .fl (.int .i64)]), (5, .box 52 [.sl 10, .sl 11, .fl .bool, .fl (.int .i64), .fl (.int .i64)]), (6, .gone), (7, .gone)], [.row 9 .str .own, .row 64 T0 .own, .row 9 .str .own, .row 64 T0 .own]⟩)], [3, 4, 5, 6, 7], [0]⟩ ⟨[(.ret, ⟨[(4, .v (.a (.fl .bool)))], [(3, .gone), (4, .box 54 [.sl 8, .sl 9, .fl .bool, .fl .bool, .fl (.int .i64), .fl (.int .i64)]), (5, .box 52 [.sl 10, .sl 11, .fl .bool, .fl (.int .i64), .fl (.int .i64)]), (6, .gone), (7, .gone)], [.row 9 .str .own, .row 64 T0 .own, .row 9 .str .own, .row 64 T0 .own]⟩), (.exit 0, ⟨[], [(3, .gone), (4, .box 54 [.sl 8, .sl 9, .fl .bool, .fl .bool, .fl (.int .i64), .fl (.int .i64)]), (5, .box 52 [.sl 10, .sl 11, .fl .bool, .fl (.int .i64), .fl (.int .i64)]), (6, .gone), (7, .gone)], [.row 9 .str .own, .row 64 T0 .own, .row 9 .str .own, .row 64 T0 .own]⟩)], [3, 4, 5, 6, 7], []⟩ [.n (.b [.b [.j ⟨[(.normal, ⟨[(11, .v (.a (.fl (.int .i64))))], [], []⟩)], [], [0, 8, 9, 10, 11, 12]⟩ (.nil) [.j ⟨[(.normal, ⟨[(12, .v (.a (.fl .bool)))], [(4, .box 54 [.sl 14, .sl 15, .fl .bool, .fl .bool, .fl (.int .i64), .fl (.int .i64)]), (5, .box 52 [.sl 16, .sl 17, .fl .bool, .fl (.int .i64), .fl (.int .i64)]), (8, .gone), (9, .gone), (10, .gone), (11, .gone)], [.row 9 .str .own, .row 64 T0 .own, .row 9 .str .own, .row 64 T0 .own]⟩)], [4, 5, 8, 9, 10, 11], [0, 12]⟩ (.j ⟨[(.normal, ⟨[(76, .v (.a (.fl .bool)))], [], []⟩)], [], [0, 8, 9, 10, 11, 12]⟩ (.nil) [.b [.nil, .b [.nil, .j ⟨[(.normal, ⟨[(94, .v (.a (.fl .bool)))], [], []⟩)], [], [0, 8, 9, 10, 11, 12]⟩ (.nil) [.b [.n (.b [.n (.nil), .n (.nil)]), .b [.d [0, 1, 2, 3, 6, 7, 12, 13, 14] (.nil), .d [0, 1, 2, 3, 6, 7, 12, 13, 14] (.nil)]]]]]]) [.n (.d [0, 1, 2, 3, 4, 5, 6, 7, 8, 9, 10, 11, 12, 13, 14, 15, 16, 17] (.b [.nil, .b [.nil, .n (.b [.nil, .n (.b [.nil, .l ⟨[(.normal, ⟨[(14, .v (.a (.fl (.int .i64))))], [], []⟩)], [], [0, 12, 14, 15, 16, 17]⟩ ⟨[(.ret, ⟨[(4, .v (.a (.fl .bool)))], [], []⟩), (.exit 3, ⟨[], [], []⟩)], [], [0, 12, 14, 15, 16, 17]⟩ [.n (.b [.j ⟨[(.normal, ⟨[(19, .v (.a (.fl .str)))], [], []⟩)], [], [0, 12, 14, 15, 16, 17]⟩ (.nil) [.nil], .nil])] [.nil, .nil]])])]]))]], .nil], .nil])] [.nil, .nil])])))) (by kernel_rfl) (mkCon_ok follows bk_ok okG22 (by kernel_rfl))
noncomputable def G23 : List Con := L_law05_SectorPlays_ :: G22
theorem okG23 : ∀ c ∈ G23, ConOk Try.prog c := forall_cons ok_law05_SectorPlays okG22
/-- (*scrinium/sector.Disk).Crash -/
def sector_Disk_Crash_2 (k : Nat) (x : (List Int)) : Option (Unit) :=
  condO (ieq 0 0) (some (())) (none)
noncomputable def L_sector_Disk_Crash_2_ : Con := ⟨16, ⟨[(0, .v (.a (.nilp))), (1, .v (.a (.sl 0)))], [], [.row 3 (.int .i64) .lent]⟩, [⟨[], [], []⟩], sector_Disk_Crash_2⟩
theorem ok_sector_Disk_Crash_2 : ConOk Try.prog L_sector_Disk_Crash_2_ := con_of (a := mkCon Try.prog G23 inl bk 16 ⟨[(0, .v (.a (.nilp))), (1, .v (.a (.sl 0)))], [], [.row 3 (.int .i64) .lent]⟩ ⟨[(.ret, ⟨[], [], []⟩)], [], [0]⟩ (.n (.n (.nil)))) (by kernel_rfl) (mkCon_ok follows bk_ok okG23 (by kernel_rfl))
noncomputable def G24 : List Con := L_sector_Disk_Crash_2_ :: G23
theorem okG24 : ∀ c ∈ G24, ConOk Try.prog c := forall_cons ok_sector_Disk_Crash_2 okG23
/-- (*scrinium/sector.Disk).Read -/
def sector_Disk_Read_2 (k : Nat) (x : Int) : Option (ByteArray × Int) :=
  condO (ilt x 0) (some ((str0, 1))) (condO (ige x 0) (some ((str0, 1))) (none))
noncomputable def L_sector_Disk_Read_2_ : Con := ⟨15, ⟨[(0, .v (.a (.nilp))), (1, .v (.a (.fl (.int .i64))))], [], []⟩, [⟨[(100000, .v (.a (.fl .str))), (100001, .v (.a (.fl (.int .i64))))], [], []⟩], sector_Disk_Read_2⟩
theorem ok_sector_Disk_Read_2 : ConOk Try.prog L_sector_Disk_Read_2_ := con_of (a := mkCon Try.prog G24 inl bk 15 ⟨[(0, .v (.a (.nilp))), (1, .v (.a (.fl (.int .i64))))], [], []⟩ ⟨[(.ret, ⟨[(100000, .v (.a (.fl .str))), (100001, .v (.a (.fl (.int .i64))))], [], []⟩)], [], []⟩ (.n (.d [0, 1, 2] (.b [.nil, .n (.nil)])))) (by kernel_rfl) (mkCon_ok follows bk_ok okG24 (by kernel_rfl))
noncomputable def G25 : List Con := L_sector_Disk_Read_2_ :: G24
theorem okG25 : ∀ c ∈ G25, ConOk Try.prog c := forall_cons ok_sector_Disk_Read_2 okG24
/-- (*scrinium/sector.Disk).Write -/
def sector_Disk_Write_2 (k : Nat) (x : Int × ByteArray) : Option (Int) :=
  condO (ilt x.1 0) (some (1)) (condO (ige x.1 0) (some (1)) (condO (ine (blen x.2) 256) (some (1)) (none)))
noncomputable def L_sector_Disk_Write_2_ : Con := ⟨13, ⟨[(0, .v (.a (.nilp))), (1, .v (.a (.fl (.int .i64)))), (2, .v (.a (.fl .str)))], [], []⟩, [⟨[(100000, .v (.a (.fl (.int .i64))))], [], []⟩], sector_Disk_Write_2⟩
theorem ok_sector_Disk_Write_2 : ConOk Try.prog L_sector_Disk_Write_2_ := con_of (a := mkCon Try.prog G25 inl bk 13 ⟨[(0, .v (.a (.nilp))), (1, .v (.a (.fl (.int .i64)))), (2, .v (.a (.fl .str)))], [], []⟩ ⟨[(.ret, ⟨[(100000, .v (.a (.fl (.int .i64))))], [], []⟩)], [], []⟩ (.n (.b [.nil, .n (.nil)]))) (by kernel_rfl) (mkCon_ok follows bk_ok okG25 (by kernel_rfl))
noncomputable def G26 : List Con := L_sector_Disk_Write_2_ :: G25
theorem okG26 : ∀ c ∈ G26, ConOk Try.prog c := forall_cons ok_sector_Disk_Write_2 okG25
/-- (*scrinium/sector.Disk).Flush -/
def sector_Disk_Flush_2 (k : Nat) (x : Unit) : Option (Int) :=
  condO (ieq 0 0) (some (1)) (none)
noncomputable def L_sector_Disk_Flush_2_ : Con := ⟨14, ⟨[(0, .v (.a (.nilp)))], [], []⟩, [⟨[(100000, .v (.a (.fl (.int .i64))))], [], []⟩], sector_Disk_Flush_2⟩
theorem ok_sector_Disk_Flush_2 : ConOk Try.prog L_sector_Disk_Flush_2_ := con_of (a := mkCon Try.prog G26 inl bk 14 ⟨[(0, .v (.a (.nilp)))], [], []⟩ ⟨[(.ret, ⟨[(100000, .v (.a (.fl (.int .i64))))], [], []⟩)], [], []⟩ (.n (.n (.nil)))) (by kernel_rfl) (mkCon_ok follows bk_ok okG26 (by kernel_rfl))
noncomputable def G27 : List Con := L_sector_Disk_Flush_2_ :: G26
theorem okG27 : ∀ c ∈ G27, ConOk Try.prog c := forall_cons ok_sector_Disk_Flush_2 okG26
/-- (*scrinium/sector.Disk).Peek -/
def sector_Disk_Peek_2 (k : Nat) (x : Int) : Option (ByteArray) :=
  condO (ilt x 0) (some (str0)) (condO (ige x 0) (some (str0)) (none))
noncomputable def L_sector_Disk_Peek_2_ : Con := ⟨17, ⟨[(0, .v (.a (.nilp))), (1, .v (.a (.fl (.int .i64))))], [], []⟩, [⟨[(100000, .v (.a (.fl .str)))], [], []⟩], sector_Disk_Peek_2⟩
theorem ok_sector_Disk_Peek_2 : ConOk Try.prog L_sector_Disk_Peek_2_ := con_of (a := mkCon Try.prog G27 inl bk 17 ⟨[(0, .v (.a (.nilp))), (1, .v (.a (.fl (.int .i64))))], [], []⟩ ⟨[(.ret, ⟨[(100000, .v (.a (.fl .str)))], [], []⟩)], [], []⟩ (.n (.b [.nil, .n (.nil)]))) (by kernel_rfl) (mkCon_ok follows bk_ok okG27 (by kernel_rfl))
noncomputable def G28 : List Con := L_sector_Disk_Peek_2_ :: G27
theorem okG28 : ∀ c ∈ G28, ConOk Try.prog c := forall_cons ok_sector_Disk_Peek_2 okG27
/-- scrinium/scriniumlaw05.SectorNil -/
def law05_SectorNil (k : Nat) (x : Int) : Option (Bool) :=
  (ref05_Fill k (strOfNums ([120] : List Int))).bind fun r0 => (sector_Disk_Crash_2 k ([1] : List Int)).bind fun r1 => (sector_Disk_Crash k (false, false, 0, 0, ([1] : List Int), ([] : List ByteArray), ([] : List (Int × ByteArray)))).bind fun r2 => (sector_Disk_Read_2 k x).bind fun r3 => (sector_Disk_Read k (x, r2.1, r2.2.1, r2.2.2.1, r2.2.2.2.1, r2.2.2.2.2.1, r2.2.2.2.2.2)).bind fun r4 => (law05_awake k ()).bind fun r5 => condO r5 (condO (ieq r3.2 1) (condO (ieq r4.2 1) ((sector_Disk_Write_2 k (0, r0.1)).bind fun r6 => condO (ieq r6 1) ((sector_Disk_Write k (0, r0.1, r2.1, r2.2.1, r2.2.2.1, r2.2.2.2.1, r2.2.2.2.2.1, r2.2.2.2.2.2)).bind fun r7 => condO (ieq r7.1 1) ((sector_Disk_Flush_2 k ()).bind fun r8 => condO (ieq r8 1) (condO (ieq (WK .i64 ((WK .i64 ((WK .i64 (0 + 0)) + 0)) + (llen r7.2.2.2.2.2.1))) 0) (condO (!r7.2.1) ((sector_Disk_Peek_2 k x).bind fun r9 => condO (sEq r9 str0) ((sector_Disk_Peek k (x, r7.2.1, r7.2.2.1, r7.2.2.2.1, r7.2.2.2.2.1, r7.2.2.2.2.2.1, r7.2.2.2.2.2.2)).bind fun r10 => some ((sEq r10 str0))) (some (false))) (some (false))) (some (false))) (some (false))) (some (false))) (some (false))) (some (false))) (some (false))) (some (false))
noncomputable def L_law05_SectorNil_ : Con := ⟨7, ⟨[(0, .v (.a (.fl (.int .i64))))], [], []⟩, [⟨[(100000, .v (.a (.fl .bool)))], [], []⟩], law05_SectorNil⟩
theorem ok_law05_SectorNil : ConOk Try.prog L_law05_SectorNil_ := con_of (a := mkCon Try.prog G28 inl bk 7 ⟨[(0, .v (.a (.fl (.int .i64))))], [], []⟩ ⟨[(.ret, ⟨[(100000, .v (.a (.fl .bool)))], [], []⟩)], [], []⟩ (.b [.b [.b [.b [.b [.b [.n (.n (.n (.n (.nil)))), .nil], .nil], .nil], .nil], .nil], .nil])) (by kernel_rfl) (mkCon_ok follows bk_ok okG28 (by kernel_rfl))
noncomputable def G29 : List Con := L_law05_SectorNil_ :: G28
theorem okG29 : ∀ c ∈ G29, ConOk Try.prog c := forall_cons ok_law05_SectorNil okG28
/-- math/bits.Len64 -/
abbrev bits_Len64 : Nat → (Int) → Option (Int) := L_math_bits_Len64
noncomputable def L_bits_Len64_ : Con := ⟨71, ⟨[(0, .v (.a (.fl (.int .u64))))], [], []⟩, [⟨[(100000, .v (.a (.fl (.int .i64))))], [], []⟩], bits_Len64⟩
theorem ok_bits_Len64 : ConOk Try.prog L_bits_Len64_ := L_math_bits_Len64_ok
noncomputable def G30 : List Con := L_bits_Len64_ :: G29
theorem okG30 : ∀ c ∈ G30, ConOk Try.prog c := forall_cons ok_bits_Len64 okG29
/-- scrinium/octet.Put -/
def octet_Put (k : Nat) (x : Int) : Option (ByteArray) :=
  (bits_Len64 k x).bind fun r0 => guardO ((nz 8)) (guardO ((mkOk (WK .i64 (1 + (WK .i64 (Int.tdiv (WK .i64 ((WK .i64 (r0 + 8)) - 1)) 8)))) (WK .i64 (1 + (WK .i64 (Int.tdiv (WK .i64 ((WK .i64 (r0 + 8)) - 1)) 8)))) 1)) (guardO ((inR 0 (llen (lrep (WK .i64 (1 + (WK .i64 (Int.tdiv (WK .i64 ((WK .i64 (r0 + 8)) - 1)) 8)))) (0 : Int))))) ((loopK (H := Int × (List Int)) (E := (List Int)) k (fun h1 => condO (ilt h1.1 (WK .i64 (Int.tdiv (WK .i64 ((WK .i64 (r0 + 8)) - 1)) 8))) (guardO ((nn (WK .i64 (8 * h1.1)))) (guardO ((inR (WK .i64 ((WK .i64 (Int.tdiv (WK .i64 ((WK .i64 (r0 + 8)) - 1)) 8)) - h1.1)) (llen h1.2))) (some (.inl (((WK .i64 (h1.1 + 1)), (lset h1.2 (WK .i64 ((WK .i64 (Int.tdiv (WK .i64 ((WK .i64 (r0 + 8)) - 1)) 8)) - h1.1)) (WK .u8 (shrK .u64 x (WK .i64 (8 * h1.1))))))))))) (some (.inr (h1.2)))) ((0, (lset (lrep (WK .i64 (1 + (WK .i64 (Int.tdiv (WK .i64 ((WK .i64 (r0 + 8)) - 1)) 8)))) (0 : Int)) 0 (WK .u8 (WK .i64 (Int.tdiv (WK .i64 ((WK .i64 (r0 + 8)) - 1)) 8))))))).bind fun r1 => some ((strOfNums r1)))))
noncomputable def L_octet_Put_ : Con := ⟨56, ⟨[(0, .v (.a (.fl (.int .u64))))], [], []⟩, [⟨[(100000, .v (.a (.fl .str)))], [], []⟩], octet_Put⟩
theorem ok_octet_Put : ConOk Try.prog L_octet_Put_ := con_of (a := mkCon Try.prog G30 inl bk 56 ⟨[(0, .v (.a (.fl (.int .u64))))], [], []⟩ ⟨[(.ret, ⟨[(100000, .v (.a (.fl .str)))], [], []⟩)], [], []⟩ (.n (.l ⟨[(.normal, ⟨[(16, .v (.a (.fl (.int .i64))))], [(0, .row 5 (.int .u8) .own)], []⟩)], [0], [0]⟩ ⟨[(.exit 0, ⟨[], [(0, .row 5 (.int .u8) .own)], []⟩)], [0], [0]⟩ [.n (.nil)] [.nil]))) (by kernel_rfl) (mkCon_ok follows bk_ok okG30 (by kernel_rfl))
noncomputable def G31 : List Con := L_octet_Put_ :: G30
theorem okG31 : ∀ c ∈ G31, ConOk Try.prog c := forall_cons ok_octet_Put okG30
/-- scrinium/sector.Fill -/
def sector_Fill (k : Nat) (x : ByteArray) : Option (ByteArray × Int) :=
  (octet_Put k (WK .u64 (blen x))).bind fun r0 => guardO ((catOk r0 x)) (condO (igt (blen (r0 ++ x)) 256) (some ((str0, 11))) ((strings_Repeat k (⟨#[0]⟩, (WK .i64 (256 - (blen (r0 ++ x)))))).bind fun r1 => guardO ((catOk (r0 ++ x) r1)) (some ((((r0 ++ x) ++ r1), 0)))))
noncomputable def L_sector_Fill_ : Con := ⟨31, ⟨[(0, .v (.a (.fl .str)))], [], []⟩, [⟨[(100000, .v (.a (.fl .str))), (100001, .v (.a (.fl (.int .i64))))], [], []⟩], sector_Fill⟩
theorem ok_sector_Fill : ConOk Try.prog L_sector_Fill_ := con_of (a := mkCon Try.prog G31 inl bk 31 ⟨[(0, .v (.a (.fl .str)))], [], []⟩ ⟨[(.ret, ⟨[(100000, .v (.a (.fl .str))), (100001, .v (.a (.fl (.int .i64))))], [], []⟩)], [], []⟩ (.n (.nil))) (by kernel_rfl) (mkCon_ok follows bk_ok okG31 (by kernel_rfl))
noncomputable def G32 : List Con := L_sector_Fill_ :: G31
theorem okG32 : ∀ c ∈ G32, ConOk Try.prog c := forall_cons ok_sector_Fill okG31
/-- (*scrinium/octet.Scan).take -/
def octet_Scan_take (k : Nat) (x : Int × ByteArray × Bool) : Option (ByteArray × Bool × ByteArray × Bool) :=
  condO x.2.2 (some ((str0, false, x.2.1, x.2.2))) (condO (ilt x.1 0) (some ((str0, false, x.2.1, true))) (condO (igt x.1 (blen x.2.1)) (some ((str0, false, x.2.1, true))) (guardO ((cutOk 0 x.1 (blen x.2.1))) (guardO ((cutOk x.1 (blen x.2.1) (blen x.2.1))) (some (((scut x.2.1 0 x.1), true, (scut x.2.1 x.1 (blen x.2.1)), x.2.2)))))))
noncomputable def L_octet_Scan_take_ : Con := ⟨59, ⟨[(0, .v (.a (.ptr 0 0))), (1, .v (.a (.fl (.int .i64))))], [], [.box 90 [.fl .str, .fl .bool]]⟩, [⟨[(100000, .v (.a (.fl .str))), (100001, .v (.a (.fl .bool)))], [(0, .box 90 [.fl .str, .fl .bool])], []⟩], octet_Scan_take⟩
theorem ok_octet_Scan_take : ConOk Try.prog L_octet_Scan_take_ := con_of (a := mkCon Try.prog G32 inl bk 59 ⟨[(0, .v (.a (.ptr 0 0))), (1, .v (.a (.fl (.int .i64))))], [], [.box 90 [.fl .str, .fl .bool]]⟩ ⟨[(.ret, ⟨[(100000, .v (.a (.fl .str))), (100001, .v (.a (.fl .bool)))], [(0, .box 90 [.fl .str, .fl .bool])], []⟩)], [0], []⟩ (.n (.b [.nil, .n (.nil)]))) (by kernel_rfl) (mkCon_ok follows bk_ok okG32 (by kernel_rfl))
noncomputable def G33 : List Con := L_octet_Scan_take_ :: G32
theorem okG33 : ∀ c ∈ G33, ConOk Try.prog c := forall_cons ok_octet_Scan_take okG32
/-- (*scrinium/octet.Scan).Long -/
def octet_Scan_Long (k : Nat) (x : ByteArray × Bool) : Option (Int × ByteArray × Bool) :=
  (octet_Scan_take k (1, x.1, x.2)).bind fun r0 => condO (!r0.2.1) (some ((0, r0.2.2.1, r0.2.2.2))) (guardO ((inR 0 (blen r0.1))) ((condO (igt (WK .i64 (sAt r0.1 0)) 8) (some ((-1))) (some ((WK .i64 (sAt r0.1 0)))) : Option (Int)).bind fun r1 => (octet_Scan_take k (r1, r0.2.2.1, r0.2.2.2)).bind fun r2 => (condO r2.2.1 (condO (igt r1 0) (guardO ((inR 0 (blen r2.1))) (condO (ieq (sAt r2.1 0) 0) ((octet_Scan_take k ((-1), r2.2.2.1, r2.2.2.2)).bind fun r3 => some (.inl (0, r3.2.2.1, r3.2.2.2))) (some (.inr ((r2.2.2.1, r2.2.2.2)))))) (some (.inr ((r2.2.2.1, r2.2.2.2))))) (some (.inr ((r2.2.2.1, r2.2.2.2)))) : Option ((Int × ByteArray × Bool) ⊕ (ByteArray × Bool))).bind fun r3 => caseS r3 (fun r3 => some ((r3.1, r3.2.1, r3.2.2))) (fun r3 => (loopK (H := Int × Int) (E := Int) k (fun h4 => condO (ilt h4.2 (blen r2.1)) (guardO ((nn 8)) (guardO ((inR h4.2 (blen r2.1))) (some (.inl (((orK .u64 (shlK .u64 h4.1 8) (WK .u64 (sAt r2.1 h4.2))), (WK .i64 (h4.2 + 1)))))))) (some (.inr (h4.1)))) ((0, 0))).bind fun r4 => some ((r4, r3.1, r3.2)))))
noncomputable def L_octet_Scan_Long_ : Con := ⟨67, ⟨[(0, .v (.a (.ptr 0 0)))], [], [.box 90 [.fl .str, .fl .bool]]⟩, [⟨[(100000, .v (.a (.fl (.int .u64))))], [(0, .box 90 [.fl .str, .fl .bool])], []⟩], octet_Scan_Long⟩
theorem ok_octet_Scan_Long : ConOk Try.prog L_octet_Scan_Long_ := con_of (a := mkCon Try.prog G33 inl bk 67 ⟨[(0, .v (.a (.ptr 0 0)))], [], [.box 90 [.fl .str, .fl .bool]]⟩ ⟨[(.ret, ⟨[(100000, .v (.a (.fl (.int .u64))))], [(0, .box 90 [.fl .str, .fl .bool])], []⟩)], [0], []⟩ (.n (.b [.nil, .j ⟨[(.normal, ⟨[(5, .v (.a (.fl (.int .i64))))], [], []⟩)], [], []⟩ (.nil) [.j ⟨[(.ret, ⟨[(2, .v (.a (.fl (.int .u64))))], [(0, .box 90 [.fl .str, .fl .bool])], []⟩), (.normal, ⟨[], [(0, .box 90 [.fl .str, .fl .bool])], []⟩)], [0], []⟩ (.nil) [.nil, .n (.l ⟨[(.normal, ⟨[(7, .v (.a (.fl (.int .u64)))), (41, .v (.a (.fl (.int .i64))))], [], []⟩)], [], []⟩ ⟨[(.exit 0, ⟨[(7, .v (.a (.fl (.int .u64))))], [], []⟩)], [], []⟩ [.n (.nil)] [.nil])]]]))) (by kernel_rfl) (mkCon_ok follows bk_ok okG33 (by kernel_rfl))
noncomputable def G34 : List Con := L_octet_Scan_Long_ :: G33
theorem okG34 : ∀ c ∈ G34, ConOk Try.prog c := forall_cons ok_octet_Scan_Long okG33
/-- (*scrinium/octet.Scan).Num -/
def octet_Scan_Num (k : Nat) (x : Int × ByteArray × Bool) : Option (Int × ByteArray × Bool) :=
  (octet_Scan_Long k (x.2.1, x.2.2)).bind fun r0 => condO (ilt x.1 0) ((octet_Scan_take k ((-1), r0.2.1, r0.2.2)).bind fun r1 => some ((0, r1.2.2.1, r1.2.2.2))) (condO (igt r0.1 (WK .u64 x.1)) ((octet_Scan_take k ((-1), r0.2.1, r0.2.2)).bind fun r1 => some ((0, r1.2.2.1, r1.2.2.2))) (some (((WK .i64 r0.1), r0.2.1, r0.2.2))))
noncomputable def L_octet_Scan_Num_ : Con := ⟨58, ⟨[(0, .v (.a (.ptr 0 0))), (1, .v (.a (.fl (.int .i64))))], [], [.box 90 [.fl .str, .fl .bool]]⟩, [⟨[(100000, .v (.a (.fl (.int .i64))))], [(0, .box 90 [.fl .str, .fl .bool])], []⟩], octet_Scan_Num⟩
theorem ok_octet_Scan_Num : ConOk Try.prog L_octet_Scan_Num_ := con_of (a := mkCon Try.prog G34 inl bk 58 ⟨[(0, .v (.a (.ptr 0 0))), (1, .v (.a (.fl (.int .i64))))], [], [.box 90 [.fl .str, .fl .bool]]⟩ ⟨[(.ret, ⟨[(100000, .v (.a (.fl (.int .i64))))], [(0, .box 90 [.fl .str, .fl .bool])], []⟩)], [0], []⟩ (.n (.nil))) (by kernel_rfl) (mkCon_ok follows bk_ok okG34 (by kernel_rfl))
noncomputable def G35 : List Con := L_octet_Scan_Num_ :: G34
theorem okG35 : ∀ c ∈ G35, ConOk Try.prog c := forall_cons ok_octet_Scan_Num okG34
/-- (*scrinium/octet.Scan).Text -/
def octet_Scan_Text (k : Nat) (x : Int × ByteArray × Bool) : Option (ByteArray × ByteArray × Bool) :=
  (octet_Scan_Num k (x.1, x.2.1, x.2.2)).bind fun r0 => condO (!(!r0.2.2)) (some ((str0, r0.2.1, r0.2.2))) ((octet_Scan_take k (r0.1, r0.2.1, r0.2.2)).bind fun r1 => some ((r1.1, r1.2.2.1, r1.2.2.2)))
noncomputable def L_octet_Scan_Text_ : Con := ⟨46, ⟨[(0, .v (.a (.ptr 0 0))), (1, .v (.a (.fl (.int .i64))))], [], [.box 90 [.fl .str, .fl .bool]]⟩, [⟨[(100000, .v (.a (.fl .str)))], [(0, .box 90 [.fl .str, .fl .bool])], []⟩], octet_Scan_Text⟩
theorem ok_octet_Scan_Text : ConOk Try.prog L_octet_Scan_Text_ := con_of (a := mkCon Try.prog G35 inl bk 46 ⟨[(0, .v (.a (.ptr 0 0))), (1, .v (.a (.fl (.int .i64))))], [], [.box 90 [.fl .str, .fl .bool]]⟩ ⟨[(.ret, ⟨[(100000, .v (.a (.fl .str)))], [(0, .box 90 [.fl .str, .fl .bool])], []⟩)], [0], []⟩ (.n (.nil))) (by kernel_rfl) (mkCon_ok follows bk_ok okG35 (by kernel_rfl))
noncomputable def G36 : List Con := L_octet_Scan_Text_ :: G35
theorem okG36 : ∀ c ∈ G36, ConOk Try.prog c := forall_cons ok_octet_Scan_Text okG35
/-- scrinium/sector.Open -/
def sector_Open (k : Nat) (x : ByteArray) : Option (ByteArray × Bool) :=
  (octet_Scan_Text k (256, x, false)).bind fun r0 => (sector_Fill k r0.1).bind fun r1 => condO (!(!r0.2.2)) (some ((str0, false))) (condO (ine r1.2 0) (some ((str0, false))) (condO (!(sEq r1.1 x)) (some ((str0, false))) (some ((r0.1, true)))))
noncomputable def L_sector_Open_ : Con := ⟨33, ⟨[(0, .v (.a (.fl .str)))], [], []⟩, [⟨[(100000, .v (.a (.fl .str))), (100001, .v (.a (.fl .bool)))], [], []⟩], sector_Open⟩
theorem ok_sector_Open : ConOk Try.prog L_sector_Open_ := con_of (a := mkCon Try.prog G36 inl bk 33 ⟨[(0, .v (.a (.fl .str)))], [], []⟩ ⟨[(.ret, ⟨[(100000, .v (.a (.fl .str))), (100001, .v (.a (.fl .bool)))], [], []⟩)], [], []⟩ (.n (.nil))) (by kernel_rfl) (mkCon_ok follows bk_ok okG36 (by kernel_rfl))
noncomputable def G37 : List Con := L_sector_Open_ :: G36
theorem okG37 : ∀ c ∈ G37, ConOk Try.prog c := forall_cons ok_sector_Open okG36
/-- (*scrinium/scriniumref01.Scan).Long -/
def ref01_Scan_Long (k : Nat) (x : ByteArray × Int × Bool) : Option (Int × ByteArray × Int × Bool) :=
  condO x.2.2 (some ((0, x.1, x.2.1, true))) (condO (ige x.2.1 (blen x.1)) (some ((0, x.1, x.2.1, true))) (guardO ((inR x.2.1 (blen x.1))) ((condO (igt (WK .i64 (sAt x.1 x.2.1)) 8) (some (.inl (0, x.1, x.2.1, true))) (condO (ilt (WK .i64 ((WK .i64 ((blen x.1) - x.2.1)) - 1)) (WK .i64 (sAt x.1 x.2.1))) (some (.inl (0, x.1, x.2.1, true))) (condO (igt (WK .i64 (sAt x.1 x.2.1)) 0) (guardO ((inR (WK .i64 (x.2.1 + 1)) (blen x.1))) (condO (ieq (sAt x.1 (WK .i64 (x.2.1 + 1))) 0) (some (.inl (0, x.1, x.2.1, true))) (some (.inr ((x.1, x.2.1, x.2.2)))))) (some (.inr ((x.1, x.2.1, x.2.2)))))) : Option ((Int × ByteArray × Int × Bool) ⊕ (ByteArray × Int × Bool))).bind fun r0 => caseS r0 (fun r0 => some ((r0.1, r0.2.1, r0.2.2.1, r0.2.2.2))) (fun r0 => (loopK (H := Int × Int) (E := Int) k (fun h1 => condO (ile h1.2 (WK .i64 (sAt x.1 x.2.1))) (guardO ((inR (WK .i64 (r0.2.1 + h1.2)) (blen r0.1))) (some (.inl (((WK .u64 ((WK .u64 (h1.1 * 256)) + (WK .u64 (sAt r0.1 (WK .i64 (r0.2.1 + h1.2)))))), (WK .i64 (h1.2 + 1))))))) (some (.inr (h1.1)))) ((0, 1))).bind fun r1 => some ((r1, r0.1, (WK .i64 ((WK .i64 (r0.2.1 + 1)) + (WK .i64 (sAt x.1 x.2.1)))), r0.2.2))))))
noncomputable def L_ref01_Scan_Long_ : Con := ⟨68, ⟨[(0, .v (.a (.ptr 0 0)))], [], [.box 74 [.fl .str, .fl (.int .i64), .fl .bool]]⟩, [⟨[(100000, .v (.a (.fl (.int .u64))))], [(0, .box 74 [.fl .str, .fl (.int .i64), .fl .bool])], []⟩], ref01_Scan_Long⟩
theorem ok_ref01_Scan_Long : ConOk Try.prog L_ref01_Scan_Long_ := con_of (a := mkCon Try.prog G37 inl bk 68 ⟨[(0, .v (.a (.ptr 0 0)))], [], [.box 74 [.fl .str, .fl (.int .i64), .fl .bool]]⟩ ⟨[(.ret, ⟨[(100000, .v (.a (.fl (.int .u64))))], [(0, .box 74 [.fl .str, .fl (.int .i64), .fl .bool])], []⟩)], [0], []⟩ (.n (.d [0] (.b [.nil, .b [.nil, .d [0] (.j ⟨[(.ret, ⟨[(2, .v (.a (.fl (.int .u64))))], [(0, .box 74 [.fl .str, .fl (.int .i64), .fl .bool])], []⟩), (.normal, ⟨[], [(0, .box 74 [.fl .str, .fl (.int .i64), .fl .bool])], []⟩)], [0], []⟩ (.d [0] (.nil)) [.nil, .n (.l ⟨[(.normal, ⟨[(4, .v (.a (.fl (.int .u64)))), (5, .v (.a (.fl (.int .i64))))], [], []⟩)], [], []⟩ ⟨[(.exit 0, ⟨[(4, .v (.a (.fl (.int .u64))))], [], []⟩)], [], []⟩ [.n (.b [.d [0] (.nil), .nil])] [.nil])])]])))) (by kernel_rfl) (mkCon_ok follows bk_ok okG37 (by kernel_rfl))
noncomputable def G38 : List Con := L_ref01_Scan_Long_ :: G37
theorem okG38 : ∀ c ∈ G38, ConOk Try.prog c := forall_cons ok_ref01_Scan_Long okG37
/-- (*scrinium/scriniumref01.Scan).Num -/
def ref01_Scan_Num (k : Nat) (x : Int × ByteArray × Int × Bool) : Option (Int × ByteArray × Int × Bool) :=
  (ref01_Scan_Long k (x.2.1, x.2.2.1, x.2.2.2)).bind fun r0 => (condO (ilt x.1 0) (some ((r0.2.1, r0.2.2.1, true))) (condO (igt r0.1 (WK .u64 x.1)) (some ((r0.2.1, r0.2.2.1, true))) (some ((r0.2.1, r0.2.2.1, r0.2.2.2)))) : Option (ByteArray × Int × Bool)).bind fun r1 => condO r1.2.2 (some ((0, r1.1, r1.2.1, r1.2.2))) (some (((WK .i64 r0.1), r1.1, r1.2.1, r1.2.2)))
noncomputable def L_ref01_Scan_Num_ : Con := ⟨60, ⟨[(0, .v (.a (.ptr 0 0))), (1, .v (.a (.fl (.int .i64))))], [], [.box 74 [.fl .str, .fl (.int .i64), .fl .bool]]⟩, [⟨[(100000, .v (.a (.fl (.int .i64))))], [(0, .box 74 [.fl .str, .fl (.int .i64), .fl .bool])], []⟩], ref01_Scan_Num⟩
theorem ok_ref01_Scan_Num : ConOk Try.prog L_ref01_Scan_Num_ := con_of (a := mkCon Try.prog G38 inl bk 60 ⟨[(0, .v (.a (.ptr 0 0))), (1, .v (.a (.fl (.int .i64))))], [], [.box 74 [.fl .str, .fl (.int .i64), .fl .bool]]⟩ ⟨[(.ret, ⟨[(100000, .v (.a (.fl (.int .i64))))], [(0, .box 74 [.fl .str, .fl (.int .i64), .fl .bool])], []⟩)], [0], []⟩ (.j ⟨[(.normal, ⟨[], [(0, .box 74 [.fl .str, .fl (.int .i64), .fl .bool])], []⟩)], [0], []⟩ (.nil) [.n (.nil)])) (by kernel_rfl) (mkCon_ok follows bk_ok okG38 (by kernel_rfl))
noncomputable def G39 : List Con := L_ref01_Scan_Num_ :: G38
theorem okG39 : ∀ c ∈ G39, ConOk Try.prog c := forall_cons ok_ref01_Scan_Num okG38
/-- (*scrinium/scriniumref01.Scan).Text -/
def ref01_Scan_Text (k : Nat) (x : Int × ByteArray × Int × Bool) : Option (ByteArray × ByteArray × Int × Bool) :=
  (ref01_Scan_Num k (x.1, x.2.1, x.2.2.1, x.2.2.2)).bind fun r0 => condO r0.2.2.2 (some ((str0, r0.2.1, r0.2.2.1, true))) (condO (ilt (WK .i64 ((blen r0.2.1) - r0.2.2.1)) r0.1) (some ((str0, r0.2.1, r0.2.2.1, true))) (guardO ((cutOk r0.2.2.1 (WK .i64 (r0.2.2.1 + r0.1)) (blen r0.2.1))) (some (((scut r0.2.1 r0.2.2.1 (WK .i64 (r0.2.2.1 + r0.1))), r0.2.1, (WK .i64 (r0.2.2.1 + r0.1)), r0.2.2.2)))))
noncomputable def L_ref01_Scan_Text_ : Con := ⟨48, ⟨[(0, .v (.a (.ptr 0 0))), (1, .v (.a (.fl (.int .i64))))], [], [.box 74 [.fl .str, .fl (.int .i64), .fl .bool]]⟩, [⟨[(100000, .v (.a (.fl .str)))], [(0, .box 74 [.fl .str, .fl (.int .i64), .fl .bool])], []⟩], ref01_Scan_Text⟩
theorem ok_ref01_Scan_Text : ConOk Try.prog L_ref01_Scan_Text_ := con_of (a := mkCon Try.prog G39 inl bk 48 ⟨[(0, .v (.a (.ptr 0 0))), (1, .v (.a (.fl (.int .i64))))], [], [.box 74 [.fl .str, .fl (.int .i64), .fl .bool]]⟩ ⟨[(.ret, ⟨[(100000, .v (.a (.fl .str)))], [(0, .box 74 [.fl .str, .fl (.int .i64), .fl .bool])], []⟩)], [0], []⟩ (.n (.d [0, 1] (.b [.nil, .b [.nil, .d [0, 1] (.nil)]])))) (by kernel_rfl) (mkCon_ok follows bk_ok okG39 (by kernel_rfl))
noncomputable def G40 : List Con := L_ref01_Scan_Text_ :: G39
theorem okG40 : ∀ c ∈ G40, ConOk Try.prog c := forall_cons ok_ref01_Scan_Text okG39
/-- scrinium/scriniumref05.Open -/
def ref05_Open (k : Nat) (x : ByteArray) : Option (ByteArray × Bool) :=
  (ref01_Scan_Text k (256, x, 0, false)).bind fun r0 => (ref05_Fill k r0.1).bind fun r1 => condO r0.2.2.2 (some ((str0, false))) (condO (ine r1.2 0) (some ((str0, false))) (condO (!(sEq r1.1 x)) (some ((str0, false))) (some ((r0.1, true)))))
noncomputable def L_ref05_Open_ : Con := ⟨34, ⟨[(0, .v (.a (.fl .str)))], [], []⟩, [⟨[(100000, .v (.a (.fl .str))), (100001, .v (.a (.fl .bool)))], [], []⟩], ref05_Open⟩
theorem ok_ref05_Open : ConOk Try.prog L_ref05_Open_ := con_of (a := mkCon Try.prog G40 inl bk 34 ⟨[(0, .v (.a (.fl .str)))], [], []⟩ ⟨[(.ret, ⟨[(100000, .v (.a (.fl .str))), (100001, .v (.a (.fl .bool)))], [], []⟩)], [], []⟩ (.n (.nil))) (by kernel_rfl) (mkCon_ok follows bk_ok okG40 (by kernel_rfl))
noncomputable def G41 : List Con := L_ref05_Open_ :: G40
theorem okG41 : ∀ c ∈ G41, ConOk Try.prog c := forall_cons ok_ref05_Open okG40
/-- scrinium/scriniumlaw05.SectorFills -/
def law05_SectorFills (k : Nat) (x : ByteArray × ByteArray) : Option (Bool) :=
  (law05_awake k ()).bind fun r0 => condO (igt (blen x.1) 300) (guardO ((cutOk 0 300 (blen x.1))) (condO (igt (blen x.2) 300) (guardO ((cutOk 0 300 (blen x.2))) ((sector_Fill k (scut x.1 0 300)).bind fun r1 => (ref05_Fill k (scut x.1 0 300)).bind fun r2 => (sector_Open k (scut x.2 0 300)).bind fun r3 => (ref05_Open k (scut x.2 0 300)).bind fun r4 => (sector_Open k r1.1).bind fun r5 => condO r0 (condO (sEq r1.1 r2.1) (condO (ieq r1.2 r2.2) (condO (sEq r3.1 r4.1) (condO (beq r3.2 r4.2) (condO (beq r5.2 (ieq r1.2 0)) (condO (!r5.2) (some (true)) (condO (sEq r5.1 (scut x.1 0 300)) (some ((ieq (blen r1.1) 256))) (some (false)))) (some (false))) (some (false))) (some (false))) (some (false))) (some (false))) (some (false)))) ((sector_Fill k (scut x.1 0 300)).bind fun r1 => (ref05_Fill k (scut x.1 0 300)).bind fun r2 => (sector_Open k x.2).bind fun r3 => (ref05_Open k x.2).bind fun r4 => (sector_Open k r1.1).bind fun r5 => condO r0 (condO (sEq r1.1 r2.1) (condO (ieq r1.2 r2.2) (condO (sEq r3.1 r4.1) (condO (beq r3.2 r4.2) (condO (beq r5.2 (ieq r1.2 0)) (condO (!r5.2) (some (true)) (condO (sEq r5.1 (scut x.1 0 300)) (some ((ieq (blen r1.1) 256))) (some (false)))) (some (false))) (some (false))) (some (false))) (some (false))) (some (false))) (some (false))))) (condO (igt (blen x.2) 300) (guardO ((cutOk 0 300 (blen x.2))) ((sector_Fill k x.1).bind fun r1 => (ref05_Fill k x.1).bind fun r2 => (sector_Open k (scut x.2 0 300)).bind fun r3 => (ref05_Open k (scut x.2 0 300)).bind fun r4 => (sector_Open k r1.1).bind fun r5 => condO r0 (condO (sEq r1.1 r2.1) (condO (ieq r1.2 r2.2) (condO (sEq r3.1 r4.1) (condO (beq r3.2 r4.2) (condO (beq r5.2 (ieq r1.2 0)) (condO (!r5.2) (some (true)) (condO (sEq r5.1 x.1) (some ((ieq (blen r1.1) 256))) (some (false)))) (some (false))) (some (false))) (some (false))) (some (false))) (some (false))) (some (false)))) ((sector_Fill k x.1).bind fun r1 => (ref05_Fill k x.1).bind fun r2 => (sector_Open k x.2).bind fun r3 => (ref05_Open k x.2).bind fun r4 => (sector_Open k r1.1).bind fun r5 => condO r0 (condO (sEq r1.1 r2.1) (condO (ieq r1.2 r2.2) (condO (sEq r3.1 r4.1) (condO (beq r3.2 r4.2) (condO (beq r5.2 (ieq r1.2 0)) (condO (!r5.2) (some (true)) (condO (sEq r5.1 x.1) (some ((ieq (blen r1.1) 256))) (some (false)))) (some (false))) (some (false))) (some (false))) (some (false))) (some (false))) (some (false))))
noncomputable def L_law05_SectorFills_ : Con := ⟨8, ⟨[(0, .v (.a (.fl .str))), (1, .v (.a (.fl .str)))], [], []⟩, [⟨[(100000, .v (.a (.fl .bool)))], [], []⟩], law05_SectorFills⟩
theorem ok_law05_SectorFills : ConOk Try.prog L_law05_SectorFills_ := con_of (a := mkCon Try.prog G41 inl bk 8 ⟨[(0, .v (.a (.fl .str))), (1, .v (.a (.fl .str)))], [], []⟩ ⟨[(.ret, ⟨[(100000, .v (.a (.fl .bool)))], [], []⟩)], [], []⟩ (.n (.b [.n (.nil), .n (.nil)]))) (by kernel_rfl) (mkCon_ok follows bk_ok okG41 (by kernel_rfl))
noncomputable def G42 : List Con := L_law05_SectorFills_ :: G41
theorem okG42 : ∀ c ∈ G42, ConOk Try.prog c := forall_cons ok_law05_SectorFills okG41
/-- scrinium/scriniumlaw05.SectorOne -/
def law05_SectorOne (k : Nat) (x : ByteArray × ByteArray × ByteArray) : Option (Bool) :=
  (law05_awake k ()).bind fun r0 => condO (igt (blen x.1) 253) (guardO ((cutOk 0 253 (blen x.1))) (condO (igt (blen x.2.1) 253) (guardO ((cutOk 0 253 (blen x.2.1))) (condO (igt (blen x.2.2) 300) (guardO ((cutOk 0 300 (blen x.2.2))) ((sector_Fill k (scut x.1 0 253)).bind fun r1 => (sector_Fill k (scut x.2.1 0 253)).bind fun r2 => (sector_Open k (scut x.2.2 0 300)).bind fun r3 => (condO r3.2 ((sector_Fill k r3.1).bind fun r4 => condO (ine r4.2 0) (some (.inl false)) (condO (!(sEq r4.1 (scut x.2.2 0 300))) (some (.inl false)) (some (.inr (()))))) (some (.inr (()))) : Option ((Bool) ⊕ (Unit))).bind fun r4 => caseS r4 (fun r4 => some (r4)) (fun r4 => condO r0 (condO (ieq r1.2 0) (condO (ieq r2.2 0) (condO (beq (sEq r1.1 r2.1) (sEq (scut x.1 0 253) (scut x.2.1 0 253))) (condO (!r3.2) (some (true)) (some ((ieq (blen (scut x.2.2 0 300)) 256)))) (some (false))) (some (false))) (some (false))) (some (false))))) ((sector_Fill k (scut x.1 0 253)).bind fun r1 => (sector_Fill k (scut x.2.1 0 253)).bind fun r2 => (sector_Open k x.2.2).bind fun r3 => (condO r3.2 ((sector_Fill k r3.1).bind fun r4 => condO (ine r4.2 0) (some (.inl false)) (condO (!(sEq r4.1 x.2.2)) (some (.inl false)) (some (.inr (()))))) (some (.inr (()))) : Option ((Bool) ⊕ (Unit))).bind fun r4 => caseS r4 (fun r4 => some (r4)) (fun r4 => condO r0 (condO (ieq r1.2 0) (condO (ieq r2.2 0) (condO (beq (sEq r1.1 r2.1) (sEq (scut x.1 0 253) (scut x.2.1 0 253))) (condO (!r3.2) (some (true)) (some ((ieq (blen x.2.2) 256)))) (some (false))) (some (false))) (some (false))) (some (false)))))) (condO (igt (blen x.2.2) 300) (guardO ((cutOk 0 300 (blen x.2.2))) ((sector_Fill k (scut x.1 0 253)).bind fun r1 => (sector_Fill k x.2.1).bind fun r2 => (sector_Open k (scut x.2.2 0 300)).bind fun r3 => (condO r3.2 ((sector_Fill k r3.1).bind fun r4 => condO (ine r4.2 0) (some (.inl false)) (condO (!(sEq r4.1 (scut x.2.2 0 300))) (some (.inl false)) (some (.inr (()))))) (some (.inr (()))) : Option ((Bool) ⊕ (Unit))).bind fun r4 => caseS r4 (fun r4 => some (r4)) (fun r4 => condO r0 (condO (ieq r1.2 0) (condO (ieq r2.2 0) (condO (beq (sEq r1.1 r2.1) (sEq (scut x.1 0 253) x.2.1)) (condO (!r3.2) (some (true)) (some ((ieq (blen (scut x.2.2 0 300)) 256)))) (some (false))) (some (false))) (some (false))) (some (false))))) ((sector_Fill k (scut x.1 0 253)).bind fun r1 => (sector_Fill k x.2.1).bind fun r2 => (sector_Open k x.2.2).bind fun r3 => (condO r3.2 ((sector_Fill k r3.1).bind fun r4 => condO (ine r4.2 0) (some (.inl false)) (condO (!(sEq r4.1 x.2.2)) (some (.inl false)) (some (.inr (()))))) (some (.inr (()))) : Option ((Bool) ⊕ (Unit))).bind fun r4 => caseS r4 (fun r4 => some (r4)) (fun r4 => condO r0 (condO (ieq r1.2 0) (condO (ieq r2.2 0) (condO (beq (sEq r1.1 r2.1) (sEq (scut x.1 0 253) x.2.1)) (condO (!r3.2) (some (true)) (some ((ieq (blen x.2.2) 256)))) (some (false))) (some (false))) (some (false))) (some (false))))))) (condO (igt (blen x.2.1) 253) (guardO ((cutOk 0 253 (blen x.2.1))) (condO (igt (blen x.2.2) 300) (guardO ((cutOk 0 300 (blen x.2.2))) ((sector_Fill k x.1).bind fun r1 => (sector_Fill k (scut x.2.1 0 253)).bind fun r2 => (sector_Open k (scut x.2.2 0 300)).bind fun r3 => (condO r3.2 ((sector_Fill k r3.1).bind fun r4 => condO (ine r4.2 0) (some (.inl false)) (condO (!(sEq r4.1 (scut x.2.2 0 300))) (some (.inl false)) (some (.inr (()))))) (some (.inr (()))) : Option ((Bool) ⊕ (Unit))).bind fun r4 => caseS r4 (fun r4 => some (r4)) (fun r4 => condO r0 (condO (ieq r1.2 0) (condO (ieq r2.2 0) (condO (beq (sEq r1.1 r2.1) (sEq x.1 (scut x.2.1 0 253))) (condO (!r3.2) (some (true)) (some ((ieq (blen (scut x.2.2 0 300)) 256)))) (some (false))) (some (false))) (some (false))) (some (false))))) ((sector_Fill k x.1).bind fun r1 => (sector_Fill k (scut x.2.1 0 253)).bind fun r2 => (sector_Open k x.2.2).bind fun r3 => (condO r3.2 ((sector_Fill k r3.1).bind fun r4 => condO (ine r4.2 0) (some (.inl false)) (condO (!(sEq r4.1 x.2.2)) (some (.inl false)) (some (.inr (()))))) (some (.inr (()))) : Option ((Bool) ⊕ (Unit))).bind fun r4 => caseS r4 (fun r4 => some (r4)) (fun r4 => condO r0 (condO (ieq r1.2 0) (condO (ieq r2.2 0) (condO (beq (sEq r1.1 r2.1) (sEq x.1 (scut x.2.1 0 253))) (condO (!r3.2) (some (true)) (some ((ieq (blen x.2.2) 256)))) (some (false))) (some (false))) (some (false))) (some (false)))))) (condO (igt (blen x.2.2) 300) (guardO ((cutOk 0 300 (blen x.2.2))) ((sector_Fill k x.1).bind fun r1 => (sector_Fill k x.2.1).bind fun r2 => (sector_Open k (scut x.2.2 0 300)).bind fun r3 => (condO r3.2 ((sector_Fill k r3.1).bind fun r4 => condO (ine r4.2 0) (some (.inl false)) (condO (!(sEq r4.1 (scut x.2.2 0 300))) (some (.inl false)) (some (.inr (()))))) (some (.inr (()))) : Option ((Bool) ⊕ (Unit))).bind fun r4 => caseS r4 (fun r4 => some (r4)) (fun r4 => condO r0 (condO (ieq r1.2 0) (condO (ieq r2.2 0) (condO (beq (sEq r1.1 r2.1) (sEq x.1 x.2.1)) (condO (!r3.2) (some (true)) (some ((ieq (blen (scut x.2.2 0 300)) 256)))) (some (false))) (some (false))) (some (false))) (some (false))))) ((sector_Fill k x.1).bind fun r1 => (sector_Fill k x.2.1).bind fun r2 => (sector_Open k x.2.2).bind fun r3 => (condO r3.2 ((sector_Fill k r3.1).bind fun r4 => condO (ine r4.2 0) (some (.inl false)) (condO (!(sEq r4.1 x.2.2)) (some (.inl false)) (some (.inr (()))))) (some (.inr (()))) : Option ((Bool) ⊕ (Unit))).bind fun r4 => caseS r4 (fun r4 => some (r4)) (fun r4 => condO r0 (condO (ieq r1.2 0) (condO (ieq r2.2 0) (condO (beq (sEq r1.1 r2.1) (sEq x.1 x.2.1)) (condO (!r3.2) (some (true)) (some ((ieq (blen x.2.2) 256)))) (some (false))) (some (false))) (some (false))) (some (false))))))
noncomputable def L_law05_SectorOne_ : Con := ⟨9, ⟨[(0, .v (.a (.fl .str))), (1, .v (.a (.fl .str))), (2, .v (.a (.fl .str)))], [], []⟩, [⟨[(100000, .v (.a (.fl .bool)))], [], []⟩], law05_SectorOne⟩
theorem ok_law05_SectorOne : ConOk Try.prog L_law05_SectorOne_ := con_of (a := mkCon Try.prog G42 inl bk 9 ⟨[(0, .v (.a (.fl .str))), (1, .v (.a (.fl .str))), (2, .v (.a (.fl .str)))], [], []⟩ ⟨[(.ret, ⟨[(100000, .v (.a (.fl .bool)))], [], []⟩)], [], []⟩ (.n (.b [.n (.b [.n (.b [.j ⟨[(.ret, ⟨[(6, .v (.a (.fl .bool)))], [], []⟩), (.normal, ⟨[], [], []⟩)], [], []⟩ (.nil) [.nil, .nil], .j ⟨[(.ret, ⟨[(6, .v (.a (.fl .bool)))], [], []⟩), (.normal, ⟨[], [], []⟩)], [], []⟩ (.nil) [.nil, .nil]]), .n (.b [.j ⟨[(.ret, ⟨[(6, .v (.a (.fl .bool)))], [], []⟩), (.normal, ⟨[], [], []⟩)], [], []⟩ (.nil) [.nil, .nil], .j ⟨[(.ret, ⟨[(6, .v (.a (.fl .bool)))], [], []⟩), (.normal, ⟨[], [], []⟩)], [], []⟩ (.nil) [.nil, .nil]])]), .n (.b [.n (.b [.j ⟨[(.ret, ⟨[(6, .v (.a (.fl .bool)))], [], []⟩), (.normal, ⟨[], [], []⟩)], [], []⟩ (.nil) [.nil, .nil], .j ⟨[(.ret, ⟨[(6, .v (.a (.fl .bool)))], [], []⟩), (.normal, ⟨[], [], []⟩)], [], []⟩ (.nil) [.nil, .nil]]), .n (.b [.j ⟨[(.ret, ⟨[(6, .v (.a (.fl .bool)))], [], []⟩), (.normal, ⟨[], [], []⟩)], [], []⟩ (.nil) [.nil, .nil], .j ⟨[(.ret, ⟨[(6, .v (.a (.fl .bool)))], [], []⟩), (.normal, ⟨[], [], []⟩)], [], []⟩ (.nil) [.nil, .nil]])])]))) (by kernel_rfl) (mkCon_ok follows bk_ok okG42 (by kernel_rfl))
noncomputable def G43 : List Con := L_law05_SectorOne_ :: G42
theorem okG43 : ∀ c ∈ G43, ConOk Try.prog c := forall_cons ok_law05_SectorOne okG42
end Go.Proofs.Ytlbidinmgabjbaa
/- Arguments that came in, as data; a law's start and its end. No condition. -/
set_option linter.unusedVariables false
set_option linter.unusedSimpArgs false
namespace Go.Proofs.Ytlbidinmgabjbaa
open Go Go.WideShapes Go.ChangeShapes
mutual
/-- Is a type told by data, its parts one behind the other? -/
def chkT (P : Program) : Nat → TypeId → Ty → Bool
  | 0, _, _ => false
  | d + 1, t, u => match P.underlying t with
    | some .bool => decide (u = .bool)
    | some (.int k) => decide (u = .int k)
    | some .string => decide (u = .str)
    | some (.array n e) => match u with
      | .arr m v => decide (n = m) && v.flat && chkT P d e v && decide (n * P.cellsOf e = P.cellsOf t) && decide (P.cellsOf e = v.sz)
      | _ => false
    | some (.slice e) => match u with
      | .sl e' v => decide (e = e') && chkT P d e v && decide (P.cellsOf e = v.sz)
      | _ => false
    | some (.struct fs) => chkF P d 0 fs.toList u (P.cellsOf t)
    | _ => false
def chkF (P : Program) : Nat → Nat → List Field → Ty → Nat → Bool
  | 0, _, _, _, _ => false
  | _ + 1, off, [], u, n => decide (u = .unit) && decide (off = n)
  | d + 1, off, [f], u, n => decide (f.offset = off) && chkT P d f.type u && decide (off + P.cellsOf f.type = n)
  | d + 1, off, f :: g :: fs, u, n => match u with
    | .pair a b => decide (f.offset = off) && chkT P d f.type a && chkF P d (off + P.cellsOf f.type) (g :: fs) b n
    | _ => false
end
def wfT : (u : Ty) → u.den → Prop
  | .int k, x => (Lit.int k x).wf = true
  | .bool, _ => True
  | .str, s => s.size ≤ 9223372036854775807
  | .unit, _ => True
  | .arr n t, v => ∀ i : Fin n, wfT t (v.get i)
  | .pair a b, x => wfT a x.1 ∧ wfT b x.2
  | .sl _ t, l => l.length ≤ 9223372036854775807 ∧ ∀ x ∈ l, wfT t x
def Facts (F : List Fact) (w : World) : Prop := ∀ f ∈ F, Rds f.v f.n f.sz f.cs w
section
variable {H : Type} {enc : TypeId × Value → H} {P : Program} {w : World} {base : Nat} {held : Bool}
theorem facts_app {F G : List Fact} (h : Facts F w) (k : Facts G w) : Facts (F ++ G) w := fun f hf => by
  rcases List.mem_append.1 hf with hf | hf
  · exact h f hf
  · exact k f hf
mutual
theorem open_rep : ∀ (d fuel : Nat) (t : TypeId) (u : Ty) (cs : List Value) (x : DataW H × List MemPlace), chkT P d t u = true → DataW.trod enc P w base (fun _ => true) held fuel t cs = some x →
    ∃ (y : u.den) (F : List Fact), RepP u y cs F ∧ Facts F w ∧ wfT u y
  | 0, _, _, _, _, _, h, _ => by simp [chkT] at h
  | d + 1, fuel, t, u, cs, x, h, hx => by
    simp only [chkT] at h
    split at h
    · rename_i hu
      obtain rfl := of_decide_eq_true h
      obtain ⟨b, rfl, _⟩ := DataW.trod_bool hu hx
      exact ⟨b, [], ⟨rfl, rfl⟩, (fun f hf => by cases hf), trivial⟩
    · rename_i k hu
      obtain rfl := of_decide_eq_true h
      obtain ⟨n, rfl, _, hw⟩ := DataW.trod_int hu hx
      exact ⟨n, [], ⟨rfl, rfl⟩, (fun f hf => by cases hf), hw⟩
    · rename_i hu
      obtain rfl := of_decide_eq_true h
      obtain ⟨s, rfl, _, hw⟩ := DataW.trod_string hu hx
      exact ⟨s, [], ⟨rfl, rfl⟩, (fun f hf => by cases hf), hw⟩
    · rename_i n e hu
      split at h
      · rename_i m v
        simp only [Bool.and_eq_true, decide_eq_true_eq] at h
        obtain ⟨⟨⟨⟨rfl, hfl⟩, hc⟩, hsz⟩, hv⟩ := h
        obtain ⟨xs, m, rfl, _, hl, hlen, hm⟩ := DataW.trod_array hu hx
        have one : ∀ i, i < n → ∃ y : v.den, (cs.drop (i * v.sz)).take v.sz = (flatT v).cells y ∧ wfT v y := by
          intro i hi
          have hlt : i < xs.length := by omega
          obtain ⟨y, F, h1, h2, h3⟩ := open_rep d m e v _ xs[i] hc (by rw [hm i hi, List.getElem?_eq_getElem hlt])
          rw [hv] at h1
          exact ⟨y, ((RepP_flat v hfl _ _ _).1 h1).1, h3⟩
        haveI : Inhabited v.den := ⟨v.dflt⟩
        obtain ⟨f, hf⟩ := Go.Deep.choose_lt one
        refine ⟨Vector.ofFn (fun i : Fin n => f i.1), [], ⟨?_, rfl⟩, (fun f hf => by cases hf), fun i => ?_⟩
        · have har : arL (flatT v).dflt n (Vector.ofFn (fun i : Fin n => f i.1)) = (List.range n).map f := by
            unfold arL
            apply List.map_congr_left
            intro i hi
            have hi : i < n := by simpa using hi
            have h1 : (Vector.ofFn (fun i : Fin n => f i.1)).toArray.size = n := by simp
            simp only [Array.getD, h1, hi, dif_pos]
            simp [Array.getInternal_eq_getElem]
          have hcs : ∀ k, k ≤ n → ((List.range k).map f).flatMap (flatT v).cells = cs.take (k * v.sz) := by
            intro k
            induction k with
            | zero => intro _; simp
            | succ k ih =>
              intro hk
              rw [List.range_succ, List.map_append, List.flatMap_append, ih (by omega)]
              simp only [List.map_cons, List.map_nil, List.flatMap_cons, List.flatMap_nil, List.append_nil]
              rw [← (hf k (by omega)).1, Nat.add_mul, Nat.one_mul, List.take_add]
          show cs = (arL (flatT v).dflt n _).flatMap (flatT v).cells
          rw [har, hcs n (Nat.le_refl _), List.take_of_length_le]
          rw [hl, ← hsz, hv]; exact Nat.le_refl _
        · have : (Vector.ofFn (fun i : Fin n => f i.1)).get i = f i.1 := by
            simp only [Vector.get]
            simp
            first | rfl | done
          rw [this]; exact (hf i.1 i.2).2
      · cases h
    · rename_i e hu
      split at h
      · rename_i e' v
        simp only [Bool.and_eq_true, decide_eq_true_eq] at h
        obtain ⟨⟨rfl, hc⟩, hv⟩ := h
        rcases Go.Deep.open_slice hu hx with ⟨h0, _⟩ | ⟨a, len, cap, m, n, D, Pl, hcs, hb, hl, hm, hmm, _, hel⟩
        · subst h0
          exact ⟨[], [⟨.slice none 0 0, 0, v.sz, []⟩], ⟨_, [], [], rfl, ⟨none, 0, rfl, fun _ => rfl⟩, rfl, rfl, rfl⟩, (fun f hf => by
            simp only [List.mem_singleton] at hf; subst hf; exact rds_nil _ _), by simp, by simp⟩
        · subst hcs
          have hm' : len ≤ m := by rw [hmm]; split <;> omega
          have one : ∀ i, i < len → ∃ y : v.den × List Value × List Fact, w.cells? base (a.add (i * v.sz)) v.sz = some y.2.1 ∧ RepP v y.1 y.2.1 y.2.2 ∧ Facts y.2.2 w ∧ wfT v y.1 := by
            intro i hi
            obtain ⟨cs', h1, h2⟩ := hel i (by omega)
            rw [hv] at h1
            obtain ⟨y, F, k1, k2, k3⟩ := open_rep d n e v cs' _ hc h2
            exact ⟨(y, cs', F), h1, k1, k2, k3⟩
          haveI : Inhabited (v.den × List Value × List Fact) := ⟨(v.dflt, [], [])⟩
          obtain ⟨f, hf⟩ := Go.Deep.choose_lt one
          have build : ∀ k, k ≤ len → ∃ css F, RepL (RepP v) ((List.range k).map fun i => (f i).1) css F ∧ Facts F w ∧ css.length = k * v.sz ∧ ∀ j c, css[j]? = some c → w.cell? (a.add j) = some c := by
            intro k
            induction k with
            | zero => intro _; exact ⟨[], [], ⟨rfl, rfl⟩, (fun f hf => by cases hf), by simp, by simp⟩
            | succ k ih =>
              intro hk
              obtain ⟨css, F, r1, r2, r3, r4⟩ := ih (by omega)
              obtain ⟨c1, c2, c3, _⟩ := hf k (by omega)
              obtain ⟨_, hcl, hce⟩ := World.cells?_some c1
              refine ⟨css ++ (f k).2.1, F ++ (f k).2.2, ?_, facts_app r2 c3, ?_, fun j c hj => ?_⟩
              · rw [List.range_succ, List.map_append]
                refine RepL_app _ _ _ _ _ _ r1 ?_
                exact ⟨(f k).2.1, [], (f k).2.2, [], by simp, by simp, c2, rfl, rfl⟩
              · rw [List.length_append, r3, RepP_len v _ _ _ c2, Nat.add_mul, Nat.one_mul]
              · by_cases hlt : j < k * v.sz
                · rw [List.getElem?_append_left (by omega)] at hj
                  exact r4 j c hj
                · rw [List.getElem?_append_right (by omega), r3] at hj
                  have hlt2 := (List.getElem?_eq_some_iff.1 hj).1
                  rw [RepP_len v _ _ _ c2] at hlt2
                  have := hce (j - k * v.sz) hlt2
                  rw [hj, Go.Deep.add_add] at this
                  rw [← this]; congr 2; omega
          obtain ⟨css, F, r1, r2, r3, r4⟩ := build len (Nat.le_refl _)
          have hlen : ((List.range len).map fun i => (f i).1).length = len := by simp
          have hmx : cap ≤ 9223372036854775807 := by unfold maxLen at hm; omega
          refine ⟨(List.range len).map fun i => (f i).1, ⟨.slice (some a) len cap, len, v.sz, css⟩ :: F, ⟨_, css, F, rfl, ⟨some a, cap, by rw [hlen], fun h => by cases h⟩, by rw [hlen], r1⟩, fun f0 hf0 => ?_, ?_, ?_⟩
          · rcases List.mem_cons.1 hf0 with rfl | hf0
            · exact ⟨r3, some a, cap, rfl, hl, hmx, (fun h => by cases h), fun j u hu => ⟨a, rfl, r4 j u hu⟩⟩
            · exact r2 f0 hf0
          · rw [hlen]; omega
          · intro y hy
            simp only [List.mem_map, List.mem_range] at hy
            obtain ⟨i, hi, rfl⟩ := hy
            exact (hf i hi).2.2.2
      · cases h
    · rename_i fs hu
      obtain ⟨xs, m, rfl, _, hl, hlen, hm⟩ := DataW.trod_struct hu hx
      have := open_repF d m 0 fs.toList u (P.cellsOf t) cs h hl (fun i f hi => ?_)
      · simpa using this
      · have hi' : fs[i]? = some f := by simpa using hi
        have hlt : i < xs.length := by rw [hlen]; exact (Array.getElem?_eq_some_iff.1 hi').1
        exact ⟨xs[i], by rw [hm i f hi', List.getElem?_eq_getElem hlt]⟩
    · cases h
theorem open_repF : ∀ (d fuel off : Nat) (fs : List Field) (u : Ty) (n : Nat) (cs : List Value), chkF P d off fs u n = true → cs.length = n →
    (∀ (i : Nat) f, fs[i]? = some f → ∃ y, DataW.trod enc P w base (fun _ => true) held fuel f.type ((cs.drop f.offset).take (P.cellsOf f.type)) = some y) →
    ∃ (y : u.den) (F : List Fact), RepP u y (cs.drop off) F ∧ Facts F w ∧ wfT u y
  | 0, _, _, _, _, _, _, h, _, _ => by simp [chkF] at h
  | d + 1, fuel, off, [], u, n, cs, h, hl, _ => by
    simp only [chkF, Bool.and_eq_true, decide_eq_true_eq] at h
    obtain ⟨rfl, rfl⟩ := h
    exact ⟨(), [], ⟨by simp [flatT, FU, ← hl], rfl⟩, (fun f hf => by cases hf), trivial⟩
  | d + 1, fuel, off, [f], u, n, cs, h, hl, hm => by
    simp only [chkF, Bool.and_eq_true, decide_eq_true_eq] at h
    obtain ⟨⟨ho, hc⟩, hn⟩ := h
    obtain ⟨x, hx⟩ := hm 0 f rfl
    have := open_rep d fuel f.type u _ x hc hx
    rw [ho, List.take_of_length_le (by rw [List.length_drop]; omega)] at this
    exact this
  | d + 1, fuel, off, f :: g :: fs, u, n, cs, h, hl, hm => by
    simp only [chkF] at h
    split at h
    · rename_i a b
      simp only [Bool.and_eq_true, decide_eq_true_eq] at h
      obtain ⟨⟨ho, hc⟩, hn⟩ := h
      obtain ⟨x, hx⟩ := hm 0 f rfl
      obtain ⟨y1, F1, a1, a2, a3⟩ := open_rep d fuel f.type a _ x hc hx
      obtain ⟨y2, F2, b1, b2, b3⟩ := open_repF d fuel (off + P.cellsOf f.type) (g :: fs) b n cs hn hl (fun i f' hi => hm (i + 1) f' hi)
      refine ⟨(y1, y2), F1 ++ F2, ⟨_, _, F1, F2, ?_, rfl, a1, b1⟩, facts_app a2 b2, a3, b3⟩
      rw [ho, ← List.drop_drop, List.take_append_drop]
    · cases h
end
/-- What a value of a type is, by its cells. -/
def valC : Ty → List Value → Value
  | .arr _ _, cs => .agg cs.toArray
  | .pair _ _, cs => .agg cs.toArray
  | .unit, cs => .agg cs.toArray
  | _, cs => cs.headD .nilFunc
/-- Is it an aggregate, just where its data are? -/
def aggOk (P : Program) (t : TypeId) (u : Ty) : Bool :=
  match P.underlying t, u with
  | some (.struct _), .pair _ _ => true
  | some (.struct _), .unit => true
  | some (.array _ _), .arr _ _ => true
  | some (.slice _), .sl _ _ => true
  | some .bool, .bool => true
  | some (.int _), .int _ => true
  | some .string, .str => true
  | _, _ => false
structure RepOk (w : World) (d : Dyn) (v : Value) : Prop where
  rep : ∃ F, RepP d.1 d.2 v.cells.toList F ∧ Facts F w
  val : v = valC d.1 v.cells.toList
theorem open_arg {b0 : Nat} {t : TypeId} {u : Ty} {v : Value} {d : DataW H} {ps : List MemPlace} (hc : chkT P 12 t u = true) (ha : aggOk P t u = true) (hval : Value.okWide P w .any b0 t v) (hd : DataW.Trod enc P w base (fun _ => true) held t v d ps) :
    ∃ y : u.den, RepOk w ⟨u, y⟩ v ∧ wfT u y := by
  obtain ⟨fuel, hf⟩ := hd
  obtain ⟨y, F, h1, h2, h3⟩ := open_rep 12 fuel t u _ _ hc hf
  refine ⟨y, ⟨⟨F, h1, h2⟩, ?_⟩, h3⟩
  have agg : (∃ cs, v = .agg cs) → ∀ u, (match u with | .arr _ _ => true | .pair _ _ => true | .unit => true | _ => false) = true → v = valC u v.cells.toList := by
    rintro ⟨cs, rfl⟩ u hu
    cases u <;> simp_all [valC, Value.cells]
  unfold aggOk at ha
  split at ha
  · rename_i fs e
    exact agg (by unfold Value.okWide at hval; rw [e] at hval; obtain ⟨cs, h, _⟩ := hval; exact ⟨cs, h⟩) _ rfl
  · rename_i fs e
    exact agg (by unfold Value.okWide at hval; rw [e] at hval; obtain ⟨cs, h, _⟩ := hval; exact ⟨cs, h⟩) _ rfl
  · rename_i n e' e
    exact agg (by unfold Value.okWide at hval; rw [e] at hval; obtain ⟨cs, h, _⟩ := hval; exact ⟨cs, h⟩) _ rfl
  · rename_i e
    obtain ⟨a, l, c, rfl⟩ := okWide_slice e hval
    rfl
  · rename_i e
    obtain ⟨b, rfl⟩ := okWide_bool e hval
    rfl
  · rename_i e
    obtain ⟨b, rfl⟩ := okWide_int e hval
    rfl
  · rename_i e
    obtain ⟨b, rfl⟩ := okWide_string e hval
    rfl
  · cases ha
end
/-! ### a law's start -/
inductive Args (w : World) : List Dyn → List Value → Prop where
  | nil : Args w [] []
  | cons {d : Dyn} {v : Value} {ds : List Dyn} {vs : List Value} : RepOk w d v → Args w ds vs → Args w (d :: ds) (v :: vs)
def slotOf (u : Ty) (ls : List At) : SV :=
  match u, ls with
  | .pair _ _, ls => .v (.st ls)
  | .unit, ls => .v (.st ls)
  | _, [a] => .v (.a a)
  | _, ls => .v (.st ls)
def startGo : List Dyn → Nat → List (Nat × SV) × List Ob → List (Nat × SV) × List Ob
  | [], _, s => s
  | d :: ds, i, s => startGo ds (i + 1) (s.1 ++ [(i, slotOf d.1 (unpk .lent d.1 d.2 s.2.length).1)], s.2 ++ (unpk .lent d.1 d.2 s.2.length).2)
def startS (ds : List Dyn) : St := ⟨(startGo ds 0 ([], [])).1, (startGo ds 0 ([], [])).2, [], .nil⟩
theorem unpk_nrm (m : Md) : ∀ (u : Ty) (x : u.den) (n : Nat), (unpk m u x n).1.all nrmA = true
  | .pair a b, x, n => by simp only [unpk, List.all_append, unpk_nrm m a x.1 n, unpk_nrm m b x.2 _, Bool.and_self]
  | .int k, x, n => rfl
  | .bool, x, n => rfl
  | .str, x, n => rfl
  | .unit, x, n => rfl
  | .arr q t, x, n => rfl
  | .sl e t, x, n => rfl
theorem slot_enc (u : Ty) (x : u.den) (m : Md) (n : Nat) (g : Env) : encS g (slotOf u (unpk m u x n).1) = valC u (encL g (unpk m u x n).1) ∧ nrmS (slotOf u (unpk m u x n).1) = true ∧ refS (slotOf u (unpk m u x n).1) = (unpk m u x n).1.flatMap refA := by
  cases u with
  | int k => exact ⟨rfl, rfl, rfl⟩
  | bool => exact ⟨rfl, rfl, rfl⟩
  | str => exact ⟨rfl, rfl, rfl⟩
  | unit => exact ⟨rfl, rfl, rfl⟩
  | arr q t => exact ⟨by simp [slotOf, unpk, encS, encV, val1, valC, encL, encA], rfl, rfl⟩
  | pair a b => exact ⟨rfl, unpk_nrm m _ x n, rfl⟩
  | sl e t => exact ⟨rfl, rfl, rfl⟩
structure Started (w : World) (g : Env) (vs : List Value) (s : List (Nat × SV) × List Ob) : Prop where
  enc : s.1.map (fun p => encS g p.2) = vs
  keys : s.1.map (·.1) = List.range s.1.length
  ok : ∀ p ∈ s.1, nrmS p.2 = true
  rs : ∀ p ∈ s.1, ∀ o ∈ refS p.2, o < s.2.length
  ob : ∀ i ob, s.2[i]? = some ob → obP g i ob ∧ ∃ e u xs, ob = .row e u xs .lent false ∧ ∀ f ∈ (⟨(g i).v, xs.length, u.sz, (g i).cs⟩ :: (g i).fs : List Fact), Rds f.v f.n f.sz f.cs w
theorem start_go {w : World} : ∀ (ds : List Dyn) (vs : List Value) (i : Nat) (s : List (Nat × SV) × List Ob) (us : List Value) (g : Env), Args w ds vs → Started w g us s → i = s.1.length →
    ∃ g', Started w g' (us ++ vs) (startGo ds i s)
  | [], [], i, s, us, g, .nil, h, hi => ⟨g, by simpa [startGo] using h⟩
  | d :: ds, v :: vs, i, s, us, g, .cons hd hds, h, hi => by
    obtain ⟨F, hrep, hfa⟩ := hd.rep
    obtain ⟨g1, e1, e2, e3, e4, e5⟩ := unpk_spec .lent (by decide) d.1 d.2 s.2.length g _ F hrep
    obtain ⟨s1, s2, s3⟩ := slot_enc d.1 d.2 .lent s.2.length g1
    have hsl : ∀ o ∈ refS (slotOf d.1 (unpk .lent d.1 d.2 s.2.length).1), o < (s.2 ++ (unpk .lent d.1 d.2 s.2.length).2).length := by
      rw [s3]
      intro o ho
      have := (e4 o ho).2
      rw [List.length_append]; exact this
    have := start_go ds vs (i + 1) (s.1 ++ [(i, slotOf d.1 (unpk .lent d.1 d.2 s.2.length).1)], s.2 ++ (unpk .lent d.1 d.2 s.2.length).2) (us ++ [v]) g1 hds ?_ (by simp [hi])
    · obtain ⟨g', h'⟩ := this
      exact ⟨g', by simpa [startGo] using h'⟩
    · refine ⟨?_, ?_, ?_, ?_, ?_⟩
      · simp only [List.map_append, List.map_cons, List.map_nil]
        congr 1
        · rw [← h.enc]
          apply List.map_congr_left
          intro p hp
          exact encS_ext _ (fun o ho => e1 o (.inl (h.rs p hp o ho)))
        · rw [s1, e2, ← hd.val]
      · simp only [List.map_append, List.map_cons, List.map_nil, List.length_append, List.length_singleton, List.range_succ, h.keys, hi]
      · intro p hp
        rcases List.mem_append.1 hp with hp | hp
        · exact h.ok p hp
        · simp only [List.mem_singleton] at hp; subst hp; exact s2
      · intro p hp o ho
        rcases List.mem_append.1 hp with hp | hp
        · have := h.rs p hp o ho
          simp only [List.length_append]; omega
        · simp only [List.mem_singleton] at hp; subst hp; exact hsl o ho
      · intro j ob hj
        rcases Nat.lt_or_ge j s.2.length with hlt | hge
        · simp only at hj
          rw [List.getElem?_append_left hlt] at hj
          have := h.ob j ob hj
          have hg : g1 j = g j := e1 j (.inl hlt)
          obtain ⟨a1, e, u, xs, rfl, a2⟩ := this
          exact ⟨obP_ext hg a1, e, u, xs, rfl, by rw [hg]; exact a2⟩
        · simp only at hj
          rw [List.getElem?_append_right hge] at hj
          obtain ⟨p1, e, u, xs, he, hf⟩ := e5 _ ob hj
          have hn : s.2.length + (j - s.2.length) = j := by omega
          rw [hn] at p1 hf
          exact ⟨p1, e, u, xs, he, fun f hf' => hfa f (hf f hf')⟩
theorem start_ok {w : World} {ds : List Dyn} {vs : List Value} (h : Args w ds vs) :
    ∃ g, (startS ds).slots.map (fun p => encS g p.2) = vs ∧ (startS ds).slots.map (·.1) = List.range (startS ds).slots.length ∧ Cal g (startS ds) ∧ Cx g (startS ds) w nob (fun _ => True) w ∧ ∀ i, (entL g i ((startS ds).ob i)).dom = nob := by
  obtain ⟨g, hs⟩ := start_go ds vs 0 ([], []) [] env0 h ⟨rfl, rfl, (fun p hp => by cases hp), (fun p hp => by cases hp), (fun i ob hi => by simp at hi)⟩ rfl
  have get : ∀ i, (startS ds).ob i = .gone ∨ (startGo ds 0 ([], [])).2[i]? = some ((startS ds).ob i) := fun i => by
    cases hi : (startGo ds 0 ([], [])).2[i]? with
    | none => left; simp [St.ob, startS, List.getD_eq_getElem?_getD, hi]
    | some ob => right; simp [St.ob, startS, List.getD_eq_getElem?_getD, hi]
  have dom : ∀ i, (entL g i ((startS ds).ob i)).dom = nob := fun i => by
    rcases get i with h | h
    · rw [h]; rfl
    · obtain ⟨_, e, u, xs, he, _⟩ := hs.ob i _ h
      rw [he]; rfl
  refine ⟨g, by have := hs.enc; rwa [List.nil_append] at this, hs.keys, ⟨fun i => ?_, hs.ok, hs.rs, fun i T ls hi => ?_⟩, ⟨Fr.refl _ _, fun i => ?_, fun i => ?_, fun i b hb => ?_, fun i j _ b hb => ?_, fun i j b hb => ?_, fun i _ b _ => .inl trivial⟩, dom⟩
  · rcases get i with h | h
    · rw [h]; trivial
    · exact (hs.ob i _ h).1
  · rcases get i with h | h
    · rw [h] at hi; cases hi
    · obtain ⟨_, e, u, xs, he, _⟩ := hs.ob i _ h
      rw [he] at hi; cases hi
  · rcases get i with h | h
    · simp only [h]; trivial
    · obtain ⟨_, e, u, xs, he, _⟩ := hs.ob i _ h
      simp only [he]; trivial
  · rcases get i with h | h
    · simp only [h]; trivial
    · obtain ⟨_, e, u, xs, he, hf⟩ := hs.ob i _ h
      simp only [he]
      exact hf
  · rw [dom] at hb; exact hb.elim
  · rw [dom] at hb; exact hb.elim
  · rw [dom] at hb; exact hb.elim
theorem law_done {P : Program} {w : World} {f : Nat} {c : Con} {ds : List Dyn} {vs : List Value} {k : Nat} {x : HL c.pat.codes} (hc : ConOk P c) (hfn : c.fn = f) (h : Args w ds vs) {y : DenL (c.out.map NSh.codes)}
    (hy : c.f k x = some y) (hp : patSt c.pat x = some (startS ds)) (hout : c.out = [⟨[(rB, .v (.a (.fl .bool)))], [], []⟩]) (hel : ∀ (R : Type) (q : Nat → List Dyn → R), elimL (c.out.map NSh.codes) y q = q 0 [⟨.bool, true⟩]) :
    Calls P f vs.toArray w (fun e w' => ∃ v, e = .returned v ∧ v = .bool true ∧ Fr nob w w') := by
  obtain ⟨g, h1, h2, h3, h4, h5⟩ := start_ok h
  have key := hc k x y (startS ds) hy hp h2 g w nob (fun _ => True) h3 h4
  rw [h1, hfn] at key
  refine Calls.mono key ?_
  rintro e w' ⟨v, rfl, i, es, s, N, r, g', q1, q2, q3, q4, q5, q6, q7, q8, q9, q10⟩
  refine ⟨v, rfl, ?_, q9.fr⟩
  have e0 := q1 (Nat × List Dyn) (fun i ds => (i, ds))
  rw [hel] at e0
  simp only [Prod.mk.injEq] at e0
  obtain ⟨rfl, rfl⟩ := e0
  rw [hout] at q2
  simp only [List.getElem?_cons_zero, Option.some.injEq] at q2
  subst q2
  have q3' : fiN ⟨[(rB, .v (.a (.fl .bool)))], [], []⟩ [⟨.bool, true⟩] = some N := q3
  have hN : fiN ⟨[(rB, .v (.a (.fl .bool)))], [], []⟩ [⟨.bool, true⟩] = some ⟨[(rB, .v (.a (.fl .bool true)))], [], []⟩ := by rfl
  rw [hN] at q3'
  cases q3'
  simp only [Go.Proofs.Ytlbidinmgabjbaa.results, Option.some.injEq] at q4
  subst q4
  exact q5
end Go.Proofs.Ytlbidinmgabjbaa
