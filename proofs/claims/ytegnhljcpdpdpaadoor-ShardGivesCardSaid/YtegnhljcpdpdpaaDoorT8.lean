/- Texts of the proof, put together: part 8. No condition. -/
import Derived.Test.YtegnhljcpdpdpaaDoorT7
import Derived.Test.YtegnhljcpdpdpaaDoorRows
import Derived.WalkKit
import Derived.ProofKit
import Derived.OpenShut
import Derived.ShutString
import Derived.ChangeOld
import Derived.SizedLaws
import Derived.Deep.Slices
/- Contracts of the functions that the laws reach: what each computes. No condition. -/
set_option linter.unusedVariables false
namespace Go.Proofs.YtegnhljcpdpdpaaDoor
open Go
@[reducible] def T0 : Ty := .arr 16 (.int .u32)
@[reducible] def T1 : Ty := .arr 64 (.int .u32)
@[reducible] def T2 : Ty := .arr 8 (.int .u32)
@[reducible] def T3 : Ty := .arr 32 (.int .u8)
@[reducible] def T4 : Ty := .arr 8 (.int .u8)
@[reducible] def T5 : Ty := .pair (.int .i64) (.pair (.int .i64) (.pair (.int .i64) .str))
def inl : List Nat := [2, 7, 11, 15, 18, 19, 22, 23, 24, 25, 38, 39, 41, 42, 44, 48, 49, 50, 51, 52, 53, 54, 56, 58, 60, 61, 62, 64, 65, 67, 68, 70, 71, 72, 77, 80, 81, 84, 92, 99, 100, 124]
def bk : List Bk := [⟨67, 3, 4, 56, 40, 103⟩]
theorem bk_ok : ∀ B ∈ bk, BkOk Tryd.prog B := by
  intro B hB
  simp only [bk, List.mem_cons, List.not_mem_nil, or_false] at hB
  rcases hB with rfl
  · exact ⟨⟨Tryd.f67, by kernel_rfl, by kernel_rfl, by kernel_rfl, by kernel_rfl⟩, by kernel_rfl, by kernel_rfl⟩

theorem follows : Tryd.prog.follows .mixedOrders = true := by kernel_rfl
noncomputable def G0 : List Con := []
theorem okG0 : ∀ c ∈ G0, ConOk Tryd.prog c := forall_nil
/-- scrinium/record.Check -/
def record_Check (k : Nat) (x : Int × Int × Int × ByteArray) : Option (Int) :=
  condO (ige x.1 0) (condO (!(ile x.1 1125899906842624)) (some (1)) (condO (ige x.2.2.1 0) (condO (!(ile x.2.2.1 1125899906842624)) (some (1)) (condO (ige x.2.1 0) (condO (!(ile x.2.1 3999)) (some (1)) (condO (igt (blen x.2.2.2) 2000) (some (11)) (some (0)))) (some (1)))) (some (1)))) (some (1))
noncomputable def L_record_Check_ : Con := ⟨34, ⟨[(0, .v (.st [.fl (.int .i64), .fl (.int .i64), .fl (.int .i64), .fl .str]))], [], []⟩, [⟨[(100000, .v (.a (.fl (.int .i64))))], [], []⟩], record_Check⟩
theorem ok_record_Check : ConOk Tryd.prog L_record_Check_ := con_of (a := mkCon Tryd.prog G0 inl bk 34 ⟨[(0, .v (.st [.fl (.int .i64), .fl (.int .i64), .fl (.int .i64), .fl .str]))], [], []⟩ ⟨[(.ret, ⟨[(100000, .v (.a (.fl (.int .i64))))], [], []⟩)], [], []⟩ (.n (.nil))) (by kernel_rfl) (mkCon_ok follows bk_ok okG0 (by kernel_rfl))
noncomputable def G1 : List Con := L_record_Check_ :: G0
theorem okG1 : ∀ c ∈ G1, ConOk Tryd.prog c := forall_cons ok_record_Check okG0
/-- math/bits.Len64 -/
abbrev bits_Len64 : Nat → (Int) → Option (Int) := L_math_bits_Len64
noncomputable def L_bits_Len64_ : Con := ⟨87, ⟨[(0, .v (.a (.fl (.int .u64))))], [], []⟩, [⟨[(100000, .v (.a (.fl (.int .i64))))], [], []⟩], bits_Len64⟩
theorem ok_bits_Len64 : ConOk Tryd.prog L_bits_Len64_ := L_math_bits_Len64_ok
noncomputable def G2 : List Con := L_bits_Len64_ :: G1
theorem okG2 : ∀ c ∈ G2, ConOk Tryd.prog c := forall_cons ok_bits_Len64 okG1
/-- scrinium/octet.Put -/
def octet_Put (k : Nat) (x : Int) : Option (ByteArray) :=
  (bits_Len64 k x).bind fun r0 => guardO ((nz 8)) (guardO ((mkOk (WK .i64 (1 + (WK .i64 (Int.tdiv (WK .i64 ((WK .i64 (r0 + 8)) - 1)) 8)))) (WK .i64 (1 + (WK .i64 (Int.tdiv (WK .i64 ((WK .i64 (r0 + 8)) - 1)) 8)))) 1)) (guardO ((inR 0 (llen (lrep (WK .i64 (1 + (WK .i64 (Int.tdiv (WK .i64 ((WK .i64 (r0 + 8)) - 1)) 8)))) (0 : Int))))) ((loopK (H := Int × (List Int)) (E := (List Int)) k (fun h1 => condO (ilt h1.1 (WK .i64 (Int.tdiv (WK .i64 ((WK .i64 (r0 + 8)) - 1)) 8))) (guardO ((nn (WK .i64 (8 * h1.1)))) (guardO ((inR (WK .i64 ((WK .i64 (Int.tdiv (WK .i64 ((WK .i64 (r0 + 8)) - 1)) 8)) - h1.1)) (llen h1.2))) (some (.inl (((WK .i64 (h1.1 + 1)), (lset h1.2 (WK .i64 ((WK .i64 (Int.tdiv (WK .i64 ((WK .i64 (r0 + 8)) - 1)) 8)) - h1.1)) (WK .u8 (shrK .u64 x (WK .i64 (8 * h1.1))))))))))) (some (.inr (h1.2)))) ((0, (lset (lrep (WK .i64 (1 + (WK .i64 (Int.tdiv (WK .i64 ((WK .i64 (r0 + 8)) - 1)) 8)))) (0 : Int)) 0 (WK .u8 (WK .i64 (Int.tdiv (WK .i64 ((WK .i64 (r0 + 8)) - 1)) 8))))))).bind fun r1 => some ((strOfNums r1)))))
noncomputable def L_octet_Put_ : Con := ⟨73, ⟨[(0, .v (.a (.fl (.int .u64))))], [], []⟩, [⟨[(100000, .v (.a (.fl .str)))], [], []⟩], octet_Put⟩
theorem ok_octet_Put : ConOk Tryd.prog L_octet_Put_ := con_of (a := mkCon Tryd.prog G2 inl bk 73 ⟨[(0, .v (.a (.fl (.int .u64))))], [], []⟩ ⟨[(.ret, ⟨[(100000, .v (.a (.fl .str)))], [], []⟩)], [], []⟩ (.n (.l ⟨[(.normal, ⟨[(16, .v (.a (.fl (.int .i64))))], [(0, .row 5 (.int .u8) .own)], []⟩)], [0], [0]⟩ ⟨[(.exit 0, ⟨[], [(0, .row 5 (.int .u8) .own)], []⟩)], [0], [0]⟩ [.n (.nil)] [.nil]))) (by kernel_rfl) (mkCon_ok follows bk_ok okG2 (by kernel_rfl))
noncomputable def G3 : List Con := L_octet_Put_ :: G2
theorem okG3 : ∀ c ∈ G3, ConOk Tryd.prog c := forall_cons ok_octet_Put okG2
/-- scrinium/record.Bytes -/
def record_Bytes (k : Nat) (x : Int × Int × Int × ByteArray) : Option (ByteArray × Int) :=
  (record_Check k (x.1, x.2.1, x.2.2.1, x.2.2.2)).bind fun r0 => condO (ine r0 0) (some ((str0, r0))) ((octet_Put k (WK .u64 x.1)).bind fun r1 => (octet_Put k (WK .u64 x.2.1)).bind fun r2 => guardO ((catOk r1 r2)) ((octet_Put k (WK .u64 x.2.2.1)).bind fun r3 => (octet_Put k (WK .u64 (blen x.2.2.2))).bind fun r4 => guardO ((catOk r4 x.2.2.2)) (guardO ((catOk r3 (r4 ++ x.2.2.2))) (guardO ((catOk (r1 ++ r2) (r3 ++ (r4 ++ x.2.2.2)))) (some ((((r1 ++ r2) ++ (r3 ++ (r4 ++ x.2.2.2))), 0)))))))
noncomputable def L_record_Bytes_ : Con := ⟨69, ⟨[(0, .v (.st [.fl (.int .i64), .fl (.int .i64), .fl (.int .i64), .fl .str]))], [], []⟩, [⟨[(100000, .v (.a (.fl .str))), (100001, .v (.a (.fl (.int .i64))))], [], []⟩], record_Bytes⟩
theorem ok_record_Bytes : ConOk Tryd.prog L_record_Bytes_ := con_of (a := mkCon Tryd.prog G3 inl bk 69 ⟨[(0, .v (.st [.fl (.int .i64), .fl (.int .i64), .fl (.int .i64), .fl .str]))], [], []⟩ ⟨[(.ret, ⟨[(100000, .v (.a (.fl .str))), (100001, .v (.a (.fl (.int .i64))))], [], []⟩)], [], []⟩ (.n (.b [.nil, .d [0] [] (.d [0, 1] [] (.nil))]))) (by kernel_rfl) (mkCon_ok follows bk_ok okG3 (by kernel_rfl))
noncomputable def G4 : List Con := L_record_Bytes_ :: G3
theorem okG4 : ∀ c ∈ G4, ConOk Tryd.prog c := forall_cons ok_record_Bytes okG3
/-- scrinium/sha.schedule -/
def sha_schedule (k : Nat) (x : (Vector Int 16)) : Option ((Vector Int 64)) :=
  (loopK (H := Int × (Vector Int 64)) (E := (Vector Int 64)) k (fun h0 => condO (ilt h0.1 64) (guardO ((inR (WK .i64 (h0.1 - 2)) 64)) (guardO ((inR (WK .i64 (h0.1 - 7)) 64)) (guardO ((inR (WK .i64 (h0.1 - 15)) 64)) (guardO ((inR (WK .i64 (h0.1 - 16)) 64)) (guardO ((nn 10)) (guardO ((nn (andK .u64 (WK .u64 (WK .i64 (0 - 17))) 31))) (guardO ((nn (WK .u64 (32 - (andK .u64 (WK .u64 (WK .i64 (0 - 17))) 31))))) (guardO ((nn (andK .u64 (WK .u64 (WK .i64 (0 - 19))) 31))) (guardO ((nn (WK .u64 (32 - (andK .u64 (WK .u64 (WK .i64 (0 - 19))) 31))))) (guardO ((nn 3)) (guardO ((nn (andK .u64 (WK .u64 (WK .i64 (0 - 7))) 31))) (guardO ((nn (WK .u64 (32 - (andK .u64 (WK .u64 (WK .i64 (0 - 7))) 31))))) (guardO ((nn (andK .u64 (WK .u64 (WK .i64 (0 - 18))) 31))) (guardO ((nn (WK .u64 (32 - (andK .u64 (WK .u64 (WK .i64 (0 - 18))) 31))))) (guardO ((inR h0.1 64)) (some (.inl (((WK .i64 (h0.1 + 1)), (vSet h0.2 h0.1 (WK .u32 ((WK .u32 ((WK .u32 ((xorK .u32 (xorK .u32 (orK .u32 (shlK .u32 (vAt 0 h0.2 (WK .i64 (h0.1 - 2))) (andK .u64 (WK .u64 (WK .i64 (0 - 17))) 31)) (shrK .u32 (vAt 0 h0.2 (WK .i64 (h0.1 - 2))) (WK .u64 (32 - (andK .u64 (WK .u64 (WK .i64 (0 - 17))) 31))))) (orK .u32 (shlK .u32 (vAt 0 h0.2 (WK .i64 (h0.1 - 2))) (andK .u64 (WK .u64 (WK .i64 (0 - 19))) 31)) (shrK .u32 (vAt 0 h0.2 (WK .i64 (h0.1 - 2))) (WK .u64 (32 - (andK .u64 (WK .u64 (WK .i64 (0 - 19))) 31)))))) (shrK .u32 (vAt 0 h0.2 (WK .i64 (h0.1 - 2))) 10)) + (vAt 0 h0.2 (WK .i64 (h0.1 - 7))))) + (xorK .u32 (xorK .u32 (orK .u32 (shlK .u32 (vAt 0 h0.2 (WK .i64 (h0.1 - 15))) (andK .u64 (WK .u64 (WK .i64 (0 - 7))) 31)) (shrK .u32 (vAt 0 h0.2 (WK .i64 (h0.1 - 15))) (WK .u64 (32 - (andK .u64 (WK .u64 (WK .i64 (0 - 7))) 31))))) (orK .u32 (shlK .u32 (vAt 0 h0.2 (WK .i64 (h0.1 - 15))) (andK .u64 (WK .u64 (WK .i64 (0 - 18))) 31)) (shrK .u32 (vAt 0 h0.2 (WK .i64 (h0.1 - 15))) (WK .u64 (32 - (andK .u64 (WK .u64 (WK .i64 (0 - 18))) 31)))))) (shrK .u32 (vAt 0 h0.2 (WK .i64 (h0.1 - 15))) 3)))) + (vAt 0 h0.2 (WK .i64 (h0.1 - 16))))))))))))))))))))))))) (some (.inr (h0.2)))) ((16, (vCp (Vector.replicate 64 0) x)))).bind fun r0 => some (r0)
noncomputable def L_sha_schedule_ : Con := ⟨94, ⟨[(0, .v (.a (.fl T0)))], [], []⟩, [⟨[(100000, .v (.a (.fl T1)))], [], []⟩], sha_schedule⟩
theorem ok_sha_schedule : ConOk Tryd.prog L_sha_schedule_ := con_of (a := mkCon Tryd.prog G4 inl bk 94 ⟨[(0, .v (.a (.fl T0)))], [], []⟩ ⟨[(.ret, ⟨[(100000, .v (.a (.fl T1)))], [], []⟩)], [], []⟩ (.d [0, 1, 2] [] (.n (.l ⟨[(.normal, ⟨[(5, .v (.a (.fl (.int .i64))))], [(2, .box 105 [.fl T1])], []⟩)], [2], []⟩ ⟨[(.exit 0, ⟨[], [(2, .box 105 [.fl T1])], []⟩)], [2], []⟩ [.n (.b [.d [0, 1, 2] [] (.d [0, 1, 2] [] (.d [0, 1, 2] [] (.nil))), .nil])] [.nil])))) (by kernel_rfl) (mkCon_ok follows bk_ok okG4 (by kernel_rfl))
noncomputable def G5 : List Con := L_sha_schedule_ :: G4
theorem okG5 : ∀ c ∈ G5, ConOk Tryd.prog c := forall_cons ok_sha_schedule okG4
/-- scrinium/sha.turn -/
def sha_turn (k : Nat) (x : Int × Int × Int × Int) : Option (Int) :=
  guardO ((nn (andK .u64 (WK .u64 (WK .i64 (0 - x.2.1))) 31))) (guardO ((nn (WK .u64 (32 - (andK .u64 (WK .u64 (WK .i64 (0 - x.2.1))) 31))))) (guardO ((nn (andK .u64 (WK .u64 (WK .i64 (0 - x.2.2.1))) 31))) (guardO ((nn (WK .u64 (32 - (andK .u64 (WK .u64 (WK .i64 (0 - x.2.2.1))) 31))))) (guardO ((nn (andK .u64 (WK .u64 (WK .i64 (0 - x.2.2.2))) 31))) (guardO ((nn (WK .u64 (32 - (andK .u64 (WK .u64 (WK .i64 (0 - x.2.2.2))) 31))))) (some ((xorK .u32 (xorK .u32 (orK .u32 (shlK .u32 x.1 (andK .u64 (WK .u64 (WK .i64 (0 - x.2.1))) 31)) (shrK .u32 x.1 (WK .u64 (32 - (andK .u64 (WK .u64 (WK .i64 (0 - x.2.1))) 31))))) (orK .u32 (shlK .u32 x.1 (andK .u64 (WK .u64 (WK .i64 (0 - x.2.2.1))) 31)) (shrK .u32 x.1 (WK .u64 (32 - (andK .u64 (WK .u64 (WK .i64 (0 - x.2.2.1))) 31)))))) (orK .u32 (shlK .u32 x.1 (andK .u64 (WK .u64 (WK .i64 (0 - x.2.2.2))) 31)) (shrK .u32 x.1 (WK .u64 (32 - (andK .u64 (WK .u64 (WK .i64 (0 - x.2.2.2))) 31)))))))))))))
noncomputable def L_sha_turn_ : Con := ⟨95, ⟨[(0, .v (.a (.fl (.int .u32)))), (1, .v (.a (.fl (.int .i64)))), (2, .v (.a (.fl (.int .i64)))), (3, .v (.a (.fl (.int .i64))))], [], []⟩, [⟨[(100000, .v (.a (.fl (.int .u32))))], [], []⟩], sha_turn⟩
theorem ok_sha_turn : ConOk Tryd.prog L_sha_turn_ := con_of (a := mkCon Tryd.prog G5 inl bk 95 ⟨[(0, .v (.a (.fl (.int .u32)))), (1, .v (.a (.fl (.int .i64)))), (2, .v (.a (.fl (.int .i64)))), (3, .v (.a (.fl (.int .i64))))], [], []⟩ ⟨[(.ret, ⟨[(100000, .v (.a (.fl (.int .u32))))], [], []⟩)], [], []⟩ (.nil)) (by kernel_rfl) (mkCon_ok follows bk_ok okG5 (by kernel_rfl))
noncomputable def G6 : List Con := L_sha_turn_ :: G5
theorem okG6 : ∀ c ∈ G6, ConOk Tryd.prog c := forall_cons ok_sha_turn okG5
/-- scrinium/sha.Step -/
def sha_Step (k : Nat) (x : (Vector Int 8) × (Vector Int 16) × (Vector Int 64)) : Option ((Vector Int 8)) :=
  (sha_schedule k x.2.1).bind fun r0 => guardO ((inR 0 8)) (guardO ((inR 1 8)) (guardO ((inR 2 8)) (guardO ((inR 3 8)) (guardO ((inR 4 8)) (guardO ((inR 5 8)) (guardO ((inR 6 8)) (guardO ((inR 7 8)) ((loopK (H := Int × Int × Int × Int × Int × Int × Int × Int × Int) (E := Int × Int × Int × Int × Int × Int × Int × Int) k (fun h1 => condO (ilt h1.2.2.2.2.2.2.2.2 64) (guardO ((inR h1.2.2.2.2.2.2.2.2 64)) (guardO ((inR h1.2.2.2.2.2.2.2.2 64)) ((sha_turn k (h1.2.2.2.2.1, 6, 11, 25)).bind fun r2 => (sha_turn k (h1.1, 2, 13, 22)).bind fun r3 => some (.inl (((WK .u32 ((WK .u32 ((WK .u32 ((WK .u32 ((WK .u32 (h1.2.2.2.2.2.2.2.1 + r2)) + (xorK .u32 (andK .u32 h1.2.2.2.2.1 h1.2.2.2.2.2.1) (andK .u32 (xorK .u32 4294967295 h1.2.2.2.2.1) h1.2.2.2.2.2.2.1)))) + (vAt 0 x.2.2 h1.2.2.2.2.2.2.2.2))) + (vAt 0 r0 h1.2.2.2.2.2.2.2.2))) + (WK .u32 (r3 + (xorK .u32 (xorK .u32 (andK .u32 h1.1 h1.2.1) (andK .u32 h1.1 h1.2.2.1)) (andK .u32 h1.2.1 h1.2.2.1)))))), h1.1, h1.2.1, h1.2.2.1, (WK .u32 (h1.2.2.2.1 + (WK .u32 ((WK .u32 ((WK .u32 ((WK .u32 (h1.2.2.2.2.2.2.2.1 + r2)) + (xorK .u32 (andK .u32 h1.2.2.2.2.1 h1.2.2.2.2.2.1) (andK .u32 (xorK .u32 4294967295 h1.2.2.2.2.1) h1.2.2.2.2.2.2.1)))) + (vAt 0 x.2.2 h1.2.2.2.2.2.2.2.2))) + (vAt 0 r0 h1.2.2.2.2.2.2.2.2))))), h1.2.2.2.2.1, h1.2.2.2.2.2.1, h1.2.2.2.2.2.2.1, (WK .i64 (h1.2.2.2.2.2.2.2.2 + 1)))))))) (some (.inr ((h1.1, h1.2.1, h1.2.2.1, h1.2.2.2.1, h1.2.2.2.2.1, h1.2.2.2.2.2.1, h1.2.2.2.2.2.2.1, h1.2.2.2.2.2.2.2.1))))) (((vAt 0 x.1 0), (vAt 0 x.1 1), (vAt 0 x.1 2), (vAt 0 x.1 3), (vAt 0 x.1 4), (vAt 0 x.1 5), (vAt 0 x.1 6), (vAt 0 x.1 7), 0))).bind fun r1 => (loopK (H := Int × (Vector Int 8)) (E := (Vector Int 8)) k (fun h2 => condO (ilt h2.1 8) (guardO ((inR h2.1 8)) (guardO ((inR h2.1 8)) (guardO ((inR h2.1 8)) (some (.inl (((WK .i64 (h2.1 + 1)), (vSet h2.2 h2.1 (WK .u32 ((vAt 0 h2.2 h2.1) + (vAt 0 ⟨#[r1.1, r1.2.1, r1.2.2.1, r1.2.2.2.1, r1.2.2.2.2.1, r1.2.2.2.2.2.1, r1.2.2.2.2.2.2.1, r1.2.2.2.2.2.2.2], rfl⟩ h2.1))))))))))) (some (.inr (h2.2)))) ((0, x.1))).bind fun r2 => some (r2)))))))))
noncomputable def L_sha_Step_ : Con := ⟨90, ⟨[(0, .v (.a (.fl T2))), (1, .v (.a (.fl T0))), (5000001, .v (.a (.ptr 0 0)))], [], [.box 105 [.fl T1]]⟩, [⟨[(100000, .v (.a (.fl T2)))], [], []⟩], sha_Step⟩
theorem ok_sha_Step : ConOk Tryd.prog L_sha_Step_ := con_of (a := mkCon Tryd.prog G6 inl bk 90 ⟨[(0, .v (.a (.fl T2))), (1, .v (.a (.fl T0))), (5000001, .v (.a (.ptr 0 0)))], [], [.box 105 [.fl T1]]⟩ ⟨[(.ret, ⟨[(100000, .v (.a (.fl T2)))], [], []⟩)], [], []⟩ (.d [0, 1, 2, 3, 4] [] (.d [0, 1, 2, 3, 4] [] (.n (.l ⟨[(.normal, ⟨[(6, .v (.a (.fl (.int .u32)))), (7, .v (.a (.fl (.int .u32)))), (8, .v (.a (.fl (.int .u32)))), (9, .v (.a (.fl (.int .u32)))), (10, .v (.a (.fl (.int .u32)))), (11, .v (.a (.fl (.int .u32)))), (12, .v (.a (.fl (.int .u32)))), (13, .v (.a (.fl (.int .u32)))), (39, .v (.a (.fl (.int .i64))))], [], []⟩)], [], []⟩ ⟨[(.exit 0, ⟨[(6, .v (.a (.fl (.int .u32)))), (7, .v (.a (.fl (.int .u32)))), (8, .v (.a (.fl (.int .u32)))), (9, .v (.a (.fl (.int .u32)))), (10, .v (.a (.fl (.int .u32)))), (11, .v (.a (.fl (.int .u32)))), (12, .v (.a (.fl (.int .u32)))), (13, .v (.a (.fl (.int .u32))))], [], []⟩)], [], []⟩ [.n (.b [.d [0, 1, 2, 3, 4] [] (.nil), .nil])] [.n (.l ⟨[(.normal, ⟨[(98, .v (.a (.fl (.int .i64))))], [(1, .box 94 [.fl T2])], []⟩)], [1], []⟩ ⟨[(.exit 2, ⟨[], [(1, .box 94 [.fl T2])], []⟩)], [1], []⟩ [.n (.nil)] [.nil])]))))) (by kernel_rfl) (mkCon_ok follows bk_ok okG6 (by kernel_rfl))
noncomputable def G7 : List Con := L_sha_Step_ :: G6
theorem okG7 : ∀ c ∈ G7, ConOk Tryd.prog c := forall_cons ok_sha_Step okG6
/-- scrinium/sha.blocks -/
def sha_blocks (k : Nat) (x : (Vector Int 8) × ByteArray × (Vector Int 64)) : Option ((Vector Int 8) × ByteArray) :=
  (loopK (H := ByteArray × (Vector Int 8)) (E := ByteArray × (Vector Int 8)) k (fun h0 => condO (ige (blen h0.1) 64) ((loopK (H := Int × (Vector Int 16)) (E := (Vector Int 16)) k (fun h1 => condO (ilt h1.1 64) (guardO ((nz 4)) (guardO ((nz 4)) (guardO ((inR (WK .i64 (Int.tdiv h1.1 4)) 16)) (guardO ((nn 8)) (guardO ((inR h1.1 (blen h0.1))) (guardO ((inR (WK .i64 (Int.tdiv h1.1 4)) 16)) (some (.inl (((WK .i64 (h1.1 + 1)), (vSet h1.2 (WK .i64 (Int.tdiv h1.1 4)) (orK .u32 (shlK .u32 (vAt 0 h1.2 (WK .i64 (Int.tdiv h1.1 4))) 8) (WK .u32 (sAt h0.1 h1.1)))))))))))))) (some (.inr (h1.2)))) ((0, (Vector.replicate 16 0)))).bind fun r1 => (sha_Step k (h0.2, r1, x.2.2)).bind fun r2 => guardO ((cutOk 64 (blen h0.1) (blen h0.1))) (some (.inl (((scut h0.1 64 (blen h0.1)), r2))))) (some (.inr ((h0.1, h0.2))))) ((x.2.1, x.1))).bind fun r0 => some ((r0.2, r0.1))
noncomputable def L_sha_blocks_ : Con := ⟨85, ⟨[(0, .v (.a (.fl T2))), (1, .v (.a (.fl .str))), (5000001, .v (.a (.ptr 0 0)))], [], [.box 105 [.fl T1]]⟩, [⟨[(100000, .v (.a (.fl T2))), (100001, .v (.a (.fl .str)))], [], []⟩], sha_blocks⟩
theorem ok_sha_blocks : ConOk Tryd.prog L_sha_blocks_ := con_of (a := mkCon Tryd.prog G7 inl bk 85 ⟨[(0, .v (.a (.fl T2))), (1, .v (.a (.fl .str))), (5000001, .v (.a (.ptr 0 0)))], [], [.box 105 [.fl T1]]⟩ ⟨[(.ret, ⟨[(100000, .v (.a (.fl T2))), (100001, .v (.a (.fl .str)))], [], []⟩)], [], []⟩ (.n (.l ⟨[(.normal, ⟨[(1, .v (.a (.fl .str)))], [(1, .box 94 [.fl T2])], []⟩)], [1], []⟩ ⟨[(.exit 0, ⟨[(1, .v (.a (.fl .str)))], [(1, .box 94 [.fl T2])], []⟩)], [1], []⟩ [.n (.b [.n (.l ⟨[(.normal, ⟨[(11, .v (.a (.fl (.int .i64))))], [(3, .box 96 [.fl T0])], []⟩)], [3], []⟩ ⟨[(.exit 2, ⟨[], [(3, .box 96 [.fl T0])], []⟩)], [3], []⟩ [.n (.b [.d [0, 1, 2, 3] [] (.nil), .nil])] [.nil]), .nil])] [.nil]))) (by kernel_rfl) (mkCon_ok follows bk_ok okG7 (by kernel_rfl))
noncomputable def G8 : List Con := L_sha_blocks_ :: G7
theorem okG8 : ∀ c ∈ G8, ConOk Tryd.prog c := forall_cons ok_sha_blocks okG7
/-- (*scrinium/sha.Hash).Write -/
def sha_Hash_Write (k : Nat) (x : ByteArray × Bool × (Vector Int 8) × ByteArray × Int × (Vector Int 64)) : Option (Int × Bool × (Vector Int 8) × ByteArray × Int) :=
  (condO (!x.2.1) (some ((true, ⟨#[1779033703, 3144134277, 1013904242, 2773480762, 1359893119, 2600822924, 528734635, 1541459225], rfl⟩, x.2.2.2.1, x.2.2.2.2.1))) (some ((x.2.1, x.2.2.1, x.2.2.2.1, x.2.2.2.2.1))) : Option (Bool × (Vector Int 8) × ByteArray × Int)).bind fun r0 => guardO ((catOk r0.2.2.1 x.1)) ((sha_blocks k (r0.2.1, (r0.2.2.1 ++ x.1), x.2.2.2.2.2)).bind fun r1 => some (((blen x.1), r0.1, r1.1, r1.2, (WK .i64 (r0.2.2.2 + (blen x.1))))))
noncomputable def L_sha_Hash_Write_ : Con := ⟨78, ⟨[(0, .v (.a (.ptr 0 0))), (1, .v (.a (.fl .str))), (5000001, .v (.a (.ptr 1 0)))], [], [.box 124 [.fl .bool, .fl T2, .fl .str, .fl (.int .i64)], .box 105 [.fl T1]]⟩, [⟨[(100000, .v (.a (.fl (.int .i64))))], [(0, .box 124 [.fl .bool, .fl T2, .fl .str, .fl (.int .i64)])], []⟩], sha_Hash_Write⟩
theorem ok_sha_Hash_Write : ConOk Tryd.prog L_sha_Hash_Write_ := con_of (a := mkCon Tryd.prog G8 inl bk 78 ⟨[(0, .v (.a (.ptr 0 0))), (1, .v (.a (.fl .str))), (5000001, .v (.a (.ptr 1 0)))], [], [.box 124 [.fl .bool, .fl T2, .fl .str, .fl (.int .i64)], .box 105 [.fl T1]]⟩ ⟨[(.ret, ⟨[(100000, .v (.a (.fl (.int .i64))))], [(0, .box 124 [.fl .bool, .fl T2, .fl .str, .fl (.int .i64)])], []⟩)], [0], []⟩ (.n (.j ⟨[(.normal, ⟨[], [(0, .box 124 [.fl .bool, .fl T2, .fl .str, .fl (.int .i64)])], []⟩)], [0], []⟩ (.nil) [.d [1] [(5, [0, 1]), (9, [0, 1])] (.nil)]))) (by kernel_rfl) (mkCon_ok follows bk_ok okG8 (by kernel_rfl))
noncomputable def G9 : List Con := L_sha_Hash_Write_ :: G8
theorem okG9 : ∀ c ∈ G9, ConOk Tryd.prog c := forall_cons ok_sha_Hash_Write okG8
/-- strings.Repeat -/
abbrev strings_Repeat : Nat → (ByteArray × Int) → Option (ByteArray) := L_strings_Repeat
noncomputable def L_strings_Repeat_ : Con := ⟨86, ⟨[(0, .v (.a (.fl .str))), (1, .v (.a (.fl (.int .i64))))], [], []⟩, [⟨[(100000, .v (.a (.fl .str)))], [], []⟩], strings_Repeat⟩
theorem ok_strings_Repeat : ConOk Tryd.prog L_strings_Repeat_ := L_strings_Repeat_ok
noncomputable def G10 : List Con := L_strings_Repeat_ :: G9
theorem okG10 : ∀ c ∈ G10, ConOk Tryd.prog c := forall_cons ok_strings_Repeat okG9
/-- (*scrinium/sha.Hash).Sum -/
def sha_Hash_Sum (k : Nat) (x : Bool × (Vector Int 8) × ByteArray × Int × (Vector Int 64)) : Option ((Vector Int 32)) :=
  (condO x.1 (some ((x.2.2.1, (WK .u64 x.2.2.2.1), x.2.1))) (some ((str0, 0, ⟨#[1779033703, 3144134277, 1013904242, 2773480762, 1359893119, 2600822924, 528734635, 1541459225], rfl⟩))) : Option (ByteArray × Int × (Vector Int 8))).bind fun r0 => guardO ((nz 64)) ((loopK (H := Int × (Vector Int 8)) (E := (Vector Int 8)) k (fun h1 => condO (ilt h1.1 8) (guardO ((nn (WK .i64 (8 * (WK .i64 (7 - h1.1)))))) (guardO ((inR h1.1 8)) (some (.inl (((WK .i64 (h1.1 + 1)), (vSet h1.2 h1.1 (WK .u8 (shrK .u64 (WK .u64 (r0.2.1 * 8)) (WK .i64 (8 * (WK .i64 (7 - h1.1))))))))))))) (some (.inr (h1.2)))) ((0, (Vector.replicate 8 0)))).bind fun r1 => guardO ((catOk r0.1 ⟨#[128]⟩)) ((strings_Repeat k (⟨#[0]⟩, (Int.tmod (WK .i64 (119 - (blen r0.1))) 64))).bind fun r2 => guardO ((catOk (r0.1 ++ ⟨#[128]⟩) r2)) (guardO ((catOk ((r0.1 ++ ⟨#[128]⟩) ++ r2) (strOfNums (Vector.toList r1)))) ((sha_blocks k (r0.2.2, (((r0.1 ++ ⟨#[128]⟩) ++ r2) ++ (strOfNums (Vector.toList r1))), x.2.2.2.2)).bind fun r3 => (loopK (H := Int × (Vector Int 32)) (E := (Vector Int 32)) k (fun h4 => condO (ilt h4.1 32) (guardO ((nz 4)) (guardO ((inR (WK .i64 (Int.tdiv h4.1 4)) 8)) (guardO ((nz 4)) (guardO ((nn (WK .i64 (24 - (WK .i64 (8 * (Int.tmod h4.1 4))))))) (guardO ((inR h4.1 32)) (some (.inl (((WK .i64 (h4.1 + 1)), (vSet h4.2 h4.1 (WK .u8 (shrK .u32 (vAt 0 r3.1 (WK .i64 (Int.tdiv h4.1 4))) (WK .i64 (24 - (WK .i64 (8 * (Int.tmod h4.1 4))))))))))))))))) (some (.inr (h4.2)))) ((0, (Vector.replicate 32 0)))).bind fun r4 => some (r4)))))
noncomputable def L_sha_Hash_Sum_ : Con := ⟨79, ⟨[(0, .v (.a (.ptr 0 0))), (5000001, .v (.a (.ptr 1 0)))], [], [.box 124 [.fl .bool, .fl T2, .fl .str, .fl (.int .i64)], .box 105 [.fl T1]]⟩, [⟨[(100000, .v (.a (.fl T3)))], [], []⟩], sha_Hash_Sum⟩
theorem ok_sha_Hash_Sum : ConOk Tryd.prog L_sha_Hash_Sum_ := con_of (a := mkCon Tryd.prog G10 inl bk 79 ⟨[(0, .v (.a (.ptr 0 0))), (5000001, .v (.a (.ptr 1 0)))], [], [.box 124 [.fl .bool, .fl T2, .fl .str, .fl (.int .i64)], .box 105 [.fl T1]]⟩ ⟨[(.ret, ⟨[(100000, .v (.a (.fl T3)))], [], []⟩)], [], []⟩ (.j ⟨[(.normal, ⟨[(4, .v (.a (.fl .str))), (5, .v (.a (.fl (.int .u64))))], [(4, .box 94 [.fl T2])], []⟩)], [4], []⟩ (.b [.d [0, 1, 2, 3] [] (.nil), .nil]) [.n (.l ⟨[(.normal, ⟨[(37, .v (.a (.fl (.int .i64))))], [(5, .box 127 [.fl T4])], []⟩)], [5], []⟩ ⟨[(.exit 0, ⟨[], [(5, .box 127 [.fl T4])], []⟩)], [5], []⟩ [.n (.nil)] [.d [0, 1, 2, 3, 5] [(0, [0, 1, 2, 3, 4, 5]), (4, [0, 1, 2, 3, 4, 5])] (.n (.l ⟨[(.normal, ⟨[(63, .v (.a (.fl (.int .i64))))], [(7, .box 40 [.fl T3])], []⟩)], [7], []⟩ ⟨[(.exit 2, ⟨[], [(7, .box 40 [.fl T3])], []⟩)], [7], []⟩ [.n (.nil)] [.nil]))])])) (by kernel_rfl) (mkCon_ok follows bk_ok okG10 (by kernel_rfl))
noncomputable def G11 : List Con := L_sha_Hash_Sum_ :: G10
theorem okG11 : ∀ c ∈ G11, ConOk Tryd.prog c := forall_cons ok_sha_Hash_Sum okG10
/-- scrinium/sha.Of -/
def sha_Of (k : Nat) (x : (List ByteArray) × (Vector Int 64)) : Option ((Vector Int 32)) :=
  (loopK (H := Int × Bool × (Vector Int 8) × ByteArray × Int) (E := Bool × (Vector Int 8) × ByteArray × Int) k (fun h0 => condO (ilt h0.1 (llen x.1)) (guardO ((inR h0.1 (llen x.1))) ((sha_Hash_Write k ((at_ .str x.1 h0.1), h0.2.1, h0.2.2.1, h0.2.2.2.1, h0.2.2.2.2, x.2)).bind fun r1 => some (.inl (((WK .i64 (h0.1 + 1)), r1.2.1, r1.2.2.1, r1.2.2.2.1, r1.2.2.2.2))))) (some (.inr ((h0.2.1, h0.2.2.1, h0.2.2.2.1, h0.2.2.2.2))))) ((0, false, (Vector.replicate 8 0), str0, 0))).bind fun r0 => (sha_Hash_Sum k (r0.1, r0.2.1, r0.2.2.1, r0.2.2.2, x.2)).bind fun r1 => some (r1)
noncomputable def L_sha_Of_ : Con := ⟨66, ⟨[(0, .v (.a (.sl 0))), (5000001, .v (.a (.ptr 1 0)))], [], [.row 9 .str .lent, .box 105 [.fl T1]]⟩, [⟨[(100000, .v (.a (.fl T3)))], [], []⟩], sha_Of⟩
theorem ok_sha_Of : ConOk Tryd.prog L_sha_Of_ := con_of (a := mkCon Tryd.prog G11 inl bk 66 ⟨[(0, .v (.a (.sl 0))), (5000001, .v (.a (.ptr 1 0)))], [], [.row 9 .str .lent, .box 105 [.fl T1]]⟩ ⟨[(.ret, ⟨[(100000, .v (.a (.fl T3)))], [], []⟩)], [], [0]⟩ (.n (.l ⟨[(.normal, ⟨[(9, .v (.a (.fl (.int .i64))))], [(3, .box 124 [.fl .bool, .fl T2, .fl .str, .fl (.int .i64)])], []⟩)], [3], [0]⟩ ⟨[(.exit 0, ⟨[], [(3, .box 124 [.fl .bool, .fl T2, .fl .str, .fl (.int .i64)])], []⟩)], [3], []⟩ [.n (.nil)] [.nil]))) (by kernel_rfl) (mkCon_ok follows bk_ok okG11 (by kernel_rfl))
noncomputable def G12 : List Con := L_sha_Of_ :: G11
theorem okG12 : ∀ c ∈ G12, ConOk Tryd.prog c := forall_cons ok_sha_Of okG11
/-- slices.Clone[[]scrinium/api.Sum,scrinium/api.Sum] -/
abbrev slices_Clone : Nat → ((List (Vector Int 32))) → Option ((List (Vector Int 32))) := L_clone31
noncomputable def L_slices_Clone_ : Con := ⟨31, ⟨[(0, .v (.a (.sl 0)))], [], [.row 40 T3 .lent]⟩, [⟨[(100000, .v (.a (.sl 1)))], [], [.row 40 T3 .own]⟩], slices_Clone⟩
theorem ok_slices_Clone : ConOk Tryd.prog L_slices_Clone_ := L_clone31_ok
noncomputable def G13 : List Con := L_slices_Clone_ :: G12
theorem okG13 : ∀ c ∈ G13, ConOk Tryd.prog c := forall_cons ok_slices_Clone okG12
/-- (*scrinium/front.Front).Add -/
def front_Front_Add (k : Nat) (x : (Vector Int 32) × Int × (Vector Int 64) × (List (Vector Int 32))) : Option (Int × Int × (List (Vector Int 32))) :=
  condO (ige x.2.1 1099511627776) (some ((0, x.2.1, x.2.2.2))) ((slices_Clone k x.2.2.2).bind fun r0 => (loopK (H := Int × (Vector Int 32) × (List (Vector Int 32))) (E := (Vector Int 32) × (List (Vector Int 32))) k (fun h1 => guardO ((nz 2)) (condO (ieq (Int.tmod h1.1 2) 0) (some (.inr ((h1.2.1, h1.2.2)))) (guardO ((inR (WK .i64 ((llen h1.2.2) - 1)) (llen h1.2.2))) (guardO ((catOk ⟨#[1]⟩ (strOfNums (Vector.toList (at_ T3 h1.2.2 (WK .i64 ((llen h1.2.2) - 1))))))) (guardO ((catOk (⟨#[1]⟩ ++ (strOfNums (Vector.toList (at_ T3 h1.2.2 (WK .i64 ((llen h1.2.2) - 1)))))) (strOfNums (Vector.toList h1.2.1)))) ((sha_Of k (([((⟨#[1]⟩ ++ (strOfNums (Vector.toList (at_ T3 h1.2.2 (WK .i64 ((llen h1.2.2) - 1)))))) ++ (strOfNums (Vector.toList h1.2.1)))] : List ByteArray), x.2.2.1)).bind fun r2 => guardO ((tkOk (WK .i64 ((llen h1.2.2) - 1)) (llen h1.2.2))) (guardO ((nz 2)) (some (.inl (((WK .i64 (Int.tdiv h1.1 2)), r2, (ltake (WK .i64 ((llen h1.2.2) - 1)) h1.2.2)))))))))))) ((x.2.1, x.1, r0))).bind fun r1 => guardO ((appOk r1.2 ([r1.1] : List (Vector Int 32)) 32)) (some (((WK .i64 (x.2.1 + 1)), (WK .i64 (x.2.1 + 1)), (r1.2 ++ ([r1.1] : List (Vector Int 32)))))))
noncomputable def L_front_Front_Add_ : Con := ⟨55, ⟨[(0, .v (.a (.ptr 0 0))), (1, .v (.a (.fl T3))), (5000001, .v (.a (.ptr 1 0)))], [], [.box 84 [.fl (.int .i64), .sl 2], .box 105 [.fl T1], .row 40 T3 .rd]⟩, [⟨[(100000, .v (.a (.fl (.int .i64))))], [(0, .box 84 [.fl (.int .i64), .sl 3])], [.row 40 T3 .rd]⟩], front_Front_Add⟩
theorem ok_front_Front_Add : ConOk Tryd.prog L_front_Front_Add_ := con_of (a := mkCon Tryd.prog G13 inl bk 55 ⟨[(0, .v (.a (.ptr 0 0))), (1, .v (.a (.fl T3))), (5000001, .v (.a (.ptr 1 0)))], [], [.box 84 [.fl (.int .i64), .sl 2], .box 105 [.fl T1], .row 40 T3 .rd]⟩ ⟨[(.ret, ⟨[(100000, .v (.a (.fl (.int .i64))))], [(0, .box 84 [.fl (.int .i64), .sl 3])], [.row 40 T3 .rd]⟩)], [0], []⟩ (.n (.b [.nil, .n (.l ⟨[(.normal, ⟨[(5, .v (.a (.sl 6))), (6, .v (.a (.fl (.int .i64))))], [(3, .box 40 [.fl T3]), (5, .gone)], [.row 40 T3 .own]⟩)], [3, 5], [2]⟩ ⟨[(.exit 0, ⟨[(5, .v (.a (.sl 6)))], [(3, .box 40 [.fl T3]), (5, .gone)], [.row 40 T3 .own]⟩)], [3, 5], [2]⟩ [.n (.b [.nil, .d [0, 1, 2, 3, 4, 5, 6] [] (.d [0, 1, 2, 3, 4, 5, 6, 7, 8, 9, 10, 11] [] (.t (.nil)))])] [.nil])]))) (by kernel_rfl) (mkCon_ok follows bk_ok okG13 (by kernel_rfl))
noncomputable def G14 : List Con := L_front_Front_Add_ :: G13
theorem okG14 : ∀ c ∈ G14, ConOk Tryd.prog c := forall_cons ok_front_Front_Add okG13
/-- (*scrinium/shard.Shard).put -/
def shard_Shard_put (k : Nat) (x : Int × Int × Int × ByteArray × Int × Int × Int × Int × (Vector Int 32) × Int × (Vector Int 32) × (Vector Int 64) × (List (Vector Int 32)) × (List (Int × (Int × (Int × ByteArray)))) × Int × (List (Vector Int 32))) : Option (Int × Int × Int × Int × (Vector Int 32) × Int × (Vector Int 32) × Int × (List (Vector Int 32)) × (List (Int × (Int × (Int × ByteArray)))) × (List (Vector Int 32))) :=
  (record_Bytes k (x.1, x.2.1, x.2.2.1, x.2.2.2.1)).bind fun r0 => (sha_Of k (([⟨#[0]⟩, r0.1] : List ByteArray), x.2.2.2.2.2.2.2.2.2.2.2.1)).bind fun r1 => guardO ((cutOk4 0 (llen x.2.2.2.2.2.2.2.2.2.2.2.2.1) (llen x.2.2.2.2.2.2.2.2.2.2.2.2.1) (llen x.2.2.2.2.2.2.2.2.2.2.2.2.1))) (guardO ((appOk (ltake (llen x.2.2.2.2.2.2.2.2.2.2.2.2.1) x.2.2.2.2.2.2.2.2.2.2.2.2.1) ([r1] : List (Vector Int 32)) 32)) (guardO ((cutOk4 0 (llen x.2.2.2.2.2.2.2.2.2.2.2.2.2.1) (llen x.2.2.2.2.2.2.2.2.2.2.2.2.2.1) (llen x.2.2.2.2.2.2.2.2.2.2.2.2.2.1))) (guardO ((appOk (ltake (llen x.2.2.2.2.2.2.2.2.2.2.2.2.2.1) x.2.2.2.2.2.2.2.2.2.2.2.2.2.1) ([(x.1, x.2.1, x.2.2.1, x.2.2.2.1)] : List (Int × (Int × (Int × ByteArray)))) 40)) ((front_Front_Add k (r1, x.2.2.2.2.2.2.2.2.2.2.2.2.2.2.1, x.2.2.2.2.2.2.2.2.2.2.2.1, x.2.2.2.2.2.2.2.2.2.2.2.2.2.2.2)).bind fun r2 => some ((x.2.2.2.2.1, x.2.2.2.2.2.1, x.2.2.2.2.2.2.1, x.2.2.2.2.2.2.2.1, x.2.2.2.2.2.2.2.2.1, x.2.2.2.2.2.2.2.2.2.1, x.2.2.2.2.2.2.2.2.2.2.1, r2.2.1, ((ltake (llen x.2.2.2.2.2.2.2.2.2.2.2.2.1) x.2.2.2.2.2.2.2.2.2.2.2.2.1) ++ ([r1] : List (Vector Int 32))), ((ltake (llen x.2.2.2.2.2.2.2.2.2.2.2.2.2.1) x.2.2.2.2.2.2.2.2.2.2.2.2.2.1) ++ ([(x.1, x.2.1, x.2.2.1, x.2.2.2.1)] : List (Int × (Int × (Int × ByteArray))))), r2.2.2))))))
noncomputable def L_shard_Shard_put_ : Con := ⟨35, ⟨[(0, .v (.a (.ptr 0 0))), (1, .v (.st [.fl (.int .i64), .fl (.int .i64), .fl (.int .i64), .fl .str])), (5000001, .v (.a (.ptr 1 0)))], [], [.box 62 [.fl (.int .i64), .fl (.int .i64), .sl 2, .sl 3, .ptr 4 0, .fl (.int .i64), .fl (.int .i64), .fl T3, .fl (.int .i64), .fl T3], .box 105 [.fl T1], .row 40 T3 .rd, .row 29 T5 .rd, .box 84 [.fl (.int .i64), .sl 5], .row 40 T3 .rd]⟩, [⟨[], [(0, .box 62 [.fl (.int .i64), .fl (.int .i64), .sl 6, .sl 7, .ptr 4 0, .fl (.int .i64), .fl (.int .i64), .fl T3, .fl (.int .i64), .fl T3]), (4, .box 84 [.fl (.int .i64), .sl 8])], [.row 40 T3 .rd, .row 29 T5 .rd, .row 40 T3 .rd]⟩], shard_Shard_put⟩
theorem ok_shard_Shard_put : ConOk Tryd.prog L_shard_Shard_put_ := con_of (a := mkCon Tryd.prog G14 inl bk 35 ⟨[(0, .v (.a (.ptr 0 0))), (1, .v (.st [.fl (.int .i64), .fl (.int .i64), .fl (.int .i64), .fl .str])), (5000001, .v (.a (.ptr 1 0)))], [], [.box 62 [.fl (.int .i64), .fl (.int .i64), .sl 2, .sl 3, .ptr 4 0, .fl (.int .i64), .fl (.int .i64), .fl T3, .fl (.int .i64), .fl T3], .box 105 [.fl T1], .row 40 T3 .rd, .row 29 T5 .rd, .box 84 [.fl (.int .i64), .sl 5], .row 40 T3 .rd]⟩ ⟨[(.ret, ⟨[], [(0, .box 62 [.fl (.int .i64), .fl (.int .i64), .sl 6, .sl 7, .ptr 4 0, .fl (.int .i64), .fl (.int .i64), .fl T3, .fl (.int .i64), .fl T3]), (4, .box 84 [.fl (.int .i64), .sl 8])], [.row 40 T3 .rd, .row 29 T5 .rd, .row 40 T3 .rd]⟩)], [0, 4], []⟩ (.d [0, 1, 2, 3, 4, 5, 6, 7, 8, 9, 10, 11, 12, 13] [] (.d [0, 1, 2, 3, 4, 5, 6, 7, 8, 9, 10, 11, 12, 13, 14, 15, 16] [] (.d [0, 1, 2, 3, 5, 6, 7, 8, 9, 10, 11, 12, 13, 14, 15, 16, 17, 18, 19] [] (.nil))))) (by kernel_rfl) (mkCon_ok follows bk_ok okG14 (by kernel_rfl))
noncomputable def G15 : List Con := L_shard_Shard_put_ :: G14
theorem okG15 : ∀ c ∈ G15, ConOk Tryd.prog c := forall_cons ok_shard_Shard_put okG14
/-- (*scrinium/shard.Shard).Add -/
def shard_Shard_Add (k : Nat) (x : Int × ByteArray × Int × Int × Int × Int × (Vector Int 32) × Int × (Vector Int 32) × (Vector Int 64) × (List (Vector Int 32)) × (List (Int × (Int × (Int × ByteArray)))) × Int × (List (Vector Int 32))) : Option (Int × Int × Int × Int × Int × Int × (Vector Int 32) × Int × (Vector Int 32) × Int × (List (Vector Int 32)) × (List (Int × (Int × (Int × ByteArray)))) × (List (Vector Int 32))) :=
  condO (ine x.2.2.2.1 0) (some ((0, 13, x.2.2.1, x.2.2.2.1, x.2.2.2.2.1, x.2.2.2.2.2.1, x.2.2.2.2.2.2.1, x.2.2.2.2.2.2.2.1, x.2.2.2.2.2.2.2.2.1, x.2.2.2.2.2.2.2.2.2.2.2.2.1, x.2.2.2.2.2.2.2.2.2.2.1, x.2.2.2.2.2.2.2.2.2.2.2.1, x.2.2.2.2.2.2.2.2.2.2.2.2.2))) (condO (ige (llen x.2.2.2.2.2.2.2.2.2.2.1) 4000) (some ((0, 15, x.2.2.1, x.2.2.2.1, x.2.2.2.2.1, x.2.2.2.2.2.1, x.2.2.2.2.2.2.1, x.2.2.2.2.2.2.2.1, x.2.2.2.2.2.2.2.2.1, x.2.2.2.2.2.2.2.2.2.2.2.2.1, x.2.2.2.2.2.2.2.2.2.2.1, x.2.2.2.2.2.2.2.2.2.2.2.1, x.2.2.2.2.2.2.2.2.2.2.2.2.2))) ((record_Check k (x.2.2.1, (llen x.2.2.2.2.2.2.2.2.2.2.1), x.1, x.2.1)).bind fun r0 => condO (ine r0 0) (some ((0, r0, x.2.2.1, x.2.2.2.1, x.2.2.2.2.1, x.2.2.2.2.2.1, x.2.2.2.2.2.2.1, x.2.2.2.2.2.2.2.1, x.2.2.2.2.2.2.2.2.1, x.2.2.2.2.2.2.2.2.2.2.2.2.1, x.2.2.2.2.2.2.2.2.2.2.1, x.2.2.2.2.2.2.2.2.2.2.2.1, x.2.2.2.2.2.2.2.2.2.2.2.2.2))) ((shard_Shard_put k (x.2.2.1, (llen x.2.2.2.2.2.2.2.2.2.2.1), x.1, x.2.1, x.2.2.1, x.2.2.2.1, x.2.2.2.2.1, x.2.2.2.2.2.1, x.2.2.2.2.2.2.1, x.2.2.2.2.2.2.2.1, x.2.2.2.2.2.2.2.2.1, x.2.2.2.2.2.2.2.2.2.1, x.2.2.2.2.2.2.2.2.2.2.1, x.2.2.2.2.2.2.2.2.2.2.2.1, x.2.2.2.2.2.2.2.2.2.2.2.2.1, x.2.2.2.2.2.2.2.2.2.2.2.2.2)).bind fun r1 => some (((llen x.2.2.2.2.2.2.2.2.2.2.1), 0, r1.1, r1.2.1, r1.2.2.1, r1.2.2.2.1, r1.2.2.2.2.1, r1.2.2.2.2.2.1, r1.2.2.2.2.2.2.1, r1.2.2.2.2.2.2.2.1, r1.2.2.2.2.2.2.2.2.1, r1.2.2.2.2.2.2.2.2.2.1, r1.2.2.2.2.2.2.2.2.2.2)))))
noncomputable def L_shard_Shard_Add_ : Con := ⟨20, ⟨[(0, .v (.a (.ptr 0 0))), (1, .v (.a (.fl (.int .i64)))), (2, .v (.a (.fl .str))), (5000001, .v (.a (.ptr 1 0)))], [], [.box 62 [.fl (.int .i64), .fl (.int .i64), .sl 2, .sl 3, .ptr 4 0, .fl (.int .i64), .fl (.int .i64), .fl T3, .fl (.int .i64), .fl T3], .box 105 [.fl T1], .row 40 T3 .rd, .row 29 T5 .rd, .box 84 [.fl (.int .i64), .sl 5], .row 40 T3 .rd]⟩, [⟨[(100000, .v (.a (.fl (.int .i64)))), (100001, .v (.a (.fl (.int .i64))))], [(0, .box 62 [.fl (.int .i64), .fl (.int .i64), .sl 6, .sl 7, .ptr 4 0, .fl (.int .i64), .fl (.int .i64), .fl T3, .fl (.int .i64), .fl T3]), (4, .box 84 [.fl (.int .i64), .sl 8])], [.row 40 T3 .rd, .row 29 T5 .rd, .row 40 T3 .rd]⟩], shard_Shard_Add⟩
theorem ok_shard_Shard_Add : ConOk Tryd.prog L_shard_Shard_Add_ := con_of (a := mkCon Tryd.prog G15 inl bk 20 ⟨[(0, .v (.a (.ptr 0 0))), (1, .v (.a (.fl (.int .i64)))), (2, .v (.a (.fl .str))), (5000001, .v (.a (.ptr 1 0)))], [], [.box 62 [.fl (.int .i64), .fl (.int .i64), .sl 2, .sl 3, .ptr 4 0, .fl (.int .i64), .fl (.int .i64), .fl T3, .fl (.int .i64), .fl T3], .box 105 [.fl T1], .row 40 T3 .rd, .row 29 T5 .rd, .box 84 [.fl (.int .i64), .sl 5], .row 40 T3 .rd]⟩ ⟨[(.ret, ⟨[(100000, .v (.a (.fl (.int .i64)))), (100001, .v (.a (.fl (.int .i64))))], [(0, .box 62 [.fl (.int .i64), .fl (.int .i64), .sl 6, .sl 7, .ptr 4 0, .fl (.int .i64), .fl (.int .i64), .fl T3, .fl (.int .i64), .fl T3]), (4, .box 84 [.fl (.int .i64), .sl 8])], [.row 40 T3 .rd, .row 29 T5 .rd, .row 40 T3 .rd]⟩)], [0, 4], []⟩ (.n (.b [.nil, .b [.nil, .d [0, 1, 2, 3, 4, 5] [] (.n (.nil))]]))) (by kernel_rfl) (mkCon_ok follows bk_ok okG15 (by kernel_rfl))
noncomputable def G16 : List Con := L_shard_Shard_Add_ :: G15
theorem okG16 : ∀ c ∈ G16, ConOk Tryd.prog c := forall_cons ok_shard_Shard_Add okG15
/-- (*scrinium/front.Front).Root -/
def front_Front_Root (k : Nat) (x : Int × (Vector Int 64) × (List (Vector Int 32))) : Option ((Vector Int 32)) :=
  condO (ieq x.1 0) ((sha_Of k (([] : List ByteArray), x.2.1)).bind fun r0 => some (r0)) (guardO ((inR (WK .i64 ((llen x.2.2) - 1)) (llen x.2.2))) (guardO ((cutOk4 0 (WK .i64 ((llen x.2.2) - 1)) (llen x.2.2) (WK .i64 ((llen x.2.2) - 1)))) ((foldL (H := (Vector Int 32)) (backL (ltake (WK .i64 ((llen x.2.2) - 1)) x.2.2)) (fun h0 p0 => guardO ((catOk ⟨#[1]⟩ (strOfNums (Vector.toList p0.2)))) (guardO ((catOk (⟨#[1]⟩ ++ (strOfNums (Vector.toList p0.2))) (strOfNums (Vector.toList h0)))) ((sha_Of k (([((⟨#[1]⟩ ++ (strOfNums (Vector.toList p0.2))) ++ (strOfNums (Vector.toList h0)))] : List ByteArray), x.2.1)).bind fun r1 => some (r1)))) ((at_ T3 x.2.2 (WK .i64 ((llen x.2.2) - 1))))).bind fun r0 => some (r0))))
noncomputable def L_front_Front_Root_ : Con := ⟨33, ⟨[(0, .v (.a (.ptr 0 0))), (5000001, .v (.a (.ptr 1 0)))], [], [.box 84 [.fl (.int .i64), .sl 2], .box 105 [.fl T1], .row 40 T3 .lent]⟩, [⟨[(100000, .v (.a (.fl T3)))], [], []⟩], front_Front_Root⟩
theorem ok_front_Front_Root : ConOk Tryd.prog L_front_Front_Root_ := con_of (a := mkCon Tryd.prog G16 inl bk 33 ⟨[(0, .v (.a (.ptr 0 0))), (5000001, .v (.a (.ptr 1 0)))], [], [.box 84 [.fl (.int .i64), .sl 2], .box 105 [.fl T1], .row 40 T3 .lent]⟩ ⟨[(.ret, ⟨[(100000, .v (.a (.fl T3)))], [], []⟩)], [], [2]⟩ (.n (.n (.b [.nil, .n (.r ⟨[(.normal, ⟨[], [(4, .box 40 [.fl T3])], []⟩)], [4], [2, 5]⟩ ⟨[], [], [2, 5]⟩ [.d [0, 1, 2, 3, 4, 5, 6, 7, 8, 9, 10, 11, 12] [] (.nil)] [.nil] [])])))) (by kernel_rfl) (mkCon_ok follows bk_ok okG16 (by kernel_rfl))
noncomputable def G17 : List Con := L_front_Front_Root_ :: G16
theorem okG17 : ∀ c ∈ G17, ConOk Tryd.prog c := forall_cons ok_front_Front_Root okG16
/-- (*scrinium/shard.Shard).says -/
def shard_Shard_says (k : Nat) (x : Int × Int × Int × Int × (Vector Int 32) × Int × (Vector Int 32) × (Vector Int 64) × (List (Vector Int 32)) × (List (Int × (Int × (Int × ByteArray)))) × Int × (List (Vector Int 32))) : Option (Int × Int × (Vector Int 32)) :=
  (front_Front_Root k (x.2.2.2.2.2.2.2.2.2.2.1, x.2.2.2.2.2.2.2.1, x.2.2.2.2.2.2.2.2.2.2.2)).bind fun r0 => some ((x.1, (llen x.2.2.2.2.2.2.2.2.1), r0))
noncomputable def L_shard_Shard_says_ : Con := ⟨27, ⟨[(0, .v (.a (.ptr 0 0))), (5000001, .v (.a (.ptr 1 0)))], [], [.box 62 [.fl (.int .i64), .fl (.int .i64), .sl 2, .sl 3, .ptr 4 0, .fl (.int .i64), .fl (.int .i64), .fl T3, .fl (.int .i64), .fl T3], .box 105 [.fl T1], .row 40 T3 .lent, .row 29 T5 .lent, .box 84 [.fl (.int .i64), .sl 5], .row 40 T3 .lent]⟩, [⟨[(100000, .v (.st [.fl (.int .i64), .fl (.int .i64), .fl T3]))], [], []⟩], shard_Shard_says⟩
theorem ok_shard_Shard_says : ConOk Tryd.prog L_shard_Shard_says_ := con_of (a := mkCon Tryd.prog G17 inl bk 27 ⟨[(0, .v (.a (.ptr 0 0))), (5000001, .v (.a (.ptr 1 0)))], [], [.box 62 [.fl (.int .i64), .fl (.int .i64), .sl 2, .sl 3, .ptr 4 0, .fl (.int .i64), .fl (.int .i64), .fl T3, .fl (.int .i64), .fl T3], .box 105 [.fl T1], .row 40 T3 .lent, .row 29 T5 .lent, .box 84 [.fl (.int .i64), .sl 5], .row 40 T3 .lent]⟩ ⟨[(.ret, ⟨[(100000, .v (.st [.fl (.int .i64), .fl (.int .i64), .fl T3]))], [], []⟩)], [], [2, 3, 5]⟩ (.d [0, 1, 2, 3, 4, 5, 6] [] (.nil))) (by kernel_rfl) (mkCon_ok follows bk_ok okG17 (by kernel_rfl))
noncomputable def G18 : List Con := L_shard_Shard_says_ :: G17
theorem okG18 : ∀ c ∈ G18, ConOk Tryd.prog c := forall_cons ok_shard_Shard_says okG17
/-- (*scrinium/shard.Shard).Close -/
def shard_Shard_Close (k : Nat) (x : Int × Int × Int × Int × (Vector Int 32) × Int × (Vector Int 32) × (Vector Int 64) × (List (Vector Int 32)) × (List (Int × (Int × (Int × ByteArray)))) × Int × (List (Vector Int 32))) : Option (Int × Int × (Vector Int 32) × Int × Int × Int × Int × Int × (Vector Int 32) × Int × (Vector Int 32) × (List (Vector Int 32)) × (List (Int × (Int × (Int × ByteArray))))) :=
  condO (ine x.2.1 0) (some ((0, 0, (Vector.replicate 32 0), 13, x.1, x.2.1, x.2.2.1, x.2.2.2.1, x.2.2.2.2.1, x.2.2.2.2.2.1, x.2.2.2.2.2.2.1, x.2.2.2.2.2.2.2.2.1, x.2.2.2.2.2.2.2.2.2.1))) (condO (ieq (llen x.2.2.2.2.2.2.2.2.1) 0) (some ((0, 0, (Vector.replicate 32 0), 13, x.1, x.2.1, x.2.2.1, x.2.2.2.1, x.2.2.2.2.1, x.2.2.2.2.2.1, x.2.2.2.2.2.2.1, x.2.2.2.2.2.2.2.2.1, x.2.2.2.2.2.2.2.2.2.1))) ((shard_Shard_says k (x.1, 1, x.2.2.1, x.2.2.2.1, x.2.2.2.2.1, x.2.2.2.2.2.1, x.2.2.2.2.2.2.1, x.2.2.2.2.2.2.2.1, x.2.2.2.2.2.2.2.2.1, x.2.2.2.2.2.2.2.2.2.1, x.2.2.2.2.2.2.2.2.2.2.1, x.2.2.2.2.2.2.2.2.2.2.2)).bind fun r0 => some ((r0.1, r0.2.1, r0.2.2, 0, x.1, 1, x.2.2.1, x.2.2.2.1, x.2.2.2.2.1, x.2.2.2.2.2.1, x.2.2.2.2.2.2.1, x.2.2.2.2.2.2.2.2.1, x.2.2.2.2.2.2.2.2.2.1))))
noncomputable def L_shard_Shard_Close_ : Con := ⟨12, ⟨[(0, .v (.a (.ptr 0 0))), (5000001, .v (.a (.ptr 1 0)))], [], [.box 62 [.fl (.int .i64), .fl (.int .i64), .sl 2, .sl 3, .ptr 4 0, .fl (.int .i64), .fl (.int .i64), .fl T3, .fl (.int .i64), .fl T3], .box 105 [.fl T1], .row 40 T3 .rd, .row 29 T5 .rd, .box 84 [.fl (.int .i64), .sl 5], .row 40 T3 .rd]⟩, [⟨[(100000, .v (.st [.fl (.int .i64), .fl (.int .i64), .fl T3])), (100001, .v (.a (.fl (.int .i64))))], [(0, .box 62 [.fl (.int .i64), .fl (.int .i64), .sl 6, .sl 7, .ptr 4 0, .fl (.int .i64), .fl (.int .i64), .fl T3, .fl (.int .i64), .fl T3])], [.row 40 T3 .rd, .row 29 T5 .rd]⟩], shard_Shard_Close⟩
theorem ok_shard_Shard_Close : ConOk Tryd.prog L_shard_Shard_Close_ := con_of (a := mkCon Tryd.prog G18 inl bk 12 ⟨[(0, .v (.a (.ptr 0 0))), (5000001, .v (.a (.ptr 1 0)))], [], [.box 62 [.fl (.int .i64), .fl (.int .i64), .sl 2, .sl 3, .ptr 4 0, .fl (.int .i64), .fl (.int .i64), .fl T3, .fl (.int .i64), .fl T3], .box 105 [.fl T1], .row 40 T3 .rd, .row 29 T5 .rd, .box 84 [.fl (.int .i64), .sl 5], .row 40 T3 .rd]⟩ ⟨[(.ret, ⟨[(100000, .v (.st [.fl (.int .i64), .fl (.int .i64), .fl T3])), (100001, .v (.a (.fl (.int .i64))))], [(0, .box 62 [.fl (.int .i64), .fl (.int .i64), .sl 6, .sl 7, .ptr 4 0, .fl (.int .i64), .fl (.int .i64), .fl T3, .fl (.int .i64), .fl T3])], [.row 40 T3 .rd, .row 29 T5 .rd]⟩)], [0], [5]⟩ (.n (.nil))) (by kernel_rfl) (mkCon_ok follows bk_ok okG18 (by kernel_rfl))
noncomputable def G19 : List Con := L_shard_Shard_Close_ :: G18
theorem okG19 : ∀ c ∈ G19, ConOk Tryd.prog c := forall_cons ok_shard_Shard_Close okG18
/-- (*scrinium/shard.Shard).Get -/
def shard_Shard_Get (k : Nat) (x : Int × Int × Int × Int × Int × (Vector Int 32) × Int × (Vector Int 32) × (List (Vector Int 32)) × (List (Int × (Int × (Int × ByteArray)))) × Int × (List (Vector Int 32))) : Option (Int × Int × Int × ByteArray × Int) :=
  condO (ige x.1 0) (condO (!(ilt x.1 (llen x.2.2.2.2.2.2.2.2.1))) (some ((0, 0, 0, str0, 19))) (condO (ieq x.2.2.1 2) (some ((0, 0, 0, str0, 20))) (guardO ((inR x.1 (llen x.2.2.2.2.2.2.2.2.2.1))) (some (((at_ T5 x.2.2.2.2.2.2.2.2.2.1 x.1).1, (at_ T5 x.2.2.2.2.2.2.2.2.2.1 x.1).2.1, (at_ T5 x.2.2.2.2.2.2.2.2.2.1 x.1).2.2.1, (at_ T5 x.2.2.2.2.2.2.2.2.2.1 x.1).2.2.2, 0)))))) (some ((0, 0, 0, str0, 19)))
noncomputable def L_shard_Shard_Get_ : Con := ⟨8, ⟨[(0, .v (.a (.ptr 0 0))), (1, .v (.a (.fl (.int .i64))))], [], [.box 62 [.fl (.int .i64), .fl (.int .i64), .sl 1, .sl 2, .ptr 3 0, .fl (.int .i64), .fl (.int .i64), .fl T3, .fl (.int .i64), .fl T3], .row 40 T3 .lent, .row 29 T5 .lent, .box 84 [.fl (.int .i64), .sl 4], .row 40 T3 .lent]⟩, [⟨[(100000, .v (.st [.fl (.int .i64), .fl (.int .i64), .fl (.int .i64), .fl .str])), (100001, .v (.a (.fl (.int .i64))))], [], []⟩], shard_Shard_Get⟩
theorem ok_shard_Shard_Get : ConOk Tryd.prog L_shard_Shard_Get_ := con_of (a := mkCon Tryd.prog G19 inl bk 8 ⟨[(0, .v (.a (.ptr 0 0))), (1, .v (.a (.fl (.int .i64))))], [], [.box 62 [.fl (.int .i64), .fl (.int .i64), .sl 1, .sl 2, .ptr 3 0, .fl (.int .i64), .fl (.int .i64), .fl T3, .fl (.int .i64), .fl T3], .row 40 T3 .lent, .row 29 T5 .lent, .box 84 [.fl (.int .i64), .sl 4], .row 40 T3 .lent]⟩ ⟨[(.ret, ⟨[(100000, .v (.st [.fl (.int .i64), .fl (.int .i64), .fl (.int .i64), .fl .str])), (100001, .v (.a (.fl (.int .i64))))], [], []⟩)], [], [1, 2, 4]⟩ (.n (.d [0, 1, 2, 3, 4, 5, 6, 7] [] (.b [.n (.b [.nil, .b [.nil, .d [0, 1, 2, 3, 4, 5, 6] [] (.nil)]]), .nil])))) (by kernel_rfl) (mkCon_ok follows bk_ok okG19 (by kernel_rfl))
noncomputable def G20 : List Con := L_shard_Shard_Get_ :: G19
theorem okG20 : ∀ c ∈ G20, ConOk Tryd.prog c := forall_cons ok_shard_Shard_Get okG19
/-- scrinium/scriniumref01.Put -/
def ref01_Put (k : Nat) (x : Int) : Option (ByteArray) :=
  (loopK (H := Int × ByteArray) (E := ByteArray) k (fun h0 => condO (igt h0.1 0) (guardO ((nz 256)) (guardO ((catOk (strOfNums ([(WK .u8 (Int.tmod h0.1 256))] : List Int)) h0.2)) (guardO ((nz 256)) (some (.inl (((WK .u64 (Int.tdiv h0.1 256)), ((strOfNums ([(WK .u8 (Int.tmod h0.1 256))] : List Int)) ++ h0.2)))))))) (some (.inr (h0.2)))) ((x, str0))).bind fun r0 => guardO ((catOk (strOfNums ([(WK .u8 (blen r0))] : List Int)) r0)) (some (((strOfNums ([(WK .u8 (blen r0))] : List Int)) ++ r0)))
noncomputable def L_ref01_Put_ : Con := ⟨45, ⟨[(0, .v (.a (.fl (.int .u64))))], [], []⟩, [⟨[(100000, .v (.a (.fl .str)))], [], []⟩], ref01_Put⟩
theorem ok_ref01_Put : ConOk Tryd.prog L_ref01_Put_ := con_of (a := mkCon Tryd.prog G20 inl bk 45 ⟨[(0, .v (.a (.fl (.int .u64))))], [], []⟩ ⟨[(.ret, ⟨[(100000, .v (.a (.fl .str)))], [], []⟩)], [], []⟩ (.n (.l ⟨[(.normal, ⟨[(0, .v (.a (.fl (.int .u64)))), (3, .v (.a (.fl .str)))], [], []⟩)], [], []⟩ ⟨[(.exit 0, ⟨[(3, .v (.a (.fl .str)))], [], []⟩)], [], []⟩ [.n (.nil)] [.nil]))) (by kernel_rfl) (mkCon_ok follows bk_ok okG20 (by kernel_rfl))
noncomputable def G21 : List Con := L_ref01_Put_ :: G20
theorem okG21 : ∀ c ∈ G21, ConOk Tryd.prog c := forall_cons ok_ref01_Put okG20
/-- scrinium/scriniumref16.FreezeBytes -/
def ref16_FreezeBytes (k : Nat) (x : Int × Int × (Vector Int 32)) : Option (ByteArray × Int) :=
  condO (ilt x.1 0) (some ((str0, 1))) (condO (igt x.1 1125899906842624) (some ((str0, 1))) (condO (ilt x.2.1 1) (some ((str0, 1))) (condO (igt x.2.1 4000) (some ((str0, 1))) ((ref01_Put k (WK .u64 x.1)).bind fun r0 => guardO ((catOk ⟨#[70]⟩ r0)) ((ref01_Put k (WK .u64 x.2.1)).bind fun r1 => guardO ((catOk (⟨#[70]⟩ ++ r0) r1)) ((ref01_Put k (WK .u64 (blen (strOfNums (Vector.toList x.2.2))))).bind fun r2 => guardO ((catOk r2 (strOfNums (Vector.toList x.2.2)))) (guardO ((catOk ((⟨#[70]⟩ ++ r0) ++ r1) (r2 ++ (strOfNums (Vector.toList x.2.2))))) (some (((((⟨#[70]⟩ ++ r0) ++ r1) ++ (r2 ++ (strOfNums (Vector.toList x.2.2)))), 0))))))))))
noncomputable def L_ref16_FreezeBytes_ : Con := ⟨43, ⟨[(0, .v (.st [.fl (.int .i64), .fl (.int .i64), .fl T3]))], [], []⟩, [⟨[(100000, .v (.a (.fl .str))), (100001, .v (.a (.fl (.int .i64))))], [], []⟩], ref16_FreezeBytes⟩
theorem ok_ref16_FreezeBytes : ConOk Tryd.prog L_ref16_FreezeBytes_ := con_of (a := mkCon Tryd.prog G21 inl bk 43 ⟨[(0, .v (.st [.fl (.int .i64), .fl (.int .i64), .fl T3]))], [], []⟩ ⟨[(.ret, ⟨[(100000, .v (.a (.fl .str))), (100001, .v (.a (.fl (.int .i64))))], [], []⟩)], [], []⟩ (.n (.b [.nil, .b [.nil, .b [.nil, .b [.nil, .d [0] [] (.nil)]]]]))) (by kernel_rfl) (mkCon_ok follows bk_ok okG21 (by kernel_rfl))
noncomputable def G22 : List Con := L_ref16_FreezeBytes_ :: G21
theorem okG22 : ∀ c ∈ G22, ConOk Tryd.prog c := forall_cons ok_ref16_FreezeBytes okG21
/-- scrinium/scriniumref16.stoneSays -/
def ref16_stoneSays (k : Nat) (x : Int × Int × (Vector Int 32) × Int × (Vector Int 32)) : Option (ByteArray × Bool) :=
  (ref16_FreezeBytes k (x.1, x.2.1, x.2.2.1)).bind fun r0 => condO (ine r0.2 0) (some ((str0, false))) (condO (ilt x.2.2.2.1 0) (some ((str0, false))) (condO (igt x.2.2.2.1 1125899906842624) (some ((str0, false))) ((ref01_Put k (WK .u64 (blen r0.1))).bind fun r1 => guardO ((catOk r1 r0.1)) (guardO ((catOk ⟨#[84]⟩ (r1 ++ r0.1))) ((ref01_Put k (WK .u64 x.2.2.2.1)).bind fun r2 => guardO ((catOk (⟨#[84]⟩ ++ (r1 ++ r0.1)) r2)) (some ((((⟨#[84]⟩ ++ (r1 ++ r0.1)) ++ r2), true))))))))
noncomputable def L_ref16_stoneSays_ : Con := ⟨29, ⟨[(0, .v (.st [.fl (.int .i64), .fl (.int .i64), .fl T3, .fl (.int .i64), .fl T3]))], [], []⟩, [⟨[(100000, .v (.a (.fl .str))), (100001, .v (.a (.fl .bool)))], [], []⟩], ref16_stoneSays⟩
theorem ok_ref16_stoneSays : ConOk Tryd.prog L_ref16_stoneSays_ := con_of (a := mkCon Tryd.prog G22 inl bk 29 ⟨[(0, .v (.st [.fl (.int .i64), .fl (.int .i64), .fl T3, .fl (.int .i64), .fl T3]))], [], []⟩ ⟨[(.ret, ⟨[(100000, .v (.a (.fl .str))), (100001, .v (.a (.fl .bool)))], [], []⟩)], [], []⟩ (.n (.b [.nil, .b [.nil, .b [.nil, .d [0] [] (.nil)]]]))) (by kernel_rfl) (mkCon_ok follows bk_ok okG22 (by kernel_rfl))
noncomputable def G23 : List Con := L_ref16_stoneSays_ :: G22
theorem okG23 : ∀ c ∈ G23, ConOk Tryd.prog c := forall_cons ok_ref16_stoneSays okG22
/-- scrinium/scriniumref02.Step -/
def ref02_Step (k : Nat) (x : (Vector Int 8) × (Vector Int 16)) : Option ((Vector Int 8)) :=
  (loopK (H := Int × (Vector Int 64)) (E := (Vector Int 64)) k (fun h0 => condO (ilt h0.1 64) (condO (ilt h0.1 16) (guardO ((inR h0.1 16)) (guardO ((inR h0.1 64)) (some (.inl (((WK .i64 (h0.1 + 1)), (vSet h0.2 h0.1 (vAt 0 x.2 h0.1)))))))) (guardO ((inR (WK .i64 (h0.1 - 2)) 64)) (guardO ((inR (WK .i64 (h0.1 - 15)) 64)) (guardO ((nn (WK .u64 17))) (guardO ((nn (WK .u64 (WK .i64 (32 - 17))))) (guardO ((nn (WK .u64 19))) (guardO ((nn (WK .u64 (WK .i64 (32 - 19))))) (guardO ((nn 10)) (guardO ((nn (WK .u64 7))) (guardO ((nn (WK .u64 (WK .i64 (32 - 7))))) (guardO ((nn (WK .u64 18))) (guardO ((nn (WK .u64 (WK .i64 (32 - 18))))) (guardO ((nn 3)) (guardO ((inR (WK .i64 (h0.1 - 7)) 64)) (guardO ((inR (WK .i64 (h0.1 - 16)) 64)) (guardO ((inR h0.1 64)) (some (.inl (((WK .i64 (h0.1 + 1)), (vSet h0.2 h0.1 (WK .u32 ((WK .u32 ((WK .u32 ((xorK .u32 (xorK .u32 (orK .u32 (shrK .u32 (vAt 0 h0.2 (WK .i64 (h0.1 - 2))) (WK .u64 17)) (shlK .u32 (vAt 0 h0.2 (WK .i64 (h0.1 - 2))) (WK .u64 (WK .i64 (32 - 17))))) (orK .u32 (shrK .u32 (vAt 0 h0.2 (WK .i64 (h0.1 - 2))) (WK .u64 19)) (shlK .u32 (vAt 0 h0.2 (WK .i64 (h0.1 - 2))) (WK .u64 (WK .i64 (32 - 19)))))) (shrK .u32 (vAt 0 h0.2 (WK .i64 (h0.1 - 2))) 10)) + (vAt 0 h0.2 (WK .i64 (h0.1 - 7))))) + (xorK .u32 (xorK .u32 (orK .u32 (shrK .u32 (vAt 0 h0.2 (WK .i64 (h0.1 - 15))) (WK .u64 7)) (shlK .u32 (vAt 0 h0.2 (WK .i64 (h0.1 - 15))) (WK .u64 (WK .i64 (32 - 7))))) (orK .u32 (shrK .u32 (vAt 0 h0.2 (WK .i64 (h0.1 - 15))) (WK .u64 18)) (shlK .u32 (vAt 0 h0.2 (WK .i64 (h0.1 - 15))) (WK .u64 (WK .i64 (32 - 18)))))) (shrK .u32 (vAt 0 h0.2 (WK .i64 (h0.1 - 15))) 3)))) + (vAt 0 h0.2 (WK .i64 (h0.1 - 16)))))))))))))))))))))))))) (some (.inr (h0.2)))) ((0, (Vector.replicate 64 0)))).bind fun r0 => (loopK (H := Int × (Vector Int 8)) (E := (Vector Int 8)) k (fun h1 => condO (ilt h1.1 64) (guardO ((inR 0 8)) (guardO ((inR 4 8)) (guardO ((inR 7 8)) (guardO ((inR 5 8)) (guardO ((inR 6 8)) (guardO ((inR h1.1 64)) (guardO ((inR h1.1 64)) (guardO ((nn (WK .u64 6))) (guardO ((nn (WK .u64 (WK .i64 (32 - 6))))) (guardO ((nn (WK .u64 11))) (guardO ((nn (WK .u64 (WK .i64 (32 - 11))))) (guardO ((nn (WK .u64 25))) (guardO ((nn (WK .u64 (WK .i64 (32 - 25))))) (guardO ((inR 1 8)) (guardO ((inR 2 8)) (guardO ((inR 1 8)) (guardO ((inR 2 8)) (guardO ((nn (WK .u64 2))) (guardO ((nn (WK .u64 (WK .i64 (32 - 2))))) (guardO ((nn (WK .u64 13))) (guardO ((nn (WK .u64 (WK .i64 (32 - 13))))) (guardO ((nn (WK .u64 22))) (guardO ((nn (WK .u64 (WK .i64 (32 - 22))))) (guardO ((inR 0 8)) (guardO ((inR 1 8)) (guardO ((inR 2 8)) (guardO ((inR 3 8)) (guardO ((inR 4 8)) (guardO ((inR 5 8)) (guardO ((inR 6 8)) (some (.inl (((WK .i64 (h1.1 + 1)), ⟨#[(WK .u32 ((WK .u32 ((WK .u32 ((WK .u32 ((WK .u32 ((vAt 0 h1.2 7) + (xorK .u32 (xorK .u32 (orK .u32 (shrK .u32 (vAt 0 h1.2 4) (WK .u64 6)) (shlK .u32 (vAt 0 h1.2 4) (WK .u64 (WK .i64 (32 - 6))))) (orK .u32 (shrK .u32 (vAt 0 h1.2 4) (WK .u64 11)) (shlK .u32 (vAt 0 h1.2 4) (WK .u64 (WK .i64 (32 - 11)))))) (orK .u32 (shrK .u32 (vAt 0 h1.2 4) (WK .u64 25)) (shlK .u32 (vAt 0 h1.2 4) (WK .u64 (WK .i64 (32 - 25)))))))) + (xorK .u32 (andK .u32 (vAt 0 h1.2 4) (vAt 0 h1.2 5)) (andK .u32 (xorK .u32 4294967295 (vAt 0 h1.2 4)) (vAt 0 h1.2 6))))) + (vAt 0 ⟨#[1116352408, 1899447441, 3049323471, 3921009573, 961987163, 1508970993, 2453635748, 2870763221, 3624381080, 310598401, 607225278, 1426881987, 1925078388, 2162078206, 2614888103, 3248222580, 3835390401, 4022224774, 264347078, 604807628, 770255983, 1249150122, 1555081692, 1996064986, 2554220882, 2821834349, 2952996808, 3210313671, 3336571891, 3584528711, 113926993, 338241895, 666307205, 773529912, 1294757372, 1396182291, 1695183700, 1986661051, 2177026350, 2456956037, 2730485921, 2820302411, 3259730800, 3345764771, 3516065817, 3600352804, 4094571909, 275423344, 430227734, 506948616, 659060556, 883997877, 958139571, 1322822218, 1537002063, 1747873779, 1955562222, 2024104815, 2227730452, 2361852424, 2428436474, 2756734187, 3204031479, 3329325298], rfl⟩ h1.1))) + (vAt 0 r0 h1.1))) + (WK .u32 ((xorK .u32 (xorK .u32 (orK .u32 (shrK .u32 (vAt 0 h1.2 0) (WK .u64 2)) (shlK .u32 (vAt 0 h1.2 0) (WK .u64 (WK .i64 (32 - 2))))) (orK .u32 (shrK .u32 (vAt 0 h1.2 0) (WK .u64 13)) (shlK .u32 (vAt 0 h1.2 0) (WK .u64 (WK .i64 (32 - 13)))))) (orK .u32 (shrK .u32 (vAt 0 h1.2 0) (WK .u64 22)) (shlK .u32 (vAt 0 h1.2 0) (WK .u64 (WK .i64 (32 - 22)))))) + (xorK .u32 (xorK .u32 (andK .u32 (vAt 0 h1.2 0) (vAt 0 h1.2 1)) (andK .u32 (vAt 0 h1.2 0) (vAt 0 h1.2 2))) (andK .u32 (vAt 0 h1.2 1) (vAt 0 h1.2 2))))))), (vAt 0 h1.2 0), (vAt 0 h1.2 1), (vAt 0 h1.2 2), (WK .u32 ((vAt 0 h1.2 3) + (WK .u32 ((WK .u32 ((WK .u32 ((WK .u32 ((vAt 0 h1.2 7) + (xorK .u32 (xorK .u32 (orK .u32 (shrK .u32 (vAt 0 h1.2 4) (WK .u64 6)) (shlK .u32 (vAt 0 h1.2 4) (WK .u64 (WK .i64 (32 - 6))))) (orK .u32 (shrK .u32 (vAt 0 h1.2 4) (WK .u64 11)) (shlK .u32 (vAt 0 h1.2 4) (WK .u64 (WK .i64 (32 - 11)))))) (orK .u32 (shrK .u32 (vAt 0 h1.2 4) (WK .u64 25)) (shlK .u32 (vAt 0 h1.2 4) (WK .u64 (WK .i64 (32 - 25)))))))) + (xorK .u32 (andK .u32 (vAt 0 h1.2 4) (vAt 0 h1.2 5)) (andK .u32 (xorK .u32 4294967295 (vAt 0 h1.2 4)) (vAt 0 h1.2 6))))) + (vAt 0 ⟨#[1116352408, 1899447441, 3049323471, 3921009573, 961987163, 1508970993, 2453635748, 2870763221, 3624381080, 310598401, 607225278, 1426881987, 1925078388, 2162078206, 2614888103, 3248222580, 3835390401, 4022224774, 264347078, 604807628, 770255983, 1249150122, 1555081692, 1996064986, 2554220882, 2821834349, 2952996808, 3210313671, 3336571891, 3584528711, 113926993, 338241895, 666307205, 773529912, 1294757372, 1396182291, 1695183700, 1986661051, 2177026350, 2456956037, 2730485921, 2820302411, 3259730800, 3345764771, 3516065817, 3600352804, 4094571909, 275423344, 430227734, 506948616, 659060556, 883997877, 958139571, 1322822218, 1537002063, 1747873779, 1955562222, 2024104815, 2227730452, 2361852424, 2428436474, 2756734187, 3204031479, 3329325298], rfl⟩ h1.1))) + (vAt 0 r0 h1.1))))), (vAt 0 h1.2 4), (vAt 0 h1.2 5), (vAt 0 h1.2 6)], rfl⟩)))))))))))))))))))))))))))))))))) (some (.inr (h1.2)))) ((0, x.1))).bind fun r1 => (loopK (H := Int × (Vector Int 8)) (E := (Vector Int 8)) k (fun h2 => condO (ilt h2.1 8) (guardO ((inR h2.1 8)) (guardO ((inR h2.1 8)) (guardO ((inR h2.1 8)) (some (.inl (((WK .i64 (h2.1 + 1)), (vSet h2.2 h2.1 (WK .u32 ((vAt 0 h2.2 h2.1) + (vAt 0 x.1 h2.1))))))))))) (some (.inr (h2.2)))) ((0, r1))).bind fun r2 => some (r2)
noncomputable def L_ref02_Step_ : Con := ⟨57, ⟨[(0, .v (.a (.fl T2))), (1, .v (.a (.fl T0)))], [], []⟩, [⟨[(100000, .v (.a (.fl T2)))], [], []⟩], ref02_Step⟩
theorem ok_ref02_Step : ConOk Tryd.prog L_ref02_Step_ := con_of (a := mkCon Tryd.prog G23 inl bk 57 ⟨[(0, .v (.a (.fl T2))), (1, .v (.a (.fl T0)))], [], []⟩ ⟨[(.ret, ⟨[(100000, .v (.a (.fl T2)))], [], []⟩)], [], []⟩ (.n (.l ⟨[(.normal, ⟨[(7, .v (.a (.fl (.int .i64))))], [(5, .box 105 [.fl T1])], []⟩)], [5], []⟩ ⟨[(.exit 0, ⟨[], [(5, .box 105 [.fl T1])], []⟩)], [5], []⟩ [.n (.b [.n (.b [.nil, .d [0, 1, 2, 3, 4, 5] [] (.nil)]), .nil])] [.n (.l ⟨[(.normal, ⟨[(13, .v (.a (.fl (.int .i64))))], [(6, .box 94 [.fl T2])], []⟩)], [6], []⟩ ⟨[(.exit 2, ⟨[], [(6, .box 94 [.fl T2])], []⟩)], [6], []⟩ [.n (.b [.d [0, 1, 2, 3, 4, 5, 6] [] (.d [0, 1, 2, 3, 4, 5, 6] [] (.nil)), .nil])] [.n (.l ⟨[(.normal, ⟨[(18, .v (.a (.fl (.int .i64))))], [(6, .box 94 [.fl T2])], []⟩)], [6], []⟩ ⟨[(.exit 4, ⟨[], [(6, .box 94 [.fl T2])], []⟩)], [6], []⟩ [.n (.b [.d [0, 1, 2, 3, 4, 5, 6] [] (.nil), .nil])] [.nil])])]))) (by kernel_rfl) (mkCon_ok follows bk_ok okG23 (by kernel_rfl))
noncomputable def G24 : List Con := L_ref02_Step_ :: G23
theorem okG24 : ∀ c ∈ G24, ConOk Tryd.prog c := forall_cons ok_ref02_Step okG23
/-- scrinium/scriniumref02.Of -/
def ref02_Of (k : Nat) (x : ByteArray) : Option ((Vector Int 32)) :=
  guardO ((catOk x ⟨#[128]⟩)) ((loopK (H := ByteArray) (E := ByteArray) k (fun h0 => guardO ((nz 64)) (condO (ine (Int.tmod (blen h0) 64) 56) (guardO ((catOk h0 ⟨#[0]⟩)) (some (.inl ((h0 ++ ⟨#[0]⟩))))) (some (.inr (h0))))) ((x ++ ⟨#[128]⟩))).bind fun r0 => (loopK (H := ByteArray × Int) (E := ByteArray) k (fun h1 => condO (ige h1.2 0) (guardO ((nn (WK .u64 (WK .i64 (8 * h1.2))))) (guardO ((catOk h1.1 (strOfNums ([(WK .u8 (shrK .u64 (WK .u64 ((WK .u64 (blen x)) * 8)) (WK .u64 (WK .i64 (8 * h1.2)))))] : List Int)))) (some (.inl (((h1.1 ++ (strOfNums ([(WK .u8 (shrK .u64 (WK .u64 ((WK .u64 (blen x)) * 8)) (WK .u64 (WK .i64 (8 * h1.2)))))] : List Int))), (WK .i64 (h1.2 - 1)))))))) (some (.inr (h1.1)))) ((r0, 7))).bind fun r1 => (loopK (H := Int × (Vector Int 8)) (E := (Vector Int 8)) k (fun h2 => condO (ilt h2.1 (blen r1)) ((loopK (H := Int × (Vector Int 16)) (E := (Vector Int 16)) k (fun h3 => condO (ilt h3.1 64) (guardO ((nz 4)) (guardO ((nz 4)) (guardO ((inR (WK .i64 (Int.tdiv h3.1 4)) 16)) (guardO ((inR (WK .i64 (h2.1 + h3.1)) (blen r1))) (guardO ((inR (WK .i64 (Int.tdiv h3.1 4)) 16)) (some (.inl (((WK .i64 (h3.1 + 1)), (vSet h3.2 (WK .i64 (Int.tdiv h3.1 4)) (WK .u32 ((WK .u32 ((vAt 0 h3.2 (WK .i64 (Int.tdiv h3.1 4))) * 256)) + (WK .u32 (sAt r1 (WK .i64 (h2.1 + h3.1)))))))))))))))) (some (.inr (h3.2)))) ((0, (Vector.replicate 16 0)))).bind fun r3 => (ref02_Step k (h2.2, r3)).bind fun r4 => some (.inl (((WK .i64 (h2.1 + 64)), r4)))) (some (.inr (h2.2)))) ((0, ⟨#[1779033703, 3144134277, 1013904242, 2773480762, 1359893119, 2600822924, 528734635, 1541459225], rfl⟩))).bind fun r2 => (loopK (H := Int × (Vector Int 32)) (E := (Vector Int 32)) k (fun h3 => condO (ilt h3.1 32) (guardO ((nz 4)) (guardO ((inR (WK .i64 (Int.tdiv h3.1 4)) 8)) (guardO ((nz 4)) (guardO ((nn (WK .u64 (WK .i64 (24 - (WK .i64 (8 * (Int.tmod h3.1 4)))))))) (guardO ((inR h3.1 32)) (some (.inl (((WK .i64 (h3.1 + 1)), (vSet h3.2 h3.1 (WK .u8 (shrK .u32 (vAt 0 r2 (WK .i64 (Int.tdiv h3.1 4))) (WK .u64 (WK .i64 (24 - (WK .i64 (8 * (Int.tmod h3.1 4)))))))))))))))))) (some (.inr (h3.2)))) ((0, (Vector.replicate 32 0)))).bind fun r3 => some (r3))
noncomputable def L_ref02_Of_ : Con := ⟨36, ⟨[(0, .v (.a (.fl .str)))], [], []⟩, [⟨[(100000, .v (.a (.fl T3)))], [], []⟩], ref02_Of⟩
theorem ok_ref02_Of : ConOk Tryd.prog L_ref02_Of_ := con_of (a := mkCon Tryd.prog G24 inl bk 36 ⟨[(0, .v (.a (.fl .str)))], [], []⟩ ⟨[(.ret, ⟨[(100000, .v (.a (.fl T3)))], [], []⟩)], [], []⟩ (.n (.l ⟨[(.normal, ⟨[(3, .v (.a (.fl .str)))], [], []⟩)], [], []⟩ ⟨[(.exit 0, ⟨[(3, .v (.a (.fl .str)))], [], []⟩)], [], []⟩ [.n (.nil)] [.n (.l ⟨[(.normal, ⟨[(3, .v (.a (.fl .str))), (5, .v (.a (.fl (.int .i64))))], [], []⟩)], [], []⟩ ⟨[(.exit 2, ⟨[(3, .v (.a (.fl .str)))], [], []⟩)], [], []⟩ [.n (.nil)] [.n (.l ⟨[(.normal, ⟨[(7, .v (.a (.fl (.int .i64))))], [(2, .box 94 [.fl T2])], []⟩)], [2], []⟩ ⟨[(.exit 4, ⟨[], [(2, .box 94 [.fl T2])], []⟩)], [2], []⟩ [.n (.b [.l ⟨[(.normal, ⟨[(9, .v (.a (.fl (.int .i64))))], [(3, .box 96 [.fl T0])], []⟩)], [3], []⟩ ⟨[(.exit 6, ⟨[], [(3, .box 96 [.fl T0])], []⟩)], [3], []⟩ [.n (.b [.d [0, 1, 2, 3] [] (.nil), .nil])] [.nil], .nil])] [.n (.l ⟨[(.normal, ⟨[(11, .v (.a (.fl (.int .i64))))], [(3, .box 40 [.fl T3])], []⟩)], [3], []⟩ ⟨[(.exit 8, ⟨[], [(3, .box 40 [.fl T3])], []⟩)], [3], []⟩ [.n (.nil)] [.nil])])])]))) (by kernel_rfl) (mkCon_ok follows bk_ok okG24 (by kernel_rfl))
noncomputable def G25 : List Con := L_ref02_Of_ :: G24
theorem okG25 : ∀ c ∈ G25, ConOk Tryd.prog c := forall_cons ok_ref02_Of okG24
/-- scrinium/scriniumref03.Pad -/
def ref03_Pad (k : Nat) (x : ByteArray) : Option (ByteArray) :=
  (condO (igt (blen x) 64) ((ref02_Of k x).bind fun r0 => some ((strOfNums (Vector.toList r0)))) (some (x)) : Option (ByteArray)).bind fun r0 => (loopK (H := ByteArray) (E := ByteArray) k (fun h1 => condO (ilt (blen h1) 64) (guardO ((catOk h1 ⟨#[0]⟩)) (some (.inl ((h1 ++ ⟨#[0]⟩))))) (some (.inr (h1)))) (r0)).bind fun r1 => some (r1)
noncomputable def L_ref03_Pad_ : Con := ⟨46, ⟨[(0, .v (.a (.fl .str)))], [], []⟩, [⟨[(100000, .v (.a (.fl .str)))], [], []⟩], ref03_Pad⟩
theorem ok_ref03_Pad : ConOk Tryd.prog L_ref03_Pad_ := con_of (a := mkCon Tryd.prog G25 inl bk 46 ⟨[(0, .v (.a (.fl .str)))], [], []⟩ ⟨[(.ret, ⟨[(100000, .v (.a (.fl .str)))], [], []⟩)], [], []⟩ (.j ⟨[(.normal, ⟨[(0, .v (.a (.fl .str)))], [], []⟩)], [], []⟩ (.nil) [.n (.l ⟨[(.normal, ⟨[(0, .v (.a (.fl .str)))], [], []⟩)], [], []⟩ ⟨[(.exit 0, ⟨[(0, .v (.a (.fl .str)))], [], []⟩)], [], []⟩ [.n (.nil)] [.nil])])) (by kernel_rfl) (mkCon_ok follows bk_ok okG25 (by kernel_rfl))
noncomputable def G26 : List Con := L_ref03_Pad_ :: G25
theorem okG26 : ∀ c ∈ G26, ConOk Tryd.prog c := forall_cons ok_ref03_Pad okG25
/-- scrinium/scriniumref03.xor -/
def ref03_xor (k : Nat) (x : ByteArray × Int) : Option (ByteArray) :=
  guardO ((mkOk (blen x.1) (blen x.1) 1)) ((loopK (H := Int × (List Int)) (E := (List Int)) k (fun h0 => condO (ilt h0.1 (blen x.1)) (guardO ((inR h0.1 (blen x.1))) (guardO ((inR h0.1 (llen h0.2))) (some (.inl (((WK .i64 (h0.1 + 1)), (lset h0.2 h0.1 (xorK .u8 (sAt x.1 h0.1) x.2)))))))) (some (.inr (h0.2)))) ((0, (lrep (blen x.1) (0 : Int))))).bind fun r0 => some ((strOfNums r0)))
noncomputable def L_ref03_xor_ : Con := ⟨47, ⟨[(0, .v (.a (.fl .str))), (1, .v (.a (.fl (.int .u8))))], [], []⟩, [⟨[(100000, .v (.a (.fl .str)))], [], []⟩], ref03_xor⟩
theorem ok_ref03_xor : ConOk Tryd.prog L_ref03_xor_ := con_of (a := mkCon Tryd.prog G26 inl bk 47 ⟨[(0, .v (.a (.fl .str))), (1, .v (.a (.fl (.int .u8))))], [], []⟩ ⟨[(.ret, ⟨[(100000, .v (.a (.fl .str)))], [], []⟩)], [], []⟩ (.n (.l ⟨[(.normal, ⟨[(6, .v (.a (.fl (.int .i64))))], [(0, .row 5 (.int .u8) .own)], []⟩)], [0], [0]⟩ ⟨[(.exit 0, ⟨[], [(0, .row 5 (.int .u8) .own)], []⟩)], [0], [0]⟩ [.n (.nil)] [.nil]))) (by kernel_rfl) (mkCon_ok follows bk_ok okG26 (by kernel_rfl))
noncomputable def G27 : List Con := L_ref03_xor_ :: G26
theorem okG27 : ∀ c ∈ G27, ConOk Tryd.prog c := forall_cons ok_ref03_xor okG26
/-- scrinium/scriniumref03.Of -/
def ref03_Of (k : Nat) (x : ByteArray × ByteArray) : Option ((Vector Int 32)) :=
  (ref03_Pad k x.1).bind fun r0 => (ref03_xor k (r0, 54)).bind fun r1 => guardO ((catOk r1 x.2)) ((ref02_Of k (r1 ++ x.2)).bind fun r2 => (ref03_xor k (r0, 92)).bind fun r3 => guardO ((catOk r3 (strOfNums (Vector.toList r2)))) ((ref02_Of k (r3 ++ (strOfNums (Vector.toList r2)))).bind fun r4 => some (r4)))
noncomputable def L_ref03_Of_ : Con := ⟨30, ⟨[(0, .v (.a (.fl .str))), (1, .v (.a (.fl .str)))], [], []⟩, [⟨[(100000, .v (.a (.fl T3)))], [], []⟩], ref03_Of⟩
theorem ok_ref03_Of : ConOk Tryd.prog L_ref03_Of_ := con_of (a := mkCon Tryd.prog G27 inl bk 30 ⟨[(0, .v (.a (.fl .str))), (1, .v (.a (.fl .str)))], [], []⟩ ⟨[(.ret, ⟨[(100000, .v (.a (.fl T3)))], [], []⟩)], [], []⟩ (.d [0, 1] [] (.nil))) (by kernel_rfl) (mkCon_ok follows bk_ok okG27 (by kernel_rfl))
noncomputable def G28 : List Con := L_ref03_Of_ :: G27
theorem okG28 : ∀ c ∈ G28, ConOk Tryd.prog c := forall_cons ok_ref03_Of okG27
/-- scrinium/scriniumref16.Stone -/
def ref16_Stone (k : Nat) (x : ByteArray × Int × Int × (Vector Int 32) × Int) : Option (Int × Int × (Vector Int 32) × Int × (Vector Int 32)) :=
  (ref16_stoneSays k (x.2.1, x.2.2.1, x.2.2.2.1, x.2.2.2.2, (Vector.replicate 32 0))).bind fun r0 => (condO r0.2 ((ref03_Of k (x.1, r0.1)).bind fun r1 => some ((x.2.1, x.2.2.1, x.2.2.2.1, x.2.2.2.2, r1))) (some ((x.2.1, x.2.2.1, x.2.2.2.1, x.2.2.2.2, (Vector.replicate 32 0)))) : Option (Int × Int × (Vector Int 32) × Int × (Vector Int 32))).bind fun r1 => some ((r1.1, r1.2.1, r1.2.2.1, r1.2.2.2.1, r1.2.2.2.2))
noncomputable def L_ref16_Stone_ : Con := ⟨14, ⟨[(0, .v (.a (.fl .str))), (1, .v (.st [.fl (.int .i64), .fl (.int .i64), .fl T3])), (2, .v (.a (.fl (.int .i64))))], [], []⟩, [⟨[(100000, .v (.st [.fl (.int .i64), .fl (.int .i64), .fl T3, .fl (.int .i64), .fl T3]))], [], []⟩], ref16_Stone⟩
theorem ok_ref16_Stone : ConOk Tryd.prog L_ref16_Stone_ := con_of (a := mkCon Tryd.prog G28 inl bk 14 ⟨[(0, .v (.a (.fl .str))), (1, .v (.st [.fl (.int .i64), .fl (.int .i64), .fl T3])), (2, .v (.a (.fl (.int .i64))))], [], []⟩ ⟨[(.ret, ⟨[(100000, .v (.st [.fl (.int .i64), .fl (.int .i64), .fl T3, .fl (.int .i64), .fl T3]))], [], []⟩)], [], []⟩ (.j ⟨[(.normal, ⟨[], [(2, .box 47 [.fl (.int .i64), .fl (.int .i64), .fl T3, .fl (.int .i64), .fl T3])], []⟩)], [2], []⟩ (.nil) [.nil])) (by kernel_rfl) (mkCon_ok follows bk_ok okG28 (by kernel_rfl))
noncomputable def G29 : List Con := L_ref16_Stone_ :: G28
theorem okG29 : ∀ c ∈ G29, ConOk Tryd.prog c := forall_cons ok_ref16_Stone okG28
/-- strings.Join -/
abbrev strings_Join : Nat → (ByteArray × (List ByteArray)) → Option (ByteArray) := L_strings_Join
noncomputable def L_strings_Join_ : Con := ⟨63, ⟨[(0, .v (.a (.sl 0))), (1, .v (.a (.fl .str)))], [], [.row 9 .str .lent]⟩, [⟨[(100000, .v (.a (.fl .str)))], [], []⟩], strings_Join⟩
theorem ok_strings_Join : ConOk Tryd.prog L_strings_Join_ := L_strings_Join_ok
noncomputable def G30 : List Con := L_strings_Join_ :: G29
theorem okG30 : ∀ c ∈ G30, ConOk Tryd.prog c := forall_cons ok_strings_Join okG29
/-- scrinium/seal.FreezeBytes -/
def seal_FreezeBytes (k : Nat) (x : Int × Int × (Vector Int 32)) : Option (ByteArray × Int) :=
  condO (ige x.1 0) (condO (!(ile x.1 1125899906842624)) (some ((str0, 1))) (condO (ieq x.2.1 0) (some ((str0, 1))) (condO (ige x.2.1 0) (condO (!(ile x.2.1 4000)) (some ((str0, 1))) ((octet_Put k (WK .u64 x.1)).bind fun r0 => (octet_Put k (WK .u64 x.2.1)).bind fun r1 => (octet_Put k (WK .u64 (blen (strOfNums (Vector.toList x.2.2))))).bind fun r2 => guardO ((catOk r2 (strOfNums (Vector.toList x.2.2)))) ((strings_Join k (str0, ([⟨#[70]⟩, r0, r1, (r2 ++ (strOfNums (Vector.toList x.2.2)))] : List ByteArray))).bind fun r3 => some ((r3, 0))))) (some ((str0, 1)))))) (some ((str0, 1)))
noncomputable def L_seal_FreezeBytes_ : Con := ⟨59, ⟨[(0, .v (.st [.fl (.int .i64), .fl (.int .i64), .fl T3]))], [], []⟩, [⟨[(100000, .v (.a (.fl .str))), (100001, .v (.a (.fl (.int .i64))))], [], []⟩], seal_FreezeBytes⟩
theorem ok_seal_FreezeBytes : ConOk Tryd.prog L_seal_FreezeBytes_ := con_of (a := mkCon Tryd.prog G30 inl bk 59 ⟨[(0, .v (.st [.fl (.int .i64), .fl (.int .i64), .fl T3]))], [], []⟩ ⟨[(.ret, ⟨[(100000, .v (.a (.fl .str))), (100001, .v (.a (.fl (.int .i64))))], [], []⟩)], [], []⟩ (.n (.b [.b [.nil, .b [.nil, .b [.b [.nil, .d [0] [] (.nil)], .nil]]], .nil]))) (by kernel_rfl) (mkCon_ok follows bk_ok okG30 (by kernel_rfl))
noncomputable def G31 : List Con := L_seal_FreezeBytes_ :: G30
theorem okG31 : ∀ c ∈ G31, ConOk Tryd.prog c := forall_cons ok_seal_FreezeBytes okG30
/-- scrinium/seal.stoneSays -/
def seal_stoneSays (k : Nat) (x : Int × Int × (Vector Int 32) × Int × (Vector Int 32)) : Option (ByteArray × Int) :=
  (seal_FreezeBytes k (x.1, x.2.1, x.2.2.1)).bind fun r0 => condO (ine r0.2 0) (some ((str0, 1))) (condO (ige x.2.2.2.1 0) (condO (!(ile x.2.2.2.1 1125899906842624)) (some ((str0, 1))) ((octet_Put k (WK .u64 (blen r0.1))).bind fun r1 => guardO ((catOk r1 r0.1)) ((octet_Put k (WK .u64 x.2.2.2.1)).bind fun r2 => (strings_Join k (str0, ([⟨#[84]⟩, (r1 ++ r0.1), r2] : List ByteArray))).bind fun r3 => some ((r3, 0))))) (some ((str0, 1))))
noncomputable def L_seal_stoneSays_ : Con := ⟨40, ⟨[(0, .v (.st [.fl (.int .i64), .fl (.int .i64), .fl T3, .fl (.int .i64), .fl T3]))], [], []⟩, [⟨[(100000, .v (.a (.fl .str))), (100001, .v (.a (.fl (.int .i64))))], [], []⟩], seal_stoneSays⟩
theorem ok_seal_stoneSays : ConOk Tryd.prog L_seal_stoneSays_ := con_of (a := mkCon Tryd.prog G31 inl bk 40 ⟨[(0, .v (.st [.fl (.int .i64), .fl (.int .i64), .fl T3, .fl (.int .i64), .fl T3]))], [], []⟩ ⟨[(.ret, ⟨[(100000, .v (.a (.fl .str))), (100001, .v (.a (.fl (.int .i64))))], [], []⟩)], [], []⟩ (.n (.b [.nil, .b [.b [.nil, .d [0] [] (.nil)], .nil]]))) (by kernel_rfl) (mkCon_ok follows bk_ok okG31 (by kernel_rfl))
noncomputable def G32 : List Con := L_seal_stoneSays_ :: G31
theorem okG32 : ∀ c ∈ G32, ConOk Tryd.prog c := forall_cons ok_seal_stoneSays okG31
/-- scrinium/seal.StoneBytes -/
def seal_StoneBytes (k : Nat) (x : Int × Int × (Vector Int 32) × Int × (Vector Int 32)) : Option (ByteArray × Int) :=
  (seal_stoneSays k (x.1, x.2.1, x.2.2.1, x.2.2.2.1, x.2.2.2.2)).bind fun r0 => condO (ine r0.2 0) (some ((str0, r0.2))) ((octet_Put k (WK .u64 (blen (strOfNums (Vector.toList x.2.2.2.2))))).bind fun r1 => guardO ((catOk r1 (strOfNums (Vector.toList x.2.2.2.2)))) ((strings_Join k (str0, ([r0.1, (r1 ++ (strOfNums (Vector.toList x.2.2.2.2)))] : List ByteArray))).bind fun r2 => some ((r2, 0))))
noncomputable def L_seal_StoneBytes_ : Con := ⟨28, ⟨[(0, .v (.st [.fl (.int .i64), .fl (.int .i64), .fl T3, .fl (.int .i64), .fl T3]))], [], []⟩, [⟨[(100000, .v (.a (.fl .str))), (100001, .v (.a (.fl (.int .i64))))], [], []⟩], seal_StoneBytes⟩
theorem ok_seal_StoneBytes : ConOk Tryd.prog L_seal_StoneBytes_ := con_of (a := mkCon Tryd.prog G32 inl bk 28 ⟨[(0, .v (.st [.fl (.int .i64), .fl (.int .i64), .fl T3, .fl (.int .i64), .fl T3]))], [], []⟩ ⟨[(.ret, ⟨[(100000, .v (.a (.fl .str))), (100001, .v (.a (.fl (.int .i64))))], [], []⟩)], [], []⟩ (.n (.nil))) (by kernel_rfl) (mkCon_ok follows bk_ok okG32 (by kernel_rfl))
noncomputable def G33 : List Con := L_seal_StoneBytes_ :: G32
theorem okG33 : ∀ c ∈ G33, ConOk Tryd.prog c := forall_cons ok_seal_StoneBytes okG32
/-- (*scrinium/shard.Shard).Prune -/
def shard_Shard_Prune (k : Nat) (x : Int × Int × (Vector Int 32) × Int × (Vector Int 32) × Int × Int × Int × Int × (Vector Int 32) × Int × (Vector Int 32) × (Vector Int 64) × (List (Vector Int 32)) × (List (Int × (Int × (Int × ByteArray)))) × Int × (List (Vector Int 32))) : Option (Int × Int × Int × Int × Int × (Vector Int 32) × Int × (Vector Int 32) × (List (Vector Int 32)) × (List (Int × (Int × (Int × ByteArray))))) :=
  condO (ine x.2.2.2.2.2.2.1 1) (some ((13, x.2.2.2.2.2.1, x.2.2.2.2.2.2.1, x.2.2.2.2.2.2.2.1, x.2.2.2.2.2.2.2.2.1, x.2.2.2.2.2.2.2.2.2.1, x.2.2.2.2.2.2.2.2.2.2.1, x.2.2.2.2.2.2.2.2.2.2.2.1, x.2.2.2.2.2.2.2.2.2.2.2.2.2.1, x.2.2.2.2.2.2.2.2.2.2.2.2.2.2.1))) ((seal_StoneBytes k (x.1, x.2.1, x.2.2.1, x.2.2.2.1, x.2.2.2.2.1)).bind fun r0 => condO (ine r0.2 0) (some ((1, x.2.2.2.2.2.1, x.2.2.2.2.2.2.1, x.2.2.2.2.2.2.2.1, x.2.2.2.2.2.2.2.2.1, x.2.2.2.2.2.2.2.2.2.1, x.2.2.2.2.2.2.2.2.2.2.1, x.2.2.2.2.2.2.2.2.2.2.2.1, x.2.2.2.2.2.2.2.2.2.2.2.2.2.1, x.2.2.2.2.2.2.2.2.2.2.2.2.2.2.1))) ((shard_Shard_says k (x.2.2.2.2.2.1, x.2.2.2.2.2.2.1, x.2.2.2.2.2.2.2.1, x.2.2.2.2.2.2.2.2.1, x.2.2.2.2.2.2.2.2.2.1, x.2.2.2.2.2.2.2.2.2.2.1, x.2.2.2.2.2.2.2.2.2.2.2.1, x.2.2.2.2.2.2.2.2.2.2.2.2.1, x.2.2.2.2.2.2.2.2.2.2.2.2.2.1, x.2.2.2.2.2.2.2.2.2.2.2.2.2.2.1, x.2.2.2.2.2.2.2.2.2.2.2.2.2.2.2.1, x.2.2.2.2.2.2.2.2.2.2.2.2.2.2.2.2)).bind fun r1 => condO (!((ieq x.1 r1.1) && ((ieq x.2.1 r1.2.1) && ((sameI 32 x.2.2.1 r1.2.2 (List.range 32)) && true)))) (some ((1, x.2.2.2.2.2.1, x.2.2.2.2.2.2.1, x.2.2.2.2.2.2.2.1, x.2.2.2.2.2.2.2.2.1, x.2.2.2.2.2.2.2.2.2.1, x.2.2.2.2.2.2.2.2.2.2.1, x.2.2.2.2.2.2.2.2.2.2.2.1, x.2.2.2.2.2.2.2.2.2.2.2.2.2.1, x.2.2.2.2.2.2.2.2.2.2.2.2.2.2.1))) (some ((0, x.2.2.2.2.2.1, 2, x.1, x.2.1, x.2.2.1, x.2.2.2.1, x.2.2.2.2.1, x.2.2.2.2.2.2.2.2.2.2.2.2.2.1, x.2.2.2.2.2.2.2.2.2.2.2.2.2.2.1)))))
noncomputable def L_shard_Shard_Prune_ : Con := ⟨13, ⟨[(0, .v (.a (.ptr 0 0))), (1, .v (.st [.fl (.int .i64), .fl (.int .i64), .fl T3, .fl (.int .i64), .fl T3])), (5000001, .v (.a (.ptr 1 0)))], [], [.box 62 [.fl (.int .i64), .fl (.int .i64), .sl 2, .sl 3, .ptr 4 0, .fl (.int .i64), .fl (.int .i64), .fl T3, .fl (.int .i64), .fl T3], .box 105 [.fl T1], .row 40 T3 .rd, .row 29 T5 .rd, .box 84 [.fl (.int .i64), .sl 5], .row 40 T3 .rd]⟩, [⟨[(100000, .v (.a (.fl (.int .i64))))], [(0, .box 62 [.fl (.int .i64), .fl (.int .i64), .sl 6, .sl 7, .ptr 4 0, .fl (.int .i64), .fl (.int .i64), .fl T3, .fl (.int .i64), .fl T3])], [.row 40 T3 .rd, .row 29 T5 .rd]⟩], shard_Shard_Prune⟩
theorem ok_shard_Shard_Prune : ConOk Tryd.prog L_shard_Shard_Prune_ := con_of (a := mkCon Tryd.prog G33 inl bk 13 ⟨[(0, .v (.a (.ptr 0 0))), (1, .v (.st [.fl (.int .i64), .fl (.int .i64), .fl T3, .fl (.int .i64), .fl T3])), (5000001, .v (.a (.ptr 1 0)))], [], [.box 62 [.fl (.int .i64), .fl (.int .i64), .sl 2, .sl 3, .ptr 4 0, .fl (.int .i64), .fl (.int .i64), .fl T3, .fl (.int .i64), .fl T3], .box 105 [.fl T1], .row 40 T3 .rd, .row 29 T5 .rd, .box 84 [.fl (.int .i64), .sl 5], .row 40 T3 .rd]⟩ ⟨[(.ret, ⟨[(100000, .v (.a (.fl (.int .i64))))], [(0, .box 62 [.fl (.int .i64), .fl (.int .i64), .sl 6, .sl 7, .ptr 4 0, .fl (.int .i64), .fl (.int .i64), .fl T3, .fl (.int .i64), .fl T3])], [.row 40 T3 .rd, .row 29 T5 .rd]⟩)], [0], [5]⟩ (.n (.b [.nil, .n (.d [0, 1, 2, 3, 4, 5, 6] [] (.b [.nil, .b [.nil, .d [1, 2, 3, 4, 5, 6, 7, 8, 9, 10, 11, 12] [] (.nil)]]))]))) (by kernel_rfl) (mkCon_ok follows bk_ok okG33 (by kernel_rfl))
noncomputable def G34 : List Con := L_shard_Shard_Prune_ :: G33
theorem okG34 : ∀ c ∈ G34, ConOk Tryd.prog c := forall_cons ok_shard_Shard_Prune okG33
/-- slices.Clone[[]scrinium/api.Record,scrinium/api.Record] -/
abbrev slices_Clone_2 : Nat → ((List (Int × (Int × (Int × ByteArray))))) → Option ((List (Int × (Int × (Int × ByteArray))))) := L_clone26
noncomputable def L_slices_Clone_2_ : Con := ⟨26, ⟨[(0, .v (.a (.sl 0)))], [], [.row 29 T5 .lent]⟩, [⟨[(100000, .v (.a (.sl 1)))], [], [.row 29 T5 .own]⟩], slices_Clone_2⟩
theorem ok_slices_Clone_2 : ConOk Tryd.prog L_slices_Clone_2_ := L_clone26_ok
noncomputable def G35 : List Con := L_slices_Clone_2_ :: G34
theorem okG35 : ∀ c ∈ G35, ConOk Tryd.prog c := forall_cons ok_slices_Clone_2 okG34
/-- (*scrinium/shard.Shard).Strip -/
def shard_Shard_Strip (k : Nat) (x : Int × Int × Int × Int × Int × (Vector Int 32) × Int × (Vector Int 32) × (List (Vector Int 32)) × (List (Int × (Int × (Int × ByteArray)))) × Int × (List (Vector Int 32))) : Option (Int × Int × Int × Int × Int × (Vector Int 32) × Int × (Vector Int 32) × (List (Vector Int 32)) × (List (Int × (Int × (Int × ByteArray))))) :=
  (condO (ieq x.2.2.1 2) (guardO ((cutOk4 0 (WK .i64 ((llen x.2.2.2.2.2.2.2.2.2.1) - (mnI (mxI x.1 0) (llen x.2.2.2.2.2.2.2.2.2.1)))) (llen x.2.2.2.2.2.2.2.2.2.1) (WK .i64 ((llen x.2.2.2.2.2.2.2.2.2.1) - (mnI (mxI x.1 0) (llen x.2.2.2.2.2.2.2.2.2.1)))))) ((slices_Clone_2 k (ltake (WK .i64 ((llen x.2.2.2.2.2.2.2.2.2.1) - (mnI (mxI x.1 0) (llen x.2.2.2.2.2.2.2.2.2.1)))) x.2.2.2.2.2.2.2.2.2.1)).bind fun r0 => some ((x.2.1, x.2.2.1, x.2.2.2.1, x.2.2.2.2.1, x.2.2.2.2.2.1, x.2.2.2.2.2.2.1, x.2.2.2.2.2.2.2.1, x.2.2.2.2.2.2.2.2.1, r0)))) (some ((x.2.1, x.2.2.1, x.2.2.2.1, x.2.2.2.2.1, x.2.2.2.2.2.1, x.2.2.2.2.2.2.1, x.2.2.2.2.2.2.2.1, x.2.2.2.2.2.2.2.2.1, x.2.2.2.2.2.2.2.2.2.1))) : Option (Int × Int × Int × Int × (Vector Int 32) × Int × (Vector Int 32) × (List (Vector Int 32)) × (List (Int × (Int × (Int × ByteArray)))))).bind fun r0 => some (((llen r0.2.2.2.2.2.2.2.2), r0.1, r0.2.1, r0.2.2.1, r0.2.2.2.1, r0.2.2.2.2.1, r0.2.2.2.2.2.1, r0.2.2.2.2.2.2.1, r0.2.2.2.2.2.2.2.1, r0.2.2.2.2.2.2.2.2))
noncomputable def L_shard_Shard_Strip_ : Con := ⟨10, ⟨[(0, .v (.a (.ptr 0 0))), (1, .v (.a (.fl (.int .i64))))], [], [.box 62 [.fl (.int .i64), .fl (.int .i64), .sl 1, .sl 2, .ptr 3 0, .fl (.int .i64), .fl (.int .i64), .fl T3, .fl (.int .i64), .fl T3], .row 40 T3 .rd, .row 29 T5 .rd, .box 84 [.fl (.int .i64), .sl 4], .row 40 T3 .rd]⟩, [⟨[(100000, .v (.a (.fl (.int .i64))))], [(0, .box 62 [.fl (.int .i64), .fl (.int .i64), .sl 5, .sl 6, .ptr 3 0, .fl (.int .i64), .fl (.int .i64), .fl T3, .fl (.int .i64), .fl T3])], [.row 40 T3 .rd, .row 29 T5 .rd]⟩], shard_Shard_Strip⟩
theorem ok_shard_Shard_Strip : ConOk Tryd.prog L_shard_Shard_Strip_ := con_of (a := mkCon Tryd.prog G35 inl bk 10 ⟨[(0, .v (.a (.ptr 0 0))), (1, .v (.a (.fl (.int .i64))))], [], [.box 62 [.fl (.int .i64), .fl (.int .i64), .sl 1, .sl 2, .ptr 3 0, .fl (.int .i64), .fl (.int .i64), .fl T3, .fl (.int .i64), .fl T3], .row 40 T3 .rd, .row 29 T5 .rd, .box 84 [.fl (.int .i64), .sl 4], .row 40 T3 .rd]⟩ ⟨[(.ret, ⟨[(100000, .v (.a (.fl (.int .i64))))], [(0, .box 62 [.fl (.int .i64), .fl (.int .i64), .sl 5, .sl 6, .ptr 3 0, .fl (.int .i64), .fl (.int .i64), .fl T3, .fl (.int .i64), .fl T3])], [.row 40 T3 .rd, .row 29 T5 .rd]⟩)], [0], [4]⟩ (.j ⟨[(.normal, ⟨[], [(0, .box 62 [.fl (.int .i64), .fl (.int .i64), .sl 5, .sl 6, .ptr 3 0, .fl (.int .i64), .fl (.int .i64), .fl T3, .fl (.int .i64), .fl T3])], [.row 40 T3 .rd, .row 29 T5 .rd]⟩)], [0], [4]⟩ (.n (.b [.d [0, 1, 2, 3, 4] [] (.nil), .nil])) [.n (.nil)])) (by kernel_rfl) (mkCon_ok follows bk_ok okG35 (by kernel_rfl))
noncomputable def G36 : List Con := L_shard_Shard_Strip_ :: G35
theorem okG36 : ∀ c ∈ G36, ConOk Tryd.prog c := forall_cons ok_shard_Shard_Strip okG35
/-- scrinium/scriniumlaw17.awake -/
def law17_awake (k : Nat) (x : (Vector Int 64)) : Option (Bool) :=
  condO (ilt 3 0) (some (false)) (condO (igt 3 1125899906842624) (some (false)) ((shard_Shard_Add k (30, ⟨#[97]⟩, 3, 0, 0, 0, (Vector.replicate 32 0), 0, (Vector.replicate 32 0), x, ([] : List (Vector Int 32)), ([] : List (Int × (Int × (Int × ByteArray)))), 0, ([] : List (Vector Int 32)))).bind fun r0 => (shard_Shard_Close k (r0.2.2.1, r0.2.2.2.1, r0.2.2.2.2.1, r0.2.2.2.2.2.1, r0.2.2.2.2.2.2.1, r0.2.2.2.2.2.2.2.1, r0.2.2.2.2.2.2.2.2.1, x, r0.2.2.2.2.2.2.2.2.2.2.1, r0.2.2.2.2.2.2.2.2.2.2.2.1, r0.2.2.2.2.2.2.2.2.2.1, r0.2.2.2.2.2.2.2.2.2.2.2.2)).bind fun r1 => (shard_Shard_Get k (0, r1.2.2.2.2.1, r1.2.2.2.2.2.1, r1.2.2.2.2.2.2.1, r1.2.2.2.2.2.2.2.1, r1.2.2.2.2.2.2.2.2.1, r1.2.2.2.2.2.2.2.2.2.1, r1.2.2.2.2.2.2.2.2.2.2.1, r1.2.2.2.2.2.2.2.2.2.2.2.1, r1.2.2.2.2.2.2.2.2.2.2.2.2, r0.2.2.2.2.2.2.2.2.2.1, r0.2.2.2.2.2.2.2.2.2.2.2.2)).bind fun r2 => (shard_Shard_Add k (31, ⟨#[98]⟩, r1.2.2.2.2.1, r1.2.2.2.2.2.1, r1.2.2.2.2.2.2.1, r1.2.2.2.2.2.2.2.1, r1.2.2.2.2.2.2.2.2.1, r1.2.2.2.2.2.2.2.2.2.1, r1.2.2.2.2.2.2.2.2.2.2.1, x, r1.2.2.2.2.2.2.2.2.2.2.2.1, r1.2.2.2.2.2.2.2.2.2.2.2.2, r0.2.2.2.2.2.2.2.2.2.1, r0.2.2.2.2.2.2.2.2.2.2.2.2)).bind fun r3 => (ref16_Stone k (⟨#[107, 101, 121]⟩, 4, 1, (Vector.replicate 32 0), 9)).bind fun r4 => (shard_Shard_Prune k (r4.1, r4.2.1, r4.2.2.1, r4.2.2.2.1, r4.2.2.2.2, r3.2.2.1, r3.2.2.2.1, r3.2.2.2.2.1, r3.2.2.2.2.2.1, r3.2.2.2.2.2.2.1, r3.2.2.2.2.2.2.2.1, r3.2.2.2.2.2.2.2.2.1, x, r3.2.2.2.2.2.2.2.2.2.2.1, r3.2.2.2.2.2.2.2.2.2.2.2.1, r3.2.2.2.2.2.2.2.2.2.1, r3.2.2.2.2.2.2.2.2.2.2.2.2)).bind fun r5 => (ref16_Stone k (⟨#[107, 101, 121]⟩, r1.1, r1.2.1, r1.2.2.1, 9)).bind fun r6 => (shard_Shard_Prune k (r6.1, r6.2.1, r6.2.2.1, r6.2.2.2.1, r6.2.2.2.2, r5.2.1, r5.2.2.1, r5.2.2.2.1, r5.2.2.2.2.1, r5.2.2.2.2.2.1, r5.2.2.2.2.2.2.1, r5.2.2.2.2.2.2.2.1, x, r5.2.2.2.2.2.2.2.2.1, r5.2.2.2.2.2.2.2.2.2, r3.2.2.2.2.2.2.2.2.2.1, r3.2.2.2.2.2.2.2.2.2.2.2.2)).bind fun r7 => (shard_Shard_Get k (0, r7.2.1, r7.2.2.1, r7.2.2.2.1, r7.2.2.2.2.1, r7.2.2.2.2.2.1, r7.2.2.2.2.2.2.1, r7.2.2.2.2.2.2.2.1, r7.2.2.2.2.2.2.2.2.1, r7.2.2.2.2.2.2.2.2.2, r3.2.2.2.2.2.2.2.2.2.1, r3.2.2.2.2.2.2.2.2.2.2.2.2)).bind fun r8 => condO (ieq r0.1 0) (condO (ieq r0.2.1 0) (condO (ieq r1.2.1 1) (condO (ieq r1.1 3) (condO (ieq r1.2.2.2.1 0) (condO (sEq r2.2.2.2.1 ⟨#[97]⟩) (condO (ieq r2.2.2.2.2 0) (condO (ieq r3.2.1 13) (condO (ieq r5.1 1) (condO (ieq r7.1 0) (condO (ieq r8.2.2.2.2 20) ((shard_Shard_Strip k (9, r7.2.1, r7.2.2.1, r7.2.2.2.1, r7.2.2.2.2.1, r7.2.2.2.2.2.1, r7.2.2.2.2.2.2.1, r7.2.2.2.2.2.2.2.1, r7.2.2.2.2.2.2.2.2.1, r7.2.2.2.2.2.2.2.2.2, r3.2.2.2.2.2.2.2.2.2.1, r3.2.2.2.2.2.2.2.2.2.2.2.2)).bind fun r9 => condO (ieq r9.1 0) (some ((ieq (llen r9.2.2.2.2.2.2.2.2.1) 1))) (some (false))) (some (false))) (some (false))) (some (false))) (some (false))) (some (false))) (some (false))) (some (false))) (some (false))) (some (false))) (some (false))) (some (false))))
noncomputable def L_law17_awake_ : Con := ⟨5, ⟨[(5000001, .v (.a (.ptr 0 0)))], [], [.box 105 [.fl T1]]⟩, [⟨[(100000, .v (.a (.fl .bool)))], [], []⟩], law17_awake⟩
theorem ok_law17_awake : ConOk Tryd.prog L_law17_awake_ := con_of (a := mkCon Tryd.prog G36 inl bk 5 ⟨[(5000001, .v (.a (.ptr 0 0)))], [], [.box 105 [.fl T1]]⟩ ⟨[(.ret, ⟨[(100000, .v (.a (.fl .bool)))], [], []⟩)], [], []⟩ (.n (.b [.n (.nil), .b [.n (.nil), .n (.b [.b [.b [.b [.b [.b [.b [.b [.b [.b [.b [.b [.n (.nil), .nil], .nil], .nil], .nil], .nil], .nil], .nil], .nil], .nil], .nil], .nil], .nil])]]))) (by kernel_rfl) (mkCon_ok follows bk_ok okG36 (by kernel_rfl))
noncomputable def G37 : List Con := L_law17_awake_ :: G36
theorem okG37 : ∀ c ∈ G37, ConOk Tryd.prog c := forall_cons ok_law17_awake okG36
/-- scrinium/scriniumlaw17.short -/
def law17_short (k : Nat) (x : ByteArray × Int) : Option (ByteArray) :=
  condO (igt (blen x.1) x.2) (guardO ((cutOk 0 x.2 (blen x.1))) (some ((scut x.1 0 x.2)))) (some (x.1))
noncomputable def L_law17_short_ : Con := ⟨9, ⟨[(0, .v (.a (.fl .str))), (1, .v (.a (.fl (.int .i64))))], [], []⟩, [⟨[(100000, .v (.a (.fl .str)))], [], []⟩], law17_short⟩
theorem ok_law17_short : ConOk Tryd.prog L_law17_short_ := con_of (a := mkCon Tryd.prog G37 inl bk 9 ⟨[(0, .v (.a (.fl .str))), (1, .v (.a (.fl (.int .i64))))], [], []⟩ ⟨[(.ret, ⟨[(100000, .v (.a (.fl .str)))], [], []⟩)], [], []⟩ (.n (.nil))) (by kernel_rfl) (mkCon_ok follows bk_ok okG37 (by kernel_rfl))
noncomputable def G38 : List Con := L_law17_short_ :: G37
theorem okG38 : ∀ c ∈ G38, ConOk Tryd.prog c := forall_cons ok_law17_short okG37
/-- scrinium/scriniumlaw17.grown -/
def law17_grown (k : Nat) (x : Int × (List (Int × (Int × (Int × ByteArray)))) × (Vector Int 64)) : Option ((Unit) ⊕ (Int × Int × Int × Int × (Vector Int 32) × Int × (Vector Int 32) × (List (Vector Int 32)) × (List (Int × (Int × (Int × ByteArray)))) × Int × (List (Vector Int 32)))) :=
  condO (ilt (andK .i64 x.1 1023) 0) (some (.inl ())) (condO (igt (andK .i64 x.1 1023) 1125899906842624) (some (.inl ())) ((loopK (H := Int × Int × Int × Int × Int × Int × (Vector Int 32) × Int × (Vector Int 32) × (List (Vector Int 32)) × (List (Vector Int 32)) × (List (Int × (Int × (Int × ByteArray))))) (E := (Int × Int × Int × Int × Int × (Vector Int 32) × Int × (Vector Int 32) × (List (Vector Int 32)) × (List (Vector Int 32)) × (List (Int × (Int × (Int × ByteArray))))) ⊕ (Int × Int × Int × Int × Int × (Vector Int 32) × Int × (Vector Int 32) × (List (Vector Int 32)) × (List (Vector Int 32)) × (List (Int × (Int × (Int × ByteArray)))))) k (fun h0 => condO (ilt h0.1 (llen x.2.1)) (condO (ilt h0.1 12) (guardO ((inR h0.1 (llen x.2.1))) (guardO ((inR h0.1 (llen x.2.1))) ((law17_short k ((at_ T5 x.2.1 h0.1).2.2.2, 60)).bind fun r1 => (shard_Shard_Add k ((andK .i64 (at_ T5 x.2.1 h0.1).2.1 1023), r1, h0.2.2.1, h0.2.2.2.1, h0.2.2.2.2.1, h0.2.2.2.2.2.1, h0.2.2.2.2.2.2.1, h0.2.2.2.2.2.2.2.1, h0.2.2.2.2.2.2.2.2.1, x.2.2, h0.2.2.2.2.2.2.2.2.2.2.1, h0.2.2.2.2.2.2.2.2.2.2.2, h0.2.1, h0.2.2.2.2.2.2.2.2.2.1)).bind fun r2 => condO (ine r2.1 h0.1) (some (.inr (.inl (r2.2.2.2.2.2.2.2.2.2.1, r2.2.2.1, r2.2.2.2.1, r2.2.2.2.2.1, r2.2.2.2.2.2.1, r2.2.2.2.2.2.2.1, r2.2.2.2.2.2.2.2.1, r2.2.2.2.2.2.2.2.2.1, r2.2.2.2.2.2.2.2.2.2.2.2.2, r2.2.2.2.2.2.2.2.2.2.2.1, r2.2.2.2.2.2.2.2.2.2.2.2.1)))) (condO (ine r2.2.1 0) (some (.inr (.inl (r2.2.2.2.2.2.2.2.2.2.1, r2.2.2.1, r2.2.2.2.1, r2.2.2.2.2.1, r2.2.2.2.2.2.1, r2.2.2.2.2.2.2.1, r2.2.2.2.2.2.2.2.1, r2.2.2.2.2.2.2.2.2.1, r2.2.2.2.2.2.2.2.2.2.2.2.2, r2.2.2.2.2.2.2.2.2.2.2.1, r2.2.2.2.2.2.2.2.2.2.2.2.1)))) (some (.inl (((WK .i64 (h0.1 + 1)), r2.2.2.2.2.2.2.2.2.2.1, r2.2.2.1, r2.2.2.2.1, r2.2.2.2.2.1, r2.2.2.2.2.2.1, r2.2.2.2.2.2.2.1, r2.2.2.2.2.2.2.2.1, r2.2.2.2.2.2.2.2.2.1, r2.2.2.2.2.2.2.2.2.2.2.2.2, r2.2.2.2.2.2.2.2.2.2.2.1, r2.2.2.2.2.2.2.2.2.2.2.2.1)))))))) (some (.inr (.inr ((h0.2.1, h0.2.2.1, h0.2.2.2.1, h0.2.2.2.2.1, h0.2.2.2.2.2.1, h0.2.2.2.2.2.2.1, h0.2.2.2.2.2.2.2.1, h0.2.2.2.2.2.2.2.2.1, h0.2.2.2.2.2.2.2.2.2.1, h0.2.2.2.2.2.2.2.2.2.2.1, h0.2.2.2.2.2.2.2.2.2.2.2)))))) (some (.inr (.inr ((h0.2.1, h0.2.2.1, h0.2.2.2.1, h0.2.2.2.2.1, h0.2.2.2.2.2.1, h0.2.2.2.2.2.2.1, h0.2.2.2.2.2.2.2.1, h0.2.2.2.2.2.2.2.2.1, h0.2.2.2.2.2.2.2.2.2.1, h0.2.2.2.2.2.2.2.2.2.2.1, h0.2.2.2.2.2.2.2.2.2.2.2)))))) ((0, 0, (andK .i64 x.1 1023), 0, 0, 0, (Vector.replicate 32 0), 0, (Vector.replicate 32 0), ([] : List (Vector Int 32)), ([] : List (Vector Int 32)), ([] : List (Int × (Int × (Int × ByteArray))))))).bind fun r0 => caseS r0 (fun r0 => some (.inl ())) (fun r0 => some (.inr ((r0.2.1, r0.2.2.1, r0.2.2.2.1, r0.2.2.2.2.1, r0.2.2.2.2.2.1, r0.2.2.2.2.2.2.1, r0.2.2.2.2.2.2.2.1, r0.2.2.2.2.2.2.2.2.2.1, r0.2.2.2.2.2.2.2.2.2.2, r0.1, r0.2.2.2.2.2.2.2.2.1))))))
noncomputable def L_law17_grown_ : Con := ⟨6, ⟨[(0, .v (.a (.fl (.int .i64)))), (1, .v (.a (.sl 0))), (5000001, .v (.a (.ptr 1 0)))], [], [.row 34 T5 .lent, .box 105 [.fl T1]]⟩, [⟨[(100000, .v (.a (.nilp)))], [], []⟩, ⟨[(100000, .v (.a (.ptr 2 0)))], [], [.box 62 [.fl (.int .i64), .fl (.int .i64), .sl 3, .sl 4, .ptr 5 0, .fl (.int .i64), .fl (.int .i64), .fl T3, .fl (.int .i64), .fl T3], .row 40 T3 .rd, .row 29 T5 .rd, .box 84 [.fl (.int .i64), .sl 6], .row 40 T3 .rd]⟩], law17_grown⟩
theorem ok_law17_grown : ConOk Tryd.prog L_law17_grown_ := con_of (a := mkCon Tryd.prog G38 inl bk 6 ⟨[(0, .v (.a (.fl (.int .i64)))), (1, .v (.a (.sl 0))), (5000001, .v (.a (.ptr 1 0)))], [], [.row 34 T5 .lent, .box 105 [.fl T1]]⟩ ⟨[(.ret, ⟨[(100000, .v (.a (.nilp)))], [], []⟩), (.ret, ⟨[(100000, .v (.a (.ptr 2 0)))], [], [.box 62 [.fl (.int .i64), .fl (.int .i64), .sl 3, .sl 4, .ptr 5 0, .fl (.int .i64), .fl (.int .i64), .fl T3, .fl (.int .i64), .fl T3], .row 40 T3 .rd, .row 29 T5 .rd, .box 84 [.fl (.int .i64), .sl 6], .row 40 T3 .rd]⟩)], [], [0]⟩ (.n (.b [.n (.nil), .b [.n (.nil), .n (.n (.l ⟨[(.normal, ⟨[(6, .v (.a (.fl (.int .i64))))], [(2, .box 84 [.fl (.int .i64), .sl 4]), (3, .box 62 [.fl (.int .i64), .fl (.int .i64), .sl 5, .sl 6, .ptr 2 0, .fl (.int .i64), .fl (.int .i64), .fl T3, .fl (.int .i64), .fl T3])], [.row 40 T3 .rd, .row 40 T3 .rd, .row 29 T5 .rd]⟩)], [2, 3], [0]⟩ ⟨[(.ret, ⟨[(4, .v (.a (.nilp)))], [(2, .box 84 [.fl (.int .i64), .sl 4]), (3, .box 62 [.fl (.int .i64), .fl (.int .i64), .sl 5, .sl 6, .ptr 2 0, .fl (.int .i64), .fl (.int .i64), .fl T3, .fl (.int .i64), .fl T3])], [.row 40 T3 .rd, .row 40 T3 .rd, .row 29 T5 .rd]⟩), (.exit 0, ⟨[], [(2, .box 84 [.fl (.int .i64), .sl 4]), (3, .box 62 [.fl (.int .i64), .fl (.int .i64), .sl 5, .sl 6, .ptr 2 0, .fl (.int .i64), .fl (.int .i64), .fl T3, .fl (.int .i64), .fl T3])], [.row 40 T3 .rd, .row 40 T3 .rd, .row 29 T5 .rd]⟩)], [2, 3], []⟩ [.n (.b [.b [.d [0, 1, 4, 5, 6] [] (.nil), .nil], .nil])] [.nil, .nil]))]]))) (by kernel_rfl) (mkCon_ok follows bk_ok okG38 (by kernel_rfl))
noncomputable def G39 : List Con := L_law17_grown_ :: G38
theorem okG39 : ∀ c ∈ G39, ConOk Tryd.prog c := forall_cons ok_law17_grown okG38
/-- scrinium/scriniumref15.Same -/
def ref15_Same (k : Nat) (x : (List (Int × (Int × (Int × ByteArray)))) × (List (Int × (Int × (Int × ByteArray))))) : Option (Bool) :=
  condO (ine (llen x.1) (llen x.2)) (some (false)) ((loopK (H := Int) (E := (Bool) ⊕ (Unit)) k (fun h0 => condO (ilt h0 (llen x.1)) (guardO ((inR h0 (llen x.1))) (guardO ((inR h0 (llen x.2))) (condO (!((ieq (at_ T5 x.1 h0).1 (at_ T5 x.2 h0).1) && ((ieq (at_ T5 x.1 h0).2.1 (at_ T5 x.2 h0).2.1) && ((ieq (at_ T5 x.1 h0).2.2.1 (at_ T5 x.2 h0).2.2.1) && ((sEq (at_ T5 x.1 h0).2.2.2 (at_ T5 x.2 h0).2.2.2) && true))))) (some (.inr (.inl false))) (some (.inl ((WK .i64 (h0 + 1)))))))) (some (.inr (.inr (()))))) (0)).bind fun r0 => caseS r0 (fun r0 => some (r0)) (fun r0 => some (true)))
noncomputable def L_ref15_Same_ : Con := ⟨16, ⟨[(0, .v (.a (.sl 0))), (1, .v (.a (.sl 1)))], [], [.row 29 T5 .lent, .row 29 T5 .lent]⟩, [⟨[(100000, .v (.a (.fl .bool)))], [], []⟩], ref15_Same⟩
theorem ok_ref15_Same : ConOk Tryd.prog L_ref15_Same_ := con_of (a := mkCon Tryd.prog G39 inl bk 16 ⟨[(0, .v (.a (.sl 0))), (1, .v (.a (.sl 1)))], [], [.row 29 T5 .lent, .row 29 T5 .lent]⟩ ⟨[(.ret, ⟨[(100000, .v (.a (.fl .bool)))], [], []⟩)], [], [0, 1]⟩ (.n (.b [.nil, .n (.l ⟨[(.normal, ⟨[(5, .v (.a (.fl (.int .i64))))], [], []⟩)], [], [0, 1]⟩ ⟨[(.ret, ⟨[(4, .v (.a (.fl .bool)))], [], []⟩), (.exit 0, ⟨[], [], []⟩)], [], []⟩ [.n (.b [.d [0, 1] [] (.nil), .nil])] [.nil, .nil])]))) (by kernel_rfl) (mkCon_ok follows bk_ok okG39 (by kernel_rfl))
noncomputable def G40 : List Con := L_ref15_Same_ :: G39
theorem okG40 : ∀ c ∈ G40, ConOk Tryd.prog c := forall_cons ok_ref15_Same okG39
/-- scrinium/scriniumlaw17.ShardGives -/
noncomputable def law17_ShardGives (k : Nat) (x : (List (Int × (Int × (Int × ByteArray)))) × (List Int) × (Vector Int 64)) : Option (Bool) :=
  (law17_awake k x.2.2).bind fun r0 => (law17_grown k (9, x.1, x.2.2)).bind fun r1 => caseS r1 (fun r1 => some (false)) (fun r1 => (loopK (H := Int) (E := (Bool) ⊕ (Unit)) k (fun h2 => condO (ilt h2 (llen r1.2.2.2.2.2.2.2.1)) ((shard_Shard_Get k (h2, r1.1, r1.2.1, r1.2.2.1, r1.2.2.2.1, r1.2.2.2.2.1, r1.2.2.2.2.2.1, r1.2.2.2.2.2.2.1, r1.2.2.2.2.2.2.2.1, r1.2.2.2.2.2.2.2.2.1, r1.2.2.2.2.2.2.2.2.2.1, r1.2.2.2.2.2.2.2.2.2.2)).bind fun r3 => guardO ((inR h2 (llen x.1))) (guardO ((inR h2 (llen x.1))) (bothO ((law17_short k ((at_ T5 x.1 h2).2.2.2, 60)).bind fun r4 => condO (ine r3.2.2.2.2 0) (some (.inr (.inl false))) (condO (!((ieq r3.1 9) && ((ieq r3.2.1 h2) && ((ieq r3.2.2.1 (andK .i64 (at_ T5 x.1 h2).2.1 1023)) && ((sEq r3.2.2.2.1 r4) && true))))) (some (.inr (.inl false))) (some (.inl ((WK .i64 (h2 + 1))))))) ((law17_short k ((at_ T5 x.1 h2).2.2.2, 60)).bind fun r4 => condO (ine r3.2.2.2.2 0) (some (.inr (.inl false))) (condO (!((ieq r3.1 9) && ((ieq r3.2.1 h2) && ((ieq r3.2.2.1 (andK .i64 (at_ T5 x.1 h2).2.1 1023)) && ((sEq r3.2.2.2.1 r4) && true))))) (some (.inr (.inl false))) (some (.inl ((WK .i64 (h2 + 1)))))))))) (some (.inr (.inr (()))))) (0)).bind fun r2 => caseS r2 (fun r2 => some (r2)) (fun r2 => condO (ieq (llen r1.2.2.2.2.2.2.2.1) 0) (condO r0 (some ((ieq (llen r1.2.2.2.2.2.2.2.1) 0))) (some (false))) ((shard_Shard_Strip k (3, r1.1, r1.2.1, r1.2.2.1, r1.2.2.2.1, r1.2.2.2.2.1, r1.2.2.2.2.2.1, r1.2.2.2.2.2.2.1, r1.2.2.2.2.2.2.2.1, r1.2.2.2.2.2.2.2.2.1, r1.2.2.2.2.2.2.2.2.2.1, r1.2.2.2.2.2.2.2.2.2.2)).bind fun r3 => condO (ine r3.1 (llen r1.2.2.2.2.2.2.2.1)) (condO r0 (some ((ieq (llen r1.2.2.2.2.2.2.2.1) 0))) (some (false))) ((slices_Clone_2 k r3.2.2.2.2.2.2.2.2.2).bind fun r4 => (shard_Shard_Close k (r3.2.1, r3.2.2.1, r3.2.2.2.1, r3.2.2.2.2.1, r3.2.2.2.2.2.1, r3.2.2.2.2.2.2.1, r3.2.2.2.2.2.2.2.1, x.2.2, r3.2.2.2.2.2.2.2.2.1, r3.2.2.2.2.2.2.2.2.2, r1.2.2.2.2.2.2.2.2.2.1, r1.2.2.2.2.2.2.2.2.2.2)).bind fun r5 => (shard_Shard_Strip k (3, r5.2.2.2.2.1, r5.2.2.2.2.2.1, r5.2.2.2.2.2.2.1, r5.2.2.2.2.2.2.2.1, r5.2.2.2.2.2.2.2.2.1, r5.2.2.2.2.2.2.2.2.2.1, r5.2.2.2.2.2.2.2.2.2.2.1, r5.2.2.2.2.2.2.2.2.2.2.2.1, r5.2.2.2.2.2.2.2.2.2.2.2.2, r1.2.2.2.2.2.2.2.2.2.1, r1.2.2.2.2.2.2.2.2.2.2)).bind fun r6 => condO (ine r6.1 (llen r1.2.2.2.2.2.2.2.1)) (some (false)) ((ref16_Stone k (str0, r5.1, r5.2.1, r5.2.2.1, 0)).bind fun r7 => (shard_Shard_Prune k (r7.1, r7.2.1, r7.2.2.1, r7.2.2.2.1, r7.2.2.2.2, r6.2.1, r6.2.2.1, r6.2.2.2.1, r6.2.2.2.2.1, r6.2.2.2.2.2.1, r6.2.2.2.2.2.2.1, r6.2.2.2.2.2.2.2.1, x.2.2, r6.2.2.2.2.2.2.2.2.1, r6.2.2.2.2.2.2.2.2.2, r1.2.2.2.2.2.2.2.2.2.1, r1.2.2.2.2.2.2.2.2.2.2)).bind fun r8 => condO (ine r8.1 0) (some (false)) ((loopK (H := Int × Int × Int × Int × Int × Int × (Vector Int 32) × Int × (Vector Int 32) × (List (Int × (Int × (Int × ByteArray)))) × (List (Vector Int 32)) × (List (Int × (Int × (Int × ByteArray))))) (E := (Bool × Int × Int × Int × Int × (Vector Int 32) × Int × (Vector Int 32) × (List (Vector Int 32)) × (List (Int × (Int × (Int × ByteArray))))) ⊕ (Int × Int × Int × Int × (Vector Int 32) × Int × (Vector Int 32) × (List (Vector Int 32)) × (List (Int × (Int × (Int × ByteArray)))))) k (fun h9 => condO (ilt h9.2.1 (llen x.2.1)) (condO (ilt h9.2.1 5) (guardO ((inR h9.2.1 (llen x.2.1))) ((condO (ilt (at_ (.int .i64) x.2.1 h9.2.1) 0) (some (0)) (some ((at_ (.int .i64) x.2.1 h9.2.1))) : Option (Int)).bind fun r10 => (condO (igt r10 h9.1) (some (h9.1)) (some (r10)) : Option (Int)).bind fun r11 => guardO ((inR h9.2.1 (llen x.2.1))) ((shard_Shard_Strip k ((at_ (.int .i64) x.2.1 h9.2.1), h9.2.2.1, h9.2.2.2.1, h9.2.2.2.2.1, h9.2.2.2.2.2.1, h9.2.2.2.2.2.2.1, h9.2.2.2.2.2.2.2.1, h9.2.2.2.2.2.2.2.2.1, h9.2.2.2.2.2.2.2.2.2.2.1, h9.2.2.2.2.2.2.2.2.2.2.2, r1.2.2.2.2.2.2.2.2.2.1, r1.2.2.2.2.2.2.2.2.2.2)).bind fun r12 => condO (ine r12.1 (WK .i64 (h9.1 - r11))) (some (.inr (.inl (false, r12.2.1, r12.2.2.1, r12.2.2.2.1, r12.2.2.2.2.1, r12.2.2.2.2.2.1, r12.2.2.2.2.2.2.1, r12.2.2.2.2.2.2.2.1, r12.2.2.2.2.2.2.2.2.1, r12.2.2.2.2.2.2.2.2.2)))) (condO (ine (llen r12.2.2.2.2.2.2.2.2.2) (WK .i64 (h9.1 - r11))) (some (.inr (.inl (false, r12.2.1, r12.2.2.1, r12.2.2.2.1, r12.2.2.2.2.1, r12.2.2.2.2.2.1, r12.2.2.2.2.2.2.1, r12.2.2.2.2.2.2.2.1, r12.2.2.2.2.2.2.2.2.1, r12.2.2.2.2.2.2.2.2.2)))) (condO (ine (llen r12.2.2.2.2.2.2.2.2.1) (llen r1.2.2.2.2.2.2.2.1)) (some (.inr (.inl (false, r12.2.1, r12.2.2.1, r12.2.2.2.1, r12.2.2.2.2.1, r12.2.2.2.2.2.1, r12.2.2.2.2.2.2.1, r12.2.2.2.2.2.2.2.1, r12.2.2.2.2.2.2.2.2.1, r12.2.2.2.2.2.2.2.2.2)))) ((shard_Shard_Get k (0, r12.2.1, r12.2.2.1, r12.2.2.2.1, r12.2.2.2.2.1, r12.2.2.2.2.2.1, r12.2.2.2.2.2.2.1, r12.2.2.2.2.2.2.2.1, r12.2.2.2.2.2.2.2.2.1, r12.2.2.2.2.2.2.2.2.2, r1.2.2.2.2.2.2.2.2.2.1, r1.2.2.2.2.2.2.2.2.2.2)).bind fun r13 => guardO ((cutOk4 0 (WK .i64 (h9.1 - r11)) (llen h9.2.2.2.2.2.2.2.2.2.1) (WK .i64 (h9.1 - r11)))) ((slices_Clone_2 k r12.2.2.2.2.2.2.2.2.2).bind fun r14 => (ref15_Same k (r14, (ltake (WK .i64 (h9.1 - r11)) h9.2.2.2.2.2.2.2.2.2.1))).bind fun r15 => condO (ine r13.2.2.2.2 20) (some (.inr (.inl (false, r12.2.1, r12.2.2.1, r12.2.2.2.1, r12.2.2.2.2.1, r12.2.2.2.2.2.1, r12.2.2.2.2.2.2.1, r12.2.2.2.2.2.2.2.1, r12.2.2.2.2.2.2.2.2.1, r12.2.2.2.2.2.2.2.2.2)))) (condO (!r15) (some (.inr (.inl (false, r12.2.1, r12.2.2.1, r12.2.2.2.1, r12.2.2.2.2.1, r12.2.2.2.2.2.1, r12.2.2.2.2.2.2.1, r12.2.2.2.2.2.2.2.1, r12.2.2.2.2.2.2.2.2.1, r12.2.2.2.2.2.2.2.2.2)))) (some (.inl (((WK .i64 (h9.1 - r11)), (WK .i64 (h9.2.1 + 1)), r12.2.1, r12.2.2.1, r12.2.2.2.1, r12.2.2.2.2.1, r12.2.2.2.2.2.1, r12.2.2.2.2.2.2.1, r12.2.2.2.2.2.2.2.1, h9.2.2.2.2.2.2.2.2.2.1, r12.2.2.2.2.2.2.2.2.1, r12.2.2.2.2.2.2.2.2.2)))))))))))) (some (.inr (.inr ((h9.2.2.1, h9.2.2.2.1, h9.2.2.2.2.1, h9.2.2.2.2.2.1, h9.2.2.2.2.2.2.1, h9.2.2.2.2.2.2.2.1, h9.2.2.2.2.2.2.2.2.1, h9.2.2.2.2.2.2.2.2.2.2.1, h9.2.2.2.2.2.2.2.2.2.2.2)))))) (some (.inr (.inr ((h9.2.2.1, h9.2.2.2.1, h9.2.2.2.2.1, h9.2.2.2.2.2.1, h9.2.2.2.2.2.2.1, h9.2.2.2.2.2.2.2.1, h9.2.2.2.2.2.2.2.2.1, h9.2.2.2.2.2.2.2.2.2.2.1, h9.2.2.2.2.2.2.2.2.2.2.2)))))) (((llen r1.2.2.2.2.2.2.2.1), 0, r8.2.1, r8.2.2.1, r8.2.2.2.1, r8.2.2.2.2.1, r8.2.2.2.2.2.1, r8.2.2.2.2.2.2.1, r8.2.2.2.2.2.2.2.1, r4, r8.2.2.2.2.2.2.2.2.1, r8.2.2.2.2.2.2.2.2.2))).bind fun r9 => caseS r9 (fun r9 => some (r9.1)) (fun r9 => some (r0))))))))
noncomputable def L_law17_ShardGives_ : Con := ⟨3, ⟨[(0, .v (.a (.sl 0))), (1, .v (.a (.sl 1))), (5000001, .v (.a (.ptr 2 0)))], [], [.row 34 T5 .lent, .row 3 (.int .i64) .lent, .box 105 [.fl T1]]⟩, [⟨[(100000, .v (.a (.fl .bool)))], [], []⟩], law17_ShardGives⟩
theorem ok_law17_ShardGives : ConOk Tryd.prog L_law17_ShardGives_ := con_of (a := mkCon Tryd.prog G40 inl bk 3 ⟨[(0, .v (.a (.sl 0))), (1, .v (.a (.sl 1))), (5000001, .v (.a (.ptr 2 0)))], [], [.row 34 T5 .lent, .row 3 (.int .i64) .lent, .box 105 [.fl T1]]⟩ ⟨[(.ret, ⟨[(100000, .v (.a (.fl .bool)))], [], []⟩)], [], [0, 1]⟩ (.b [.n (.nil), .n (.n (.n (.l ⟨[(.normal, ⟨[(8, .v (.a (.fl (.int .i64))))], [], []⟩)], [], [0, 1, 7, 8, 10]⟩ ⟨[(.ret, ⟨[(4, .v (.a (.fl .bool)))], [], []⟩), (.exit 0, ⟨[], [], []⟩)], [], [1, 7, 8, 10]⟩ [.n (.b [.d [0, 1, 2, 3, 4, 5, 6, 7, 8, 9, 10, 11, 12, 13, 14, 15, 16] [] (.nil), .nil])] [.nil, .n (.b [.nil, .b [.nil, .n (.n (.b [.nil, .b [.nil, .n (.l ⟨[(.normal, ⟨[(15, .v (.a (.fl (.int .i64)))), (16, .v (.a (.fl (.int .i64))))], [(6, .box 62 [.fl (.int .i64), .fl (.int .i64), .sl 44, .sl 45, .ptr 9 0, .fl (.int .i64), .fl (.int .i64), .fl T3, .fl (.int .i64), .fl T3]), (19, .row 29 T5 .rd)], [.row 40 T3 .rd, .row 29 T5 .rd]⟩)], [6, 19], [1, 10, 19]⟩ ⟨[(.ret, ⟨[(4, .v (.a (.fl .bool)))], [(6, .box 62 [.fl (.int .i64), .fl (.int .i64), .sl 44, .sl 45, .ptr 9 0, .fl (.int .i64), .fl (.int .i64), .fl T3, .fl (.int .i64), .fl T3]), (19, .gone)], [.row 40 T3 .rd, .row 29 T5 .rd]⟩), (.exit 2, ⟨[], [(6, .box 62 [.fl (.int .i64), .fl (.int .i64), .sl 44, .sl 45, .ptr 9 0, .fl (.int .i64), .fl (.int .i64), .fl T3, .fl (.int .i64), .fl T3]), (19, .gone)], [.row 40 T3 .rd, .row 29 T5 .rd]⟩)], [6, 19], [10]⟩ [.n (.b [.b [.j ⟨[(.normal, ⟨[(17, .v (.a (.fl (.int .i64))))], [], []⟩)], [], [1, 10, 19, 44, 45]⟩ (.nil) [.j ⟨[(.normal, ⟨[(17, .v (.a (.fl (.int .i64))))], [], []⟩)], [], [1, 10, 19, 44, 45]⟩ (.nil) [.n (.b [.nil, .n (.b [.nil, .n (.b [.nil, .d [0, 1, 2, 3, 4, 5, 6, 7, 8, 9, 10, 11, 12, 13, 14, 15, 16, 17, 18, 19, 20, 21, 22, 23, 24, 25, 26, 27, 28, 29, 30, 31, 32, 33, 34, 35, 36, 37, 38, 39, 40, 41, 42, 43, 44, 45, 46, 47, 48, 49, 50, 51, 52, 53, 54, 55, 56, 57, 58] [] (.n (.nil))])])])]], .nil], .nil])] [.nil, .nil])]]))]])])))])) (by kernel_rfl) (mkCon_ok follows bk_ok okG40 (by kernel_rfl))
noncomputable def G41 : List Con := L_law17_ShardGives_ :: G40
theorem okG41 : ∀ c ∈ G41, ConOk Tryd.prog c := forall_cons ok_law17_ShardGives okG40
/-- (*scrinium/front.Front).Copy -/
def front_Front_Copy (k : Nat) (x : Int × (List (Vector Int 32))) : Option (Int × (List (Vector Int 32))) :=
  (slices_Clone k x.2).bind fun r0 => some ((x.1, r0))
noncomputable def L_front_Front_Copy_ : Con := ⟨32, ⟨[(0, .v (.a (.ptr 0 0)))], [], [.box 84 [.fl (.int .i64), .sl 1], .row 40 T3 .lent]⟩, [⟨[(100000, .v (.a (.ptr 2 0)))], [], [.box 84 [.fl (.int .i64), .sl 3], .row 40 T3 .own]⟩], front_Front_Copy⟩
theorem ok_front_Front_Copy : ConOk Tryd.prog L_front_Front_Copy_ := con_of (a := mkCon Tryd.prog G41 inl bk 32 ⟨[(0, .v (.a (.ptr 0 0)))], [], [.box 84 [.fl (.int .i64), .sl 1], .row 40 T3 .lent]⟩ ⟨[(.ret, ⟨[(100000, .v (.a (.ptr 2 0)))], [], [.box 84 [.fl (.int .i64), .sl 3], .row 40 T3 .own]⟩)], [], [1]⟩ (.n (.d [0, 1] [] (.nil)))) (by kernel_rfl) (mkCon_ok follows bk_ok okG41 (by kernel_rfl))
noncomputable def G42 : List Con := L_front_Front_Copy_ :: G41
theorem okG42 : ∀ c ∈ G42, ConOk Tryd.prog c := forall_cons ok_front_Front_Copy okG41
/-- (*scrinium/shard.Shard).Copy -/
def shard_Shard_Copy (k : Nat) (x : Int × Int × Int × Int × (Vector Int 32) × Int × (Vector Int 32) × (List (Vector Int 32)) × (List (Int × (Int × (Int × ByteArray)))) × Int × (List (Vector Int 32))) : Option (Int × Int × Int × Int × (Vector Int 32) × Int × (Vector Int 32) × (List (Vector Int 32)) × (List (Int × (Int × (Int × ByteArray)))) × Int × (List (Vector Int 32))) :=
  (slices_Clone k x.2.2.2.2.2.2.2.1).bind fun r0 => (slices_Clone_2 k x.2.2.2.2.2.2.2.2.1).bind fun r1 => (front_Front_Copy k (x.2.2.2.2.2.2.2.2.2.1, x.2.2.2.2.2.2.2.2.2.2)).bind fun r2 => some ((x.1, x.2.1, x.2.2.1, x.2.2.2.1, x.2.2.2.2.1, x.2.2.2.2.2.1, x.2.2.2.2.2.2.1, r0, r1, r2.1, r2.2))
noncomputable def L_shard_Shard_Copy_ : Con := ⟨17, ⟨[(0, .v (.a (.ptr 0 0)))], [], [.box 62 [.fl (.int .i64), .fl (.int .i64), .sl 1, .sl 2, .ptr 3 0, .fl (.int .i64), .fl (.int .i64), .fl T3, .fl (.int .i64), .fl T3], .row 40 T3 .lent, .row 29 T5 .lent, .box 84 [.fl (.int .i64), .sl 4], .row 40 T3 .lent]⟩, [⟨[(100000, .v (.a (.ptr 5 0)))], [], [.box 62 [.fl (.int .i64), .fl (.int .i64), .sl 6, .sl 7, .ptr 8 0, .fl (.int .i64), .fl (.int .i64), .fl T3, .fl (.int .i64), .fl T3], .row 40 T3 .own, .row 29 T5 .own, .box 84 [.fl (.int .i64), .sl 9], .row 40 T3 .own]⟩], shard_Shard_Copy⟩
theorem ok_shard_Shard_Copy : ConOk Tryd.prog L_shard_Shard_Copy_ := con_of (a := mkCon Tryd.prog G42 inl bk 17 ⟨[(0, .v (.a (.ptr 0 0)))], [], [.box 62 [.fl (.int .i64), .fl (.int .i64), .sl 1, .sl 2, .ptr 3 0, .fl (.int .i64), .fl (.int .i64), .fl T3, .fl (.int .i64), .fl T3], .row 40 T3 .lent, .row 29 T5 .lent, .box 84 [.fl (.int .i64), .sl 4], .row 40 T3 .lent]⟩ ⟨[(.ret, ⟨[(100000, .v (.a (.ptr 5 0)))], [], [.box 62 [.fl (.int .i64), .fl (.int .i64), .sl 6, .sl 7, .ptr 8 0, .fl (.int .i64), .fl (.int .i64), .fl T3, .fl (.int .i64), .fl T3], .row 40 T3 .own, .row 29 T5 .own, .box 84 [.fl (.int .i64), .sl 9], .row 40 T3 .own]⟩)], [], [1, 2, 4]⟩ (.n (.d [0, 1, 2, 3, 4] [] (.nil)))) (by kernel_rfl) (mkCon_ok follows bk_ok okG42 (by kernel_rfl))
noncomputable def G43 : List Con := L_shard_Shard_Copy_ :: G42
theorem okG43 : ∀ c ∈ G43, ConOk Tryd.prog c := forall_cons ok_shard_Shard_Copy okG42
/-- scrinium/scriniumref09.Split -/
def ref09_Split (k : Nat) (x : Int) : Option (Int) :=
  condO (ilt x 2) (some (0)) ((loopK (H := Int) (E := Int) k (fun h0 => guardO ((nz 2)) (condO (ile h0 (WK .i64 (Int.tdiv (WK .i64 (x - 1)) 2))) (some (.inl ((WK .i64 (2 * h0))))) (some (.inr (h0))))) (1)).bind fun r0 => some (r0))
noncomputable def L_ref09_Split_ : Con := ⟨37, ⟨[(0, .v (.a (.fl (.int .i64))))], [], []⟩, [⟨[(100000, .v (.a (.fl (.int .i64))))], [], []⟩], ref09_Split⟩
theorem ok_ref09_Split : ConOk Tryd.prog L_ref09_Split_ := con_of (a := mkCon Tryd.prog G43 inl bk 37 ⟨[(0, .v (.a (.fl (.int .i64))))], [], []⟩ ⟨[(.ret, ⟨[(100000, .v (.a (.fl (.int .i64))))], [], []⟩)], [], []⟩ (.n (.b [.nil, .n (.l ⟨[(.normal, ⟨[(3, .v (.a (.fl (.int .i64))))], [], []⟩)], [], []⟩ ⟨[(.exit 0, ⟨[(3, .v (.a (.fl (.int .i64))))], [], []⟩)], [], []⟩ [.n (.nil)] [.nil])]))) (by kernel_rfl) (mkCon_ok follows bk_ok okG43 (by kernel_rfl))
noncomputable def G44 : List Con := L_ref09_Split_ :: G43
theorem okG44 : ∀ c ∈ G44, ConOk Tryd.prog c := forall_cons ok_ref09_Split okG43
/-- scrinium/scriniumref09.Root: one call, those of itself handed in -/
def ref09_Root_B (r : Nat → ((List (Vector Int 32))) → Option ((Vector Int 32))) (k : Nat) (x : (List (Vector Int 32))) : Option ((Vector Int 32)) :=
  condO (ieq (llen x) 0) ((ref02_Of k str0).bind fun r0 => some (r0)) (condO (ieq (llen x) 1) (guardO ((inR 0 (llen x))) (some ((at_ T3 x 0)))) ((ref09_Split k (llen x)).bind fun r0 => guardO ((cutOk4 0 r0 (llen x) r0)) (guardO ((cutOk4 r0 (llen x) (llen x) (llen x))) ((r k (ltake r0 x)).bind fun r1 => (r k (ldrop r0 x)).bind fun r2 => guardO ((catOk ⟨#[1]⟩ (strOfNums (Vector.toList r1)))) (guardO ((catOk (⟨#[1]⟩ ++ (strOfNums (Vector.toList r1))) (strOfNums (Vector.toList r2)))) ((ref02_Of k ((⟨#[1]⟩ ++ (strOfNums (Vector.toList r1))) ++ (strOfNums (Vector.toList r2)))).bind fun r3 => some (r3)))))))
/-- scrinium/scriniumref09.Root -/
def ref09_Root (k : Nat) : ((List (Vector Int 32))) → Option ((Vector Int 32)) := recN ref09_Root_B k k
noncomputable def L_ref09_Root_ : Con := ⟨21, ⟨[(0, .v (.a (.sl 0)))], [], [.row 40 T3 .lent]⟩, [⟨[(100000, .v (.a (.fl T3)))], [], []⟩], ref09_Root⟩
theorem ok_ref09_Root : ConOk Tryd.prog L_ref09_Root_ := con_rec (P := Tryd.prog) (Γ := G44) (inl := inl) (bk := bk) (f := 21) (pat := ⟨[(0, .v (.a (.sl 0)))], [], [.row 40 T3 .lent]⟩) (c := ⟨[(.ret, ⟨[(100000, .v (.a (.fl T3)))], [], []⟩)], [], [0]⟩) (pl := .n (.b [.nil, .n (.b [.nil, .d [0, 1] [] (.d [0, 1, 2, 3, 4, 5, 6, 7, 8, 9, 10] [] (.nil))])])) (o := [⟨[(100000, .v (.a (.fl T3)))], [], []⟩]) (B := ref09_Root_B) follows bk_ok okG44 (by kernel_rfl) (by kernel_rfl)
noncomputable def G45 : List Con := L_ref09_Root_ :: G44
theorem okG45 : ∀ c ∈ G45, ConOk Tryd.prog c := forall_cons ok_ref09_Root okG44
/-- scrinium/scriniumlaw17.ShardCopies -/
def law17_ShardCopies (k : Nat) (x : ByteArray × ByteArray × (List (Int × (Int × (Int × ByteArray)))) × (Vector Int 64)) : Option (Bool) :=
  (law17_awake k x.2.2.2).bind fun r0 => (law17_grown k (5, x.2.2.1, x.2.2.2)).bind fun r1 => caseS r1 (fun r1 => some (false)) (fun r1 => (shard_Shard_Copy k (r1.1, r1.2.1, r1.2.2.1, r1.2.2.2.1, r1.2.2.2.2.1, r1.2.2.2.2.2.1, r1.2.2.2.2.2.2.1, r1.2.2.2.2.2.2.2.1, r1.2.2.2.2.2.2.2.2.1, r1.2.2.2.2.2.2.2.2.2.1, r1.2.2.2.2.2.2.2.2.2.2)).bind fun r2 => (front_Front_Root k (r2.2.2.2.2.2.2.2.2.2.1, x.2.2.2, r2.2.2.2.2.2.2.2.2.2.2)).bind fun r3 => (front_Front_Root k (r1.2.2.2.2.2.2.2.2.2.1, x.2.2.2, r1.2.2.2.2.2.2.2.2.2.2)).bind fun r4 => condO (!(sameI 32 r3 r4 (List.range 32))) (some (false)) (condO (ine (llen r2.2.2.2.2.2.2.2.1) (llen r1.2.2.2.2.2.2.2.1)) (some (false)) (condO (ine r2.1 5) (some (false)) ((law17_short k (x.1, 60)).bind fun r5 => (shard_Shard_Add k (1, r5, r1.1, r1.2.1, r1.2.2.1, r1.2.2.2.1, r1.2.2.2.2.1, r1.2.2.2.2.2.1, r1.2.2.2.2.2.2.1, x.2.2.2, r1.2.2.2.2.2.2.2.1, r1.2.2.2.2.2.2.2.2.1, r1.2.2.2.2.2.2.2.2.2.1, r1.2.2.2.2.2.2.2.2.2.2)).bind fun r6 => (law17_short k (x.2.1, 60)).bind fun r7 => (shard_Shard_Add k (2, r7, r2.1, r2.2.1, r2.2.2.1, r2.2.2.2.1, r2.2.2.2.2.1, r2.2.2.2.2.2.1, r2.2.2.2.2.2.2.1, x.2.2.2, r2.2.2.2.2.2.2.2.1, r2.2.2.2.2.2.2.2.2.1, r2.2.2.2.2.2.2.2.2.2.1, r2.2.2.2.2.2.2.2.2.2.2)).bind fun r8 => (shard_Shard_Get k ((llen r1.2.2.2.2.2.2.2.1), r6.2.2.1, r6.2.2.2.1, r6.2.2.2.2.1, r6.2.2.2.2.2.1, r6.2.2.2.2.2.2.1, r6.2.2.2.2.2.2.2.1, r6.2.2.2.2.2.2.2.2.1, r6.2.2.2.2.2.2.2.2.2.2.1, r6.2.2.2.2.2.2.2.2.2.2.2.1, r6.2.2.2.2.2.2.2.2.2.1, r6.2.2.2.2.2.2.2.2.2.2.2.2)).bind fun r9 => (shard_Shard_Get k ((llen r1.2.2.2.2.2.2.2.1), r8.2.2.1, r8.2.2.2.1, r8.2.2.2.2.1, r8.2.2.2.2.2.1, r8.2.2.2.2.2.2.1, r8.2.2.2.2.2.2.2.1, r8.2.2.2.2.2.2.2.2.1, r8.2.2.2.2.2.2.2.2.2.2.1, r8.2.2.2.2.2.2.2.2.2.2.2.1, r8.2.2.2.2.2.2.2.2.2.1, r8.2.2.2.2.2.2.2.2.2.2.2.2)).bind fun r10 => condO r0 (condO (ieq r9.2.2.2.2 0) (condO (ieq r10.2.2.2.2 0) (condO (ieq r9.2.2.1 1) (condO (ieq r10.2.2.1 2) ((law17_short k (x.1, 60)).bind fun r11 => condO (sEq r9.2.2.2.1 r11) ((law17_short k (x.2.1, 60)).bind fun r12 => condO (sEq r10.2.2.2.1 r12) (condO (ieq (llen r6.2.2.2.2.2.2.2.2.2.2.1) (WK .i64 ((llen r1.2.2.2.2.2.2.2.1) + 1))) (condO (ieq (llen r8.2.2.2.2.2.2.2.2.2.2.1) (WK .i64 ((llen r1.2.2.2.2.2.2.2.1) + 1))) ((front_Front_Root k (r6.2.2.2.2.2.2.2.2.2.1, x.2.2.2, r6.2.2.2.2.2.2.2.2.2.2.2.2)).bind fun r13 => (slices_Clone k r6.2.2.2.2.2.2.2.2.2.2.1).bind fun r14 => (ref09_Root k r14).bind fun r15 => condO (sameI 32 r13 r15 (List.range 32)) ((front_Front_Root k (r8.2.2.2.2.2.2.2.2.2.1, x.2.2.2, r8.2.2.2.2.2.2.2.2.2.2.2.2)).bind fun r16 => (slices_Clone k r8.2.2.2.2.2.2.2.2.2.2.1).bind fun r17 => (ref09_Root k r17).bind fun r18 => some ((sameI 32 r16 r18 (List.range 32)))) (some (false))) (some (false))) (some (false))) (some (false))) (some (false))) (some (false))) (some (false))) (some (false))) (some (false))) (some (false))))))
noncomputable def L_law17_ShardCopies_ : Con := ⟨4, ⟨[(0, .v (.a (.sl 0))), (1, .v (.a (.fl .str))), (2, .v (.a (.fl .str))), (5000001, .v (.a (.ptr 1 0)))], [], [.row 34 T5 .lent, .box 105 [.fl T1]]⟩, [⟨[(100000, .v (.a (.fl .bool)))], [], []⟩], law17_ShardCopies⟩
theorem ok_law17_ShardCopies : ConOk Tryd.prog L_law17_ShardCopies_ := con_of (a := mkCon Tryd.prog G45 inl bk 4 ⟨[(0, .v (.a (.sl 0))), (1, .v (.a (.fl .str))), (2, .v (.a (.fl .str))), (5000001, .v (.a (.ptr 1 0)))], [], [.row 34 T5 .lent, .box 105 [.fl T1]]⟩ ⟨[(.ret, ⟨[(100000, .v (.a (.fl .bool)))], [], []⟩)], [], [0]⟩ (.b [.n (.nil), .n (.n (.n (.n (.b [.nil, .n (.n (.b [.nil, .n (.b [.nil, .n (.d [0, 1, 2, 3, 4, 5, 6, 7, 8, 9, 10, 11, 12, 13, 14, 15, 16, 17, 18, 19, 20, 21, 22, 23, 24, 25, 26, 27, 28, 29, 30, 31, 32, 33, 34, 35, 36, 37, 38, 39, 40, 41, 42, 43, 44, 45, 46, 47, 48, 49, 50, 51, 52, 53, 54, 55, 56, 57] [] (.b [.b [.b [.b [.b [.b [.b [.n (.b [.n (.b [.n (.n (.b [.n (.n (.nil)), .nil])), .nil]), .nil]), .nil], .nil], .nil], .nil], .nil], .nil], .nil]))])]))]))))])) (by kernel_rfl) (mkCon_ok follows bk_ok okG45 (by kernel_rfl))
noncomputable def G46 : List Con := L_law17_ShardCopies_ :: G45
theorem okG46 : ∀ c ∈ G46, ConOk Tryd.prog c := forall_cons ok_law17_ShardCopies okG45
end Go.Proofs.YtegnhljcpdpdpaaDoor
/- Arguments that came in, as data; a law's start and its end. No condition. -/
set_option linter.unusedVariables false
set_option linter.unusedSimpArgs false
namespace Go.Proofs.YtegnhljcpdpdpaaDoor
open Go Go.WideShapes Go.ChangeShapes
mutual
/-- Is a type told by data, its parts one behind the other? -/
def chkT (P : Program) : Nat → TypeId → Ty → Bool
  | 0, _, _ => false
  | d + 1, t, u => match P.underlying t with
    | some .bool => decide (u = .bool)
    | some (.int k) => decide (u = .int k)
    | some .string => decide (u = .str)
    | some (.array n e) => match u with
      | .arr m v => decide (n = m) && v.flat && chkT P d e v && decide (n * P.cellsOf e = P.cellsOf t) && decide (P.cellsOf e = v.sz)
      | _ => false
    | some (.slice e) => match u with
      | .sl e' v => decide (e = e') && chkT P d e v && decide (P.cellsOf e = v.sz)
      | _ => false
    | some (.struct fs) => chkF P d 0 fs.toList u (P.cellsOf t)
    | _ => false
def chkF (P : Program) : Nat → Nat → List Field → Ty → Nat → Bool
  | 0, _, _, _, _ => false
  | _ + 1, off, [], u, n => decide (u = .unit) && decide (off = n)
  | d + 1, off, [f], u, n => decide (f.offset = off) && chkT P d f.type u && decide (off + P.cellsOf f.type = n)
  | d + 1, off, f :: g :: fs, u, n => match u with
    | .pair a b => decide (f.offset = off) && chkT P d f.type a && chkF P d (off + P.cellsOf f.type) (g :: fs) b n
    | _ => false
end
def wfT : (u : Ty) → u.den → Prop
  | .int k, x => (Lit.int k x).wf = true
  | .bool, _ => True
  | .str, s => s.size ≤ 9223372036854775807
  | .unit, _ => True
  | .arr n t, v => ∀ i : Fin n, wfT t (v.get i)
  | .pair a b, x => wfT a x.1 ∧ wfT b x.2
  | .sl _ t, l => l.length ≤ 9223372036854775807 ∧ ∀ x ∈ l, wfT t x
def Facts (F : List Fact) (w : World) : Prop := ∀ f ∈ F, Rds f.v f.n f.sz f.cs w
section
variable {H : Type} {enc : TypeId × Value → H} {P : Program} {w : World} {base : Nat} {held : Bool}
theorem facts_app {F G : List Fact} (h : Facts F w) (k : Facts G w) : Facts (F ++ G) w := fun f hf => by
  rcases List.mem_append.1 hf with hf | hf
  · exact h f hf
  · exact k f hf
mutual
theorem open_rep : ∀ (d fuel : Nat) (t : TypeId) (u : Ty) (cs : List Value) (x : DataW H × List MemPlace), chkT P d t u = true → DataW.trod enc P w base (fun _ => true) held fuel t cs = some x →
    ∃ (y : u.den) (F : List Fact), RepP u y cs F ∧ Facts F w ∧ wfT u y
  | 0, _, _, _, _, _, h, _ => by simp [chkT] at h
  | d + 1, fuel, t, u, cs, x, h, hx => by
    simp only [chkT] at h
    split at h
    · rename_i hu
      obtain rfl := of_decide_eq_true h
      obtain ⟨b, rfl, _⟩ := DataW.trod_bool hu hx
      exact ⟨b, [], ⟨rfl, rfl⟩, (fun f hf => by cases hf), trivial⟩
    · rename_i k hu
      obtain rfl := of_decide_eq_true h
      obtain ⟨n, rfl, _, hw⟩ := DataW.trod_int hu hx
      exact ⟨n, [], ⟨rfl, rfl⟩, (fun f hf => by cases hf), hw⟩
    · rename_i hu
      obtain rfl := of_decide_eq_true h
      obtain ⟨s, rfl, _, hw⟩ := DataW.trod_string hu hx
      exact ⟨s, [], ⟨rfl, rfl⟩, (fun f hf => by cases hf), hw⟩
    · rename_i n e hu
      split at h
      · rename_i m v
        simp only [Bool.and_eq_true, decide_eq_true_eq] at h
        obtain ⟨⟨⟨⟨rfl, hfl⟩, hc⟩, hsz⟩, hv⟩ := h
        obtain ⟨xs, m, rfl, _, hl, hlen, hm⟩ := DataW.trod_array hu hx
        have one : ∀ i, i < n → ∃ y : v.den, (cs.drop (i * v.sz)).take v.sz = (flatT v).cells y ∧ wfT v y := by
          intro i hi
          have hlt : i < xs.length := by omega
          obtain ⟨y, F, h1, h2, h3⟩ := open_rep d m e v _ xs[i] hc (by rw [hm i hi, List.getElem?_eq_getElem hlt])
          rw [hv] at h1
          exact ⟨y, ((RepP_flat v hfl _ _ _).1 h1).1, h3⟩
        haveI : Inhabited v.den := ⟨v.dflt⟩
        obtain ⟨f, hf⟩ := Go.Deep.choose_lt one
        refine ⟨Vector.ofFn (fun i : Fin n => f i.1), [], ⟨?_, rfl⟩, (fun f hf => by cases hf), fun i => ?_⟩
        · have har : arL (flatT v).dflt n (Vector.ofFn (fun i : Fin n => f i.1)) = (List.range n).map f := by
            unfold arL
            apply List.map_congr_left
            intro i hi
            have hi : i < n := by simpa using hi
            have h1 : (Vector.ofFn (fun i : Fin n => f i.1)).toArray.size = n := by simp
            simp only [Array.getD, h1, hi, dif_pos]
            simp [Array.getInternal_eq_getElem]
          have hcs : ∀ k, k ≤ n → ((List.range k).map f).flatMap (flatT v).cells = cs.take (k * v.sz) := by
            intro k
            induction k with
            | zero => intro _; simp
            | succ k ih =>
              intro hk
              rw [List.range_succ, List.map_append, List.flatMap_append, ih (by omega)]
              simp only [List.map_cons, List.map_nil, List.flatMap_cons, List.flatMap_nil, List.append_nil]
              rw [← (hf k (by omega)).1, Nat.add_mul, Nat.one_mul, List.take_add]
          show cs = (arL (flatT v).dflt n _).flatMap (flatT v).cells
          rw [har, hcs n (Nat.le_refl _), List.take_of_length_le]
          rw [hl, ← hsz, hv]; exact Nat.le_refl _
        · have : (Vector.ofFn (fun i : Fin n => f i.1)).get i = f i.1 := by
            simp only [Vector.get]
            simp
            first | rfl | done
          rw [this]; exact (hf i.1 i.2).2
      · cases h
    · rename_i e hu
      split at h
      · rename_i e' v
        simp only [Bool.and_eq_true, decide_eq_true_eq] at h
        obtain ⟨⟨rfl, hc⟩, hv⟩ := h
        rcases Go.Deep.open_slice hu hx with ⟨h0, _⟩ | ⟨a, len, cap, m, n, D, Pl, hcs, hb, hl, hm, hmm, _, hel⟩
        · subst h0
          exact ⟨[], [⟨.slice none 0 0, 0, v.sz, []⟩], ⟨_, [], [], rfl, ⟨none, 0, rfl, fun _ => rfl⟩, rfl, rfl, rfl⟩, (fun f hf => by
            simp only [List.mem_singleton] at hf; subst hf; exact rds_nil _ _), by simp, by simp⟩
        · subst hcs
          have hm' : len ≤ m := by rw [hmm]; split <;> omega
          have one : ∀ i, i < len → ∃ y : v.den × List Value × List Fact, w.cells? base (a.add (i * v.sz)) v.sz = some y.2.1 ∧ RepP v y.1 y.2.1 y.2.2 ∧ Facts y.2.2 w ∧ wfT v y.1 := by
            intro i hi
            obtain ⟨cs', h1, h2⟩ := hel i (by omega)
            rw [hv] at h1
            obtain ⟨y, F, k1, k2, k3⟩ := open_rep d n e v cs' _ hc h2
            exact ⟨(y, cs', F), h1, k1, k2, k3⟩
          haveI : Inhabited (v.den × List Value × List Fact) := ⟨(v.dflt, [], [])⟩
          obtain ⟨f, hf⟩ := Go.Deep.choose_lt one
          have build : ∀ k, k ≤ len → ∃ css F, RepL (RepP v) ((List.range k).map fun i => (f i).1) css F ∧ Facts F w ∧ css.length = k * v.sz ∧ ∀ j c, css[j]? = some c → w.cell? (a.add j) = some c := by
            intro k
            induction k with
            | zero => intro _; exact ⟨[], [], ⟨rfl, rfl⟩, (fun f hf => by cases hf), by simp, by simp⟩
            | succ k ih =>
              intro hk
              obtain ⟨css, F, r1, r2, r3, r4⟩ := ih (by omega)
              obtain ⟨c1, c2, c3, _⟩ := hf k (by omega)
              obtain ⟨_, hcl, hce⟩ := World.cells?_some c1
              refine ⟨css ++ (f k).2.1, F ++ (f k).2.2, ?_, facts_app r2 c3, ?_, fun j c hj => ?_⟩
              · rw [List.range_succ, List.map_append]
                refine RepL_app _ _ _ _ _ _ r1 ?_
                exact ⟨(f k).2.1, [], (f k).2.2, [], by simp, by simp, c2, rfl, rfl⟩
              · rw [List.length_append, r3, RepP_len v _ _ _ c2, Nat.add_mul, Nat.one_mul]
              · by_cases hlt : j < k * v.sz
                · rw [List.getElem?_append_left (by omega)] at hj
                  exact r4 j c hj
                · rw [List.getElem?_append_right (by omega), r3] at hj
                  have hlt2 := (List.getElem?_eq_some_iff.1 hj).1
                  rw [RepP_len v _ _ _ c2] at hlt2
                  have := hce (j - k * v.sz) hlt2
                  rw [hj, Go.Deep.add_add] at this
                  rw [← this]; congr 2; omega
          obtain ⟨css, F, r1, r2, r3, r4⟩ := build len (Nat.le_refl _)
          have hlen : ((List.range len).map fun i => (f i).1).length = len := by simp
          have hmx : cap ≤ 9223372036854775807 := by unfold maxLen at hm; omega
          refine ⟨(List.range len).map fun i => (f i).1, ⟨.slice (some a) len cap, len, v.sz, css⟩ :: F, ⟨_, css, F, rfl, ⟨some a, cap, by rw [hlen], fun h => by cases h⟩, by rw [hlen], r1⟩, fun f0 hf0 => ?_, ?_, ?_⟩
          · rcases List.mem_cons.1 hf0 with rfl | hf0
            · exact ⟨r3, some a, cap, rfl, hl, hmx, (fun h => by cases h), fun j u hu => ⟨a, rfl, r4 j u hu⟩⟩
            · exact r2 f0 hf0
          · rw [hlen]; omega
          · intro y hy
            simp only [List.mem_map, List.mem_range] at hy
            obtain ⟨i, hi, rfl⟩ := hy
            exact (hf i hi).2.2.2
      · cases h
    · rename_i fs hu
      obtain ⟨xs, m, rfl, _, hl, hlen, hm⟩ := DataW.trod_struct hu hx
      have := open_repF d m 0 fs.toList u (P.cellsOf t) cs h hl (fun i f hi => ?_)
      · simpa using this
      · have hi' : fs[i]? = some f := by simpa using hi
        have hlt : i < xs.length := by rw [hlen]; exact (Array.getElem?_eq_some_iff.1 hi').1
        exact ⟨xs[i], by rw [hm i f hi', List.getElem?_eq_getElem hlt]⟩
    · cases h
theorem open_repF : ∀ (d fuel off : Nat) (fs : List Field) (u : Ty) (n : Nat) (cs : List Value), chkF P d off fs u n = true → cs.length = n →
    (∀ (i : Nat) f, fs[i]? = some f → ∃ y, DataW.trod enc P w base (fun _ => true) held fuel f.type ((cs.drop f.offset).take (P.cellsOf f.type)) = some y) →
    ∃ (y : u.den) (F : List Fact), RepP u y (cs.drop off) F ∧ Facts F w ∧ wfT u y
  | 0, _, _, _, _, _, _, h, _, _ => by simp [chkF] at h
  | d + 1, fuel, off, [], u, n, cs, h, hl, _ => by
    simp only [chkF, Bool.and_eq_true, decide_eq_true_eq] at h
    obtain ⟨rfl, rfl⟩ := h
    exact ⟨(), [], ⟨by simp [flatT, FU, ← hl], rfl⟩, (fun f hf => by cases hf), trivial⟩
  | d + 1, fuel, off, [f], u, n, cs, h, hl, hm => by
    simp only [chkF, Bool.and_eq_true, decide_eq_true_eq] at h
    obtain ⟨⟨ho, hc⟩, hn⟩ := h
    obtain ⟨x, hx⟩ := hm 0 f rfl
    have := open_rep d fuel f.type u _ x hc hx
    rw [ho, List.take_of_length_le (by rw [List.length_drop]; omega)] at this
    exact this
  | d + 1, fuel, off, f :: g :: fs, u, n, cs, h, hl, hm => by
    simp only [chkF] at h
    split at h
    · rename_i a b
      simp only [Bool.and_eq_true, decide_eq_true_eq] at h
      obtain ⟨⟨ho, hc⟩, hn⟩ := h
      obtain ⟨x, hx⟩ := hm 0 f rfl
      obtain ⟨y1, F1, a1, a2, a3⟩ := open_rep d fuel f.type a _ x hc hx
      obtain ⟨y2, F2, b1, b2, b3⟩ := open_repF d fuel (off + P.cellsOf f.type) (g :: fs) b n cs hn hl (fun i f' hi => hm (i + 1) f' hi)
      refine ⟨(y1, y2), F1 ++ F2, ⟨_, _, F1, F2, ?_, rfl, a1, b1⟩, facts_app a2 b2, a3, b3⟩
      rw [ho, ← List.drop_drop, List.take_append_drop]
    · cases h
end
/-- What a value of a type is, by its cells. -/
def valC : Ty → List Value → Value
  | .arr _ _, cs => .agg cs.toArray
  | .pair _ _, cs => .agg cs.toArray
  | .unit, cs => .agg cs.toArray
  | _, cs => cs.headD .nilFunc
/-- Is it an aggregate, just where its data are? -/
def aggOk (P : Program) (t : TypeId) (u : Ty) : Bool :=
  match P.underlying t, u with
  | some (.struct _), .pair _ _ => true
  | some (.struct _), .unit => true
  | some (.array _ _), .arr _ _ => true
  | some (.slice _), .sl _ _ => true
  | some .bool, .bool => true
  | some (.int _), .int _ => true
  | some .string, .str => true
  | _, _ => false
structure RepOk (w : World) (d : Dyn) (v : Value) : Prop where
  rep : ∃ F, RepP d.1 d.2 v.cells.toList F ∧ Facts F w
  val : v = valC d.1 v.cells.toList
theorem open_arg {b0 : Nat} {t : TypeId} {u : Ty} {v : Value} {d : DataW H} {ps : List MemPlace} (hc : chkT P 12 t u = true) (ha : aggOk P t u = true) (hval : Value.okWide P w .any b0 t v) (hd : DataW.Trod enc P w base (fun _ => true) held t v d ps) :
    ∃ y : u.den, RepOk w ⟨u, y⟩ v ∧ wfT u y := by
  obtain ⟨fuel, hf⟩ := hd
  obtain ⟨y, F, h1, h2, h3⟩ := open_rep 12 fuel t u _ _ hc hf
  refine ⟨y, ⟨⟨F, h1, h2⟩, ?_⟩, h3⟩
  have agg : (∃ cs, v = .agg cs) → ∀ u, (match u with | .arr _ _ => true | .pair _ _ => true | .unit => true | _ => false) = true → v = valC u v.cells.toList := by
    rintro ⟨cs, rfl⟩ u hu
    cases u <;> simp_all [valC, Value.cells]
  unfold aggOk at ha
  split at ha
  · rename_i fs e
    exact agg (by unfold Value.okWide at hval; rw [e] at hval; obtain ⟨cs, h, _⟩ := hval; exact ⟨cs, h⟩) _ rfl
  · rename_i fs e
    exact agg (by unfold Value.okWide at hval; rw [e] at hval; obtain ⟨cs, h, _⟩ := hval; exact ⟨cs, h⟩) _ rfl
  · rename_i n e' e
    exact agg (by unfold Value.okWide at hval; rw [e] at hval; obtain ⟨cs, h, _⟩ := hval; exact ⟨cs, h⟩) _ rfl
  · rename_i e
    obtain ⟨a, l, c, rfl⟩ := okWide_slice e hval
    rfl
  · rename_i e
    obtain ⟨b, rfl⟩ := okWide_bool e hval
    rfl
  · rename_i e
    obtain ⟨b, rfl⟩ := okWide_int e hval
    rfl
  · rename_i e
    obtain ⟨b, rfl⟩ := okWide_string e hval
    rfl
  · cases ha
end
/-! ### a law's start -/
inductive Args (w : World) : List Dyn → List Value → Prop where
  | nil : Args w [] []
  | cons {d : Dyn} {v : Value} {ds : List Dyn} {vs : List Value} : RepOk w d v → Args w ds vs → Args w (d :: ds) (v :: vs)
def slotOf (u : Ty) (ls : List At) : SV :=
  match u, ls with
  | .pair _ _, ls => .v (.st ls)
  | .unit, ls => .v (.st ls)
  | _, [a] => .v (.a a)
  | _, ls => .v (.st ls)
def startGo : List Dyn → Nat → List (Nat × SV) × List Ob → List (Nat × SV) × List Ob
  | [], _, s => s
  | d :: ds, i, s => startGo ds (i + 1) (s.1 ++ [(i, slotOf d.1 (unpk .lent d.1 d.2 s.2.length).1)], s.2 ++ (unpk .lent d.1 d.2 s.2.length).2)
def startS (ds : List Dyn) : St := ⟨(startGo ds 0 ([], [])).1, (startGo ds 0 ([], [])).2, [], .nil⟩
theorem unpk_nrm (m : Md) : ∀ (u : Ty) (x : u.den) (n : Nat), (unpk m u x n).1.all nrmA = true
  | .pair a b, x, n => by simp only [unpk, List.all_append, unpk_nrm m a x.1 n, unpk_nrm m b x.2 _, Bool.and_self]
  | .int k, x, n => rfl
  | .bool, x, n => rfl
  | .str, x, n => rfl
  | .unit, x, n => rfl
  | .arr q t, x, n => rfl
  | .sl e t, x, n => rfl
theorem slot_enc (u : Ty) (x : u.den) (m : Md) (n : Nat) (g : Env) : encS g (slotOf u (unpk m u x n).1) = valC u (encL g (unpk m u x n).1) ∧ nrmS (slotOf u (unpk m u x n).1) = true ∧ refS (slotOf u (unpk m u x n).1) = (unpk m u x n).1.flatMap refA := by
  cases u with
  | int k => exact ⟨rfl, rfl, rfl⟩
  | bool => exact ⟨rfl, rfl, rfl⟩
  | str => exact ⟨rfl, rfl, rfl⟩
  | unit => exact ⟨rfl, rfl, rfl⟩
  | arr q t => exact ⟨by simp [slotOf, unpk, encS, encV, val1, valC, encL, encA], rfl, rfl⟩
  | pair a b => exact ⟨rfl, unpk_nrm m _ x n, rfl⟩
  | sl e t => exact ⟨rfl, rfl, rfl⟩
structure Started (w : World) (g : Env) (vs : List Value) (s : List (Nat × SV) × List Ob) : Prop where
  enc : s.1.map (fun p => encS g p.2) = vs
  keys : s.1.map (·.1) = List.range s.1.length
  ok : ∀ p ∈ s.1, nrmS p.2 = true
  rs : ∀ p ∈ s.1, ∀ o ∈ refS p.2, o < s.2.length
  ob : ∀ i ob, s.2[i]? = some ob → obP g i ob ∧ ∃ e u xs, ob = .row e u xs .lent false ∧ ∀ f ∈ (⟨(g i).v, xs.length, u.sz, (g i).cs⟩ :: (g i).fs : List Fact), Rds f.v f.n f.sz f.cs w
theorem start_go {w : World} : ∀ (ds : List Dyn) (vs : List Value) (i : Nat) (s : List (Nat × SV) × List Ob) (us : List Value) (g : Env), Args w ds vs → Started w g us s → i = s.1.length →
    ∃ g', Started w g' (us ++ vs) (startGo ds i s)
  | [], [], i, s, us, g, .nil, h, hi => ⟨g, by simpa [startGo] using h⟩
  | d :: ds, v :: vs, i, s, us, g, .cons hd hds, h, hi => by
    obtain ⟨F, hrep, hfa⟩ := hd.rep
    obtain ⟨g1, e1, e2, e3, e4, e5⟩ := unpk_spec .lent (by decide) d.1 d.2 s.2.length g _ F hrep
    obtain ⟨s1, s2, s3⟩ := slot_enc d.1 d.2 .lent s.2.length g1
    have hsl : ∀ o ∈ refS (slotOf d.1 (unpk .lent d.1 d.2 s.2.length).1), o < (s.2 ++ (unpk .lent d.1 d.2 s.2.length).2).length := by
      rw [s3]
      intro o ho
      have := (e4 o ho).2
      rw [List.length_append]; exact this
    have := start_go ds vs (i + 1) (s.1 ++ [(i, slotOf d.1 (unpk .lent d.1 d.2 s.2.length).1)], s.2 ++ (unpk .lent d.1 d.2 s.2.length).2) (us ++ [v]) g1 hds ?_ (by simp [hi])
    · obtain ⟨g', h'⟩ := this
      exact ⟨g', by simpa [startGo] using h'⟩
    · refine ⟨?_, ?_, ?_, ?_, ?_⟩
      · simp only [List.map_append, List.map_cons, List.map_nil]
        congr 1
        · rw [← h.enc]
          apply List.map_congr_left
          intro p hp
          exact encS_ext _ (fun o ho => e1 o (.inl (h.rs p hp o ho)))
        · rw [s1, e2, ← hd.val]
      · simp only [List.map_append, List.map_cons, List.map_nil, List.length_append, List.length_singleton, List.range_succ, h.keys, hi]
      · intro p hp
        rcases List.mem_append.1 hp with hp | hp
        · exact h.ok p hp
        · simp only [List.mem_singleton] at hp; subst hp; exact s2
      · intro p hp o ho
        rcases List.mem_append.1 hp with hp | hp
        · have := h.rs p hp o ho
          simp only [List.length_append]; omega
        · simp only [List.mem_singleton] at hp; subst hp; exact hsl o ho
      · intro j ob hj
        rcases Nat.lt_or_ge j s.2.length with hlt | hge
        · simp only at hj
          rw [List.getElem?_append_left hlt] at hj
          have := h.ob j ob hj
          have hg : g1 j = g j := e1 j (.inl hlt)
          obtain ⟨a1, e, u, xs, rfl, a2⟩ := this
          exact ⟨obP_ext hg a1, e, u, xs, rfl, by rw [hg]; exact a2⟩
        · simp only at hj
          rw [List.getElem?_append_right hge] at hj
          obtain ⟨p1, e, u, xs, he, hf⟩ := e5 _ ob hj
          have hn : s.2.length + (j - s.2.length) = j := by omega
          rw [hn] at p1 hf
          exact ⟨p1, e, u, xs, he, fun f hf' => hfa f (hf f hf')⟩
theorem start_ok {w : World} {ds : List Dyn} {vs : List Value} (h : Args w ds vs) :
    ∃ g, (startS ds).slots.map (fun p => encS g p.2) = vs ∧ (startS ds).slots.map (·.1) = List.range (startS ds).slots.length ∧ Cal g (startS ds) ∧ Cx g (startS ds) w nob (fun _ => True) w ∧ ∀ i, (entL g i ((startS ds).ob i)).dom = nob := by
  obtain ⟨g, hs⟩ := start_go ds vs 0 ([], []) [] env0 h ⟨rfl, rfl, (fun p hp => by cases hp), (fun p hp => by cases hp), (fun i ob hi => by simp at hi)⟩ rfl
  have get : ∀ i, (startS ds).ob i = .gone ∨ (startGo ds 0 ([], [])).2[i]? = some ((startS ds).ob i) := fun i => by
    cases hi : (startGo ds 0 ([], [])).2[i]? with
    | none => left; simp [St.ob, startS, List.getD_eq_getElem?_getD, hi]
    | some ob => right; simp [St.ob, startS, List.getD_eq_getElem?_getD, hi]
  have dom : ∀ i, (entL g i ((startS ds).ob i)).dom = nob := fun i => by
    rcases get i with h | h
    · rw [h]; rfl
    · obtain ⟨_, e, u, xs, he, _⟩ := hs.ob i _ h
      rw [he]; rfl
  refine ⟨g, by have := hs.enc; rwa [List.nil_append] at this, hs.keys, ⟨fun i => ?_, hs.ok, hs.rs, fun i T ls hi => ?_⟩, ⟨Fr.refl _ _, fun i => ?_, fun i => ?_, fun i b hb => ?_, fun i j _ b hb => ?_, fun i j b hb => ?_, fun i _ b _ => .inl trivial⟩, dom⟩
  · rcases get i with h | h
    · rw [h]; trivial
    · exact (hs.ob i _ h).1
  · rcases get i with h | h
    · rw [h] at hi; cases hi
    · obtain ⟨_, e, u, xs, he, _⟩ := hs.ob i _ h
      rw [he] at hi; cases hi
  · rcases get i with h | h
    · simp only [h]; trivial
    · obtain ⟨_, e, u, xs, he, _⟩ := hs.ob i _ h
      simp only [he]; trivial
  · rcases get i with h | h
    · simp only [h]; trivial
    · obtain ⟨_, e, u, xs, he, hf⟩ := hs.ob i _ h
      simp only [he]
      exact hf
  · rw [dom] at hb; exact hb.elim
  · rw [dom] at hb; exact hb.elim
  · rw [dom] at hb; exact hb.elim
theorem law_done {P : Program} {w : World} {f : Nat} {c : Con} {ds : List Dyn} {vs : List Value} {k : Nat} {x : HL c.pat.codes} (hc : ConOk P c) (hfn : c.fn = f) (h : Args w ds vs) {y : DenL (c.out.map NSh.codes)}
    (hy : c.f k x = some y) (hp : patSt c.pat x = some (startS ds)) (hout : c.out = [⟨[(rB, .v (.a (.fl .bool)))], [], []⟩]) (hel : ∀ (R : Type) (q : Nat → List Dyn → R), elimL (c.out.map NSh.codes) y q = q 0 [⟨.bool, true⟩]) :
    Calls P f vs.toArray w (fun e w' => ∃ v, e = .returned v ∧ v = .bool true ∧ Fr nob w w') := by
  obtain ⟨g, h1, h2, h3, h4, h5⟩ := start_ok h
  have key := hc k x y (startS ds) (startS ds).slots.length [] hy hp (by rw [h2, List.map_nil, List.append_nil]) (fun b hb => by cases hb) g w nob (fun _ => True) h3 h4 (by rw [List.drop_length]; intro p hp; cases hp)
  rw [List.take_length, h1, hfn] at key
  refine Calls.mono key ?_
  rintro e w' ⟨v, rfl, i, es, s, N, r, g', q1, q2, q3, q4, q5, q6, q7, q8, q9, q10⟩
  refine ⟨v, rfl, ?_, q9.fr⟩
  have e0 := q1 (Nat × List Dyn) (fun i ds => (i, ds))
  rw [hel] at e0
  simp only [Prod.mk.injEq] at e0
  obtain ⟨rfl, rfl⟩ := e0
  rw [hout] at q2
  simp only [List.getElem?_cons_zero, Option.some.injEq] at q2
  subst q2
  have q3' : fiN ⟨[(rB, .v (.a (.fl .bool)))], [], []⟩ [⟨.bool, true⟩] = some N := q3
  have hN : fiN ⟨[(rB, .v (.a (.fl .bool)))], [], []⟩ [⟨.bool, true⟩] = some ⟨[(rB, .v (.a (.fl .bool true)))], [], []⟩ := by rfl
  rw [hN] at q3'
  cases q3'
  simp only [Go.Proofs.YtegnhljcpdpdpaaDoor.results, Option.some.injEq] at q4
  subst q4
  exact q5
end Go.Proofs.YtegnhljcpdpdpaaDoor
