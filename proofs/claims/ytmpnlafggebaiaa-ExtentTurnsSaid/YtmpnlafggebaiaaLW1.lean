/- Value functions of Ytmpnlafggebaiaa and the walks that show them, part 3. No condition. -/
import Derived.Test.YtmpnlafggebaiaaLW1b
set_option linter.unusedVariables false
set_option linter.unusedSimpArgs false
namespace Go.Proofs.Ytmpnlafggebaiaa
open Go
def scriniumlaw06_ExtentFiles.l1 (p2 : S_T37) : Nat → Bool → List S_Run → List S_Run → List Int → List Int → Int → Option Bool
  | 0, _, _, _, _, _, _ => none
  | kk1 + 1, x8, l17, l18, l19, l20, x9 => (if (decide (x9 < (l19.length : Int))) = true then (if 0 ≤ x9 ∧ x9 < (l19.length : Int) then (if 0 ≤ x9 ∧ x9 < (l20.length : Int) then (if (((FK .i64).at_ l19 x9) != ((FK .i64).at_ l20 x9)) = true then (some false) else (scriniumlaw06_ExtentFiles.l1 p2 kk1) x8 l17 l18 l19 l20 (W64 (x9 + 1))) else none) else none) else ((extent_Rest.f kk1 l17 p2.e_0 p2.e_1).bind fun t6 => ((scriniumref06_Rest.f kk1 l17 p2.e_0 p2.e_1).bind fun t7 => ((scriniumref06_Same.f kk1 t6 t7).bind fun t8 => ((extent_Join.f kk1 l17 l18).bind fun t9 => ((scriniumref06_Join.f kk1 l17 l18).bind fun t10 => ((scriniumref06_Same.f kk1 t9 t10).bind fun t11 => ((extent_Cut.f kk1 l17 p2.e_0).bind fun t12 => ((scriniumref06_Cut.f kk1 l17 p2.e_0).bind fun t13 => ((scriniumref06_Same.f kk1 t12.1 t13.1).bind fun t14 => ((scriniumref06_Same.f kk1 t12.2 t13.2).bind fun t15 => (if x8 = true then (if t8 = true then (if t11 = true then (if t14 = true then (some t15) else (some false)) else (some false)) else (some false)) else (some false)))))))))))))
def scriniumlaw06_ExtentFiles.f (k : Nat) (p0 : (List S_Run)) (p1 : (List S_Run)) (p2 : S_T37) : Option Bool := ((scriniumlaw06_awake.f k).bind fun t1 => ((scriniumlaw06_file.f k p0).bind fun t2 => ((scriniumlaw06_file.f k p1).bind fun t3 => ((extent_All.f k t2).bind fun t4 => ((scriniumref06_All.f k t2).bind fun t5 => (if ((t4.length : Int) != (t5.length : Int)) = true then (some false) else scriniumlaw06_ExtentFiles.l1 p2 k t1 t2 t3 t4 t5 0))))))
theorem scriniumlaw06_ExtentFiles_ok (k : Nat) (w0 : World) (p0 : (List S_Run)) (p1 : (List S_Run)) (p2 : S_T37) (v_0 : Value) (v_1 : Value) (h_0 : Rds v_0 p0.length 2 (p0.flatMap F_Run.cells) w0) (h_1 : Rds v_1 p1.length 2 (p1.flatMap F_Run.cells) w0) (res : Bool) (hf : scriniumlaw06_ExtentFiles.f k p0 p1 p2 = some res) :
    Fn Try.prog 5 [v_0, v_1, .agg #[.int .i64 p2.e_0, .int .i64 p2.e_1]] w0 (fun v w' => v = .bool res ∧ Fr nob w0 w') := by
  have C := ctx_start w0 [rdE v_0 p0.length 2 (p0.flatMap F_Run.cells), rdE v_1 p1.length 2 (p1.flatMap F_Run.cells)] (start2 h_0 h_1)
  generalize allDom [rdE v_0 p0.length 2 (p0.flatMap F_Run.cells), rdE v_1 p1.length 2 (p1.flatMap F_Run.cells)] = A0 at C
  refine f_enter (fn := Try.f5) (k := 100) rfl rfl rfl fun a hS => ?_
  have hS : Sl 103 [(0, v_0), (1, v_1), (2, .agg #[.int .i64 p2.e_0, .int .i64 p2.e_1])] a := hS
  rw [scriniumlaw06_ExtentFiles.f] at hf
  refine c_seq (by kernel_rfl) ?_
  refine c_region (by kernel_rfl) ?_
  refine wl_eff (d := (some 5)) (op := (Op.box 37 (Operand.tmp 2))) (g := none) hS (by kernel_rfl) (by kernel_rfl) (eff_box C (cs := [.int .i64 p2.e_0, .int .i64 p2.e_1]) (by kernel_rfl)) ?_
  rintro _ _ ⟨b1, rfl, C⟩ a hS
  refine wl_pures (j := 2) hS 1 [0, 1, 5] (m' := [(0, v_0), (1, v_1), (5, .pointer (some ⟨b1, 0, none⟩))]) (by kernel_rfl) (by kernel_rfl) fun a hS => ?_
  refine wl_nil (by kernel_rfl) ?_
  refine q_then ?_
  refine c_seq (by kernel_rfl) ?_
  refine c_region (by kernel_rfl) ?_
  obtain ⟨t1, ht1, hf⟩ := bind_some hf
  refine wl_eff (d := (some 21)) (op := (Op.call { callee := (Callee.value (Operand.func 9)), args := #[], argTypes := #[] })) (g := none) hS (by kernel_rfl) (by kernel_rfl) (eff_fn (by kernel_rfl) rfl (by kernel_rfl) (scriniumlaw06_awake_ok k _ t1 ht1)) ?_
  rintro _ _ ⟨rfl, hw⟩ a hS
  have C := ctx_still C hw
  refine wl_pures (j := 2) hS 1 [0, 1, 5, 7] (m' := [(0, v_0), (1, v_1), (5, .pointer (some ⟨b1, 0, none⟩)), (7, .bool t1)]) (by kernel_rfl) (by kernel_rfl) fun a hS => ?_
  refine wl_nil (by kernel_rfl) ?_
  refine q_then ?_
  refine c_seq (by kernel_rfl) ?_
  refine c_region (by kernel_rfl) ?_
  refine wl_pures (j := 1) hS 1 [1, 5, 7, 22] (m' := [(1, v_1), (5, .pointer (some ⟨b1, 0, none⟩)), (7, .bool t1), (22, v_0)]) (by kernel_rfl) (by kernel_rfl) fun a hS => ?_
  obtain ⟨t2, ht2, hf⟩ := bind_some hf
  refine wl_eff (d := (some 23)) (op := (Op.call { callee := (Callee.value (Operand.func 18)), args := #[(Operand.tmp 22)], argTypes := #[22] })) (g := none) hS (by kernel_rfl) (by kernel_rfl) (eff_fn (by kernel_rfl) rfl (by kernel_rfl) (scriniumlaw06_file_ok k _ p0 v_0 (C.okR 0 _ rfl) t2 ht2)) ?_
  rintro v1 _ ⟨hw, hr1⟩ a hS
  have C := got_own C hw hr1
  refine wl_pures (j := 3) hS 1 [1, 5, 7, 8] (m' := [(1, v_1), (5, .pointer (some ⟨b1, 0, none⟩)), (7, .bool t1), (8, v1)]) (by kernel_rfl) (by kernel_rfl) fun a hS => ?_
  refine wl_nil (by kernel_rfl) ?_
  refine q_then ?_
  refine c_seq (by kernel_rfl) ?_
  refine c_region (by kernel_rfl) ?_
  refine wl_pures (j := 1) hS 1 [5, 7, 8, 24] (m' := [(5, .pointer (some ⟨b1, 0, none⟩)), (7, .bool t1), (8, v1), (24, v_1)]) (by kernel_rfl) (by kernel_rfl) fun a hS => ?_
  obtain ⟨t3, ht3, hf⟩ := bind_some hf
  refine wl_eff (d := (some 25)) (op := (Op.call { callee := (Callee.value (Operand.func 18)), args := #[(Operand.tmp 24)], argTypes := #[22] })) (g := none) hS (by kernel_rfl) (by kernel_rfl) (eff_fn (by kernel_rfl) rfl (by kernel_rfl) (scriniumlaw06_file_ok k _ p1 v_1 (C.okR 1 _ rfl) t3 ht3)) ?_
  rintro v2 _ ⟨hw, hr2⟩ a hS
  have C := got_own C hw hr2
  refine wl_pures (j := 3) hS 1 [5, 7, 8, 9] (m' := [(5, .pointer (some ⟨b1, 0, none⟩)), (7, .bool t1), (8, v1), (9, v2)]) (by kernel_rfl) (by kernel_rfl) fun a hS => ?_
  refine wl_nil (by kernel_rfl) ?_
  refine q_then ?_
  refine c_seq (by kernel_rfl) ?_
  refine c_region (by kernel_rfl) ?_
  refine wl_pures (j := 1) hS 1 [5, 7, 8, 9, 26] (m' := [(5, .pointer (some ⟨b1, 0, none⟩)), (7, .bool t1), (8, v1), (9, v2), (26, v1)]) (by kernel_rfl) (by kernel_rfl) fun a hS => ?_
  obtain ⟨t4, ht4, hf⟩ := bind_some hf
  refine wl_eff (d := (some 27)) (op := (Op.call { callee := (Callee.value (Operand.func 21)), args := #[(Operand.tmp 26)], argTypes := #[22] })) (g := none) hS (by kernel_rfl) (by kernel_rfl) (eff_fn (by kernel_rfl) rfl (by kernel_rfl) (extent_All_ok k _ t2 v1 (rds_of_row (C.okL 1 _ rfl)) t4 ht4)) ?_
  rintro v3 _ ⟨hw, hr3⟩ a hS
  have C := got_own C hw hr3
  refine wl_pures (j := 3) hS 1 [5, 7, 8, 9, 10] (m' := [(5, .pointer (some ⟨b1, 0, none⟩)), (7, .bool t1), (8, v1), (9, v2), (10, v3)]) (by kernel_rfl) (by kernel_rfl) fun a hS => ?_
  refine wl_nil (by kernel_rfl) ?_
  refine q_then ?_
  refine c_seq (by kernel_rfl) ?_
  refine c_region (by kernel_rfl) ?_
  refine wl_pures (j := 1) hS 1 [5, 7, 8, 9, 10, 28] (m' := [(5, .pointer (some ⟨b1, 0, none⟩)), (7, .bool t1), (8, v1), (9, v2), (10, v3), (28, v1)]) (by kernel_rfl) (by kernel_rfl) fun a hS => ?_
  obtain ⟨t5, ht5, hf⟩ := bind_some hf
  refine wl_eff (d := (some 29)) (op := (Op.call { callee := (Callee.value (Operand.func 22)), args := #[(Operand.tmp 28)], argTypes := #[22] })) (g := none) hS (by kernel_rfl) (by kernel_rfl) (eff_fn (by kernel_rfl) rfl (by kernel_rfl) (scriniumref06_All_ok k _ t2 v1 (rds_of_row (C.okL 1 _ rfl)) t5 ht5)) ?_
  rintro v4 _ ⟨hw, hr4⟩ a hS
  have C := got_own C hw hr4
  refine wl_pures (j := 3) hS 1 [5, 7, 8, 9, 10, 11] (m' := [(5, .pointer (some ⟨b1, 0, none⟩)), (7, .bool t1), (8, v1), (9, v2), (10, v3), (11, v4)]) (by kernel_rfl) (by kernel_rfl) fun a hS => ?_
  refine wl_nil (by kernel_rfl) ?_
  refine q_then ?_
  refine c_seq (by kernel_rfl) ?_
  refine c_seq (by kernel_rfl) ?_
  refine c_region (by kernel_rfl) ?_
  refine wl_pures (j := 1) hS 1 [5, 7, 8, 9, 10, 11, 30] (m' := [(5, .pointer (some ⟨b1, 0, none⟩)), (7, .bool t1), (8, v1), (9, v2), (10, v3), (11, v4), (30, v3)]) (by kernel_rfl) (by kernel_rfl) fun a hS => ?_
  refine wl_val (d := (some 31)) (op := (Op.call { callee := (Callee.builtin Builtin.len), args := #[(Operand.tmp 30)], argTypes := #[38] })) (g := none) hS (by kernel_rfl) (by kernel_rfl) (r_len (n := t4.length) (v := v3) (rds_shp (rds_of_row (C.okL 3 _ rfl))) (by kernel_rfl) (by kernel_rfl)) fun a hS => ?_
  refine wl_pures (j := 3) hS 1 [5, 7, 8, 9, 10, 11, 31, 32] (m' := [(5, .pointer (some ⟨b1, 0, none⟩)), (7, .bool t1), (8, v1), (9, v2), (10, v3), (11, v4), (31, .int .i64 (t4.length : Int)), (32, v4)]) (by kernel_rfl) (by kernel_rfl) fun a hS => ?_
  refine wl_val (d := (some 33)) (op := (Op.call { callee := (Callee.builtin Builtin.len), args := #[(Operand.tmp 32)], argTypes := #[38] })) (g := none) hS (by kernel_rfl) (by kernel_rfl) (r_len (n := t5.length) (v := v4) (rds_shp (rds_of_row (C.okL 4 _ rfl))) (by kernel_rfl) (by kernel_rfl)) fun a hS => ?_
  refine wl_pures (j := 5) hS 1 [5, 7, 8, 9, 10, 11, 34] (m' := [(5, .pointer (some ⟨b1, 0, none⟩)), (7, .bool t1), (8, v1), (9, v2), (10, v3), (11, v4), (34, .bool ((t4.length : Int) != (t5.length : Int)))]) (by kernel_rfl) (by kernel_rfl) fun a hS => ?_
  refine wl_nil (by kernel_rfl) ?_
  refine q_then ?_
  refine c_if (b := ((t4.length : Int) != (t5.length : Int))) hS (by kernel_rfl) (by kernel_rfl) (fun hb => ?_) (fun hb => ?_)
  · have hf := opt_t hb hf
    refine c_seq (by kernel_rfl) ?_
    refine c_region (by kernel_rfl) ?_
    refine wl_pures (j := 1) hS 1 [6] (m' := [(6, .bool false)]) (by kernel_rfl) (by kernel_rfl) fun a hS => ?_
    refine wl_nil (by kernel_rfl) ?_
    refine q_then ?_
    refine c_ret (by kernel_rfl) ?_
    refine q_thenr ?_
    refine q_ret hS (vs := [.bool false]) (by kernel_rfl) ?_
    obtain rfl := Option.some.inj hf
    exact ⟨_, rfl, rfl, C.fr⟩
  · have hf := opt_f hb hf
    refine c_skip (by kernel_rfl) ?_
    refine q_then ?_
    refine c_seq (by kernel_rfl) ?_
    refine c_seq (by kernel_rfl) ?_
    refine c_region (by kernel_rfl) ?_
    refine wl_pures (j := 1) hS 1 [5, 7, 8, 9, 10, 11, 12] (m' := [(5, .pointer (some ⟨b1, 0, none⟩)), (7, .bool t1), (8, v1), (9, v2), (10, v3), (11, v4), (12, .int .i64 0)]) (by kernel_rfl) (by kernel_rfl) fun a hS => ?_
    refine wl_nil (by kernel_rfl) ?_
    refine q_then ?_
    refine c_block (i := 0) (by kernel_rfl) ?_
    refine c_loop (by kernel_rfl) (fun kk1 a w => ∃ b6 : Nat, ∃ x8 : Bool, ∃ l17 : List S_Run, ∃ v21 : Value, ∃ l18 : List S_Run, ∃ v22 : Value, ∃ l19 : List Int, ∃ v23 : Value, ∃ l20 : List Int, ∃ v24 : Value, ∃ x9 : Int, scriniumlaw06_ExtentFiles.l1 p2 kk1 x8 l17 l18 l19 l20 x9 = some res ∧ Sl 103 [(5, .pointer (some ⟨b6, 0, none⟩)), (7, .bool x8), (8, v21), (9, v22), (10, v23), (11, v24), (12, .int .i64 x9)] a ∧ Ctx w0 nob A0 [boxE b6 37 [.int .i64 p2.e_0, .int .i64 p2.e_1], rowE v21 24 2 l17.length (l17.flatMap F_Run.cells), rowE v22 24 2 l18.length (l18.flatMap F_Run.cells), rowE v23 3 1 l19.length (l19.flatMap (FK .i64).cells), rowE v24 3 1 l20.length (l20.flatMap (FK .i64).cells)] [] w) k ⟨b1, t1, t2, v1, t3, v2, t4, v3, t5, v4, 0, hf, hS.keep [5, 7, 8, 9, 10, 11, 12] (by kernel_rfl), ctx_pick [0, 1, 2, 3, 4] [] C (by kernel_rfl) rfl rfl⟩ ?_
    rintro kk1 a w ⟨b6, x8, l17, v21, l18, v22, l19, v23, l20, v24, x9, hf, hS, C⟩
    cases kk1 with
    | zero => exact no_none hf
    | succ kk1 =>
      rw [scriniumlaw06_ExtentFiles.l1] at hf
      refine c_seq (by kernel_rfl) ?_
      refine c_seq (by kernel_rfl) ?_
      refine c_region (by kernel_rfl) ?_
      refine wl_pures (j := 2) hS 2 [5, 7, 8, 9, 10, 11, 12, 35, 36] (m' := [(5, .pointer (some ⟨b6, 0, none⟩)), (7, .bool x8), (8, v21), (9, v22), (10, v23), (11, v24), (12, .int .i64 x9), (35, .int .i64 x9), (36, v23)]) (by kernel_rfl) (by kernel_rfl) fun a hS => ?_
      refine wl_val (d := (some 37)) (op := (Op.call { callee := (Callee.builtin Builtin.len), args := #[(Operand.tmp 36)], argTypes := #[38] })) (g := none) hS (by kernel_rfl) (by kernel_rfl) (r_len (n := l19.length) (v := v23) (rds_shp (rds_of_row (C.okL 3 _ rfl))) (by kernel_rfl) (by kernel_rfl)) fun a hS => ?_
      refine wl_pures (j := 4) hS 1 [5, 7, 8, 9, 10, 11, 12, 38] (m' := [(5, .pointer (some ⟨b6, 0, none⟩)), (7, .bool x8), (8, v21), (9, v22), (10, v23), (11, v24), (12, .int .i64 x9), (38, .bool (decide (x9 < (l19.length : Int))))]) (by kernel_rfl) (by kernel_rfl) fun a hS => ?_
      refine wl_nil (by kernel_rfl) ?_
      refine q_then ?_
      refine c_if (b := (decide (x9 < (l19.length : Int)))) hS (by kernel_rfl) (by kernel_rfl) (fun hb => ?_) (fun hb => ?_)
      · have hf := opt_t hb hf
        refine c_skip (by kernel_rfl) ?_
        refine q_then ?_
        refine c_seq (by kernel_rfl) ?_
        refine c_block (i := 1) (by kernel_rfl) ?_
        refine c_seq (by kernel_rfl) ?_
        refine c_drawsC [0, 1, 2, 3, 4] [] 9 C (by kernel_rfl) (by kernel_rfl) (by kernel_rfl) (N := 9) (by kernel_rfl) (by kernel_rfl) fun _ C => ?_
        refine dr_pures (fuel := 5) (l' := [5, 4, 1, 0]) hS (ctx_pick [0, 1, 2, 3, 4] [] C (by kernel_rfl) rfl rfl) [0, 1, 4, 5] [5, 7, 8, 9, 10, 11, 12, 41, 42, 45, 46] (m' := [(5, .pointer (some ⟨b6, 0, none⟩)), (7, .bool x8), (8, v21), (9, v22), (10, v23), (11, v24), (12, .int .i64 x9), (41, v23), (42, .int .i64 x9), (45, v24), (46, .int .i64 x9)]) (by kernel_rfl) (by kernel_rfl) (by kernel_rfl) fun a hS => ?_
        obtain ⟨hi1, hf⟩ := ite_some hf
        refine dr_take (fuel := 4) (j := 2) (v := .pointer (some (elemA v23 (x9.toNat * 1)))) (d := (some 43)) (op := (Op.indexAddr 38 (Operand.tmp 41) (Operand.tmp 42))) (g := none) hS (by kernel_rfl) (by kernel_rfl) (fun _ CS => r_idx (i := x9) (k := .i64) (v := v23) (sz := 1) (rds_shp (rds_of_row (C.okL 3 _ rfl))) (by kernel_rfl) (by kernel_rfl) hi1.1 hi1.2 (by kernel_rfl)) (ctx_pick [0, 1, 2, 3, 4] [] C (by kernel_rfl) rfl rfl) fun a hS => ?_
        refine dr_take (fuel := 3) (j := 3) (v := .int .i64 ((FK .i64).at_ l19 x9)) (d := (some 44)) (op := (Op.load 3 (Operand.tmp 43))) (g := none) hS (by kernel_rfl) (by kernel_rfl) (fun _ CS => r_ldF0 (FK .i64) (i := x9) (u := .int .i64 ((FK .i64).at_ l19 x9)) (rds_of_row (CS.okL 3 _ rfl)) (by kernel_rfl) hi1.1 hi1.2 (by decide) (by kernel_rfl) (by kernel_rfl)) (ctx_pick [0, 1, 2, 3, 4] [] C (by kernel_rfl) rfl rfl) fun a hS => ?_
        obtain ⟨hi2, hf⟩ := ite_some hf
        refine dr_take (fuel := 2) (j := 6) (v := .pointer (some (elemA v24 (x9.toNat * 1)))) (d := (some 47)) (op := (Op.indexAddr 38 (Operand.tmp 45) (Operand.tmp 46))) (g := none) hS (by kernel_rfl) (by kernel_rfl) (fun _ CS => r_idx (i := x9) (k := .i64) (v := v24) (sz := 1) (rds_shp (rds_of_row (C.okL 4 _ rfl))) (by kernel_rfl) (by kernel_rfl) hi2.1 hi2.2 (by kernel_rfl)) (ctx_pick [0, 1, 2, 3, 4] [] C (by kernel_rfl) rfl rfl) fun a hS => ?_
        refine dr_take (fuel := 1) (j := 7) (v := .int .i64 ((FK .i64).at_ l20 x9)) (d := (some 48)) (op := (Op.load 3 (Operand.tmp 47))) (g := none) hS (by kernel_rfl) (by kernel_rfl) (fun _ CS => r_ldF0 (FK .i64) (i := x9) (u := .int .i64 ((FK .i64).at_ l20 x9)) (rds_of_row (CS.okL 4 _ rfl)) (by kernel_rfl) hi2.1 hi2.2 (by decide) (by kernel_rfl) (by kernel_rfl)) (ctx_pick [0, 1, 2, 3, 4] [] C (by kernel_rfl) rfl rfl) fun a hS => ?_
        refine dr_pures (fuel := 0) (l' := [8, 7, 6, 3, 2, 5, 4, 1, 0]) hS (ctx_pick [0, 1, 2, 3, 4] [] C (by kernel_rfl) rfl rfl) [8] [5, 7, 8, 9, 10, 11, 12, 49] (m' := [(5, .pointer (some ⟨b6, 0, none⟩)), (7, .bool x8), (8, v21), (9, v22), (10, v23), (11, v24), (12, .int .i64 x9), (49, .bool (((FK .i64).at_ l19 x9) != ((FK .i64).at_ l20 x9)))]) (by kernel_rfl) (by kernel_rfl) (by kernel_rfl) fun a hS => ?_
        refine dr_done (by kernel_rfl) ?_
        refine q_then ?_
        refine c_if (b := (((FK .i64).at_ l19 x9) != ((FK .i64).at_ l20 x9))) hS (by kernel_rfl) (by kernel_rfl) (fun hb => ?_) (fun hb => ?_)
        · have hf := opt_t hb hf
          refine c_seq (by kernel_rfl) ?_
          refine c_region (by kernel_rfl) ?_
          refine wl_pures (j := 1) hS 1 [6] (m' := [(6, .bool false)]) (by kernel_rfl) (by kernel_rfl) fun a hS => ?_
          refine wl_nil (by kernel_rfl) ?_
          refine q_then ?_
          refine c_ret (by kernel_rfl) ?_
          refine q_inr ?_
          refine q_thenr ?_
          refine q_thenr ?_
          refine q_inr ?_
          refine q_thenr ?_
          refine q_ret hS (vs := [.bool false]) (by kernel_rfl) ?_
          obtain rfl := Option.some.inj hf
          exact ⟨_, rfl, rfl, C.fr⟩
        · have hf := opt_f hb hf
          refine c_skip (by kernel_rfl) ?_
          refine q_in ?_
          refine q_then ?_
          refine c_region (by kernel_rfl) ?_
          refine wl_pures (j := 3) hS 3 [5, 7, 8, 9, 10, 11, 12] (m' := [(5, .pointer (some ⟨b6, 0, none⟩)), (7, .bool x8), (8, v21), (9, v22), (10, v23), (11, v24), (12, .int .i64 (W64 (x9 + 1)))]) (by kernel_rfl) (by kernel_rfl) fun a hS => ?_
          refine wl_nil (by kernel_rfl) ?_
          exact q_then ⟨kk1, Nat.lt_succ_self kk1, b6, x8, l17, v21, l18, v22, l19, v23, l20, v24, (W64 (x9 + 1)), hf, hS.keep [5, 7, 8, 9, 10, 11, 12] (by kernel_rfl), ctx_pick [0, 1, 2, 3, 4] [] C (by kernel_rfl) rfl rfl⟩
      · have hf := opt_f hb hf
        refine c_exit (i := 0) (by kernel_rfl) ?_
        refine q_thenx ?_
        refine q_thenx ?_
        refine q_inx ?_
        refine q_then ?_
        refine c_seq (by kernel_rfl) ?_
        refine c_drawsC [0, 1, 2, 3, 4] [] 14 C (by kernel_rfl) (by kernel_rfl) (by kernel_rfl) (N := 14) (by kernel_rfl) (by kernel_rfl) fun _ C => ?_
        refine dr_pures (fuel := 8) (l' := [9, 7, 6, 3, 1, 0]) hS (ctx_pick [0, 1, 2, 3, 4] [] C (by kernel_rfl) rfl rfl) [0, 1, 3, 6, 7, 9] [5, 7, 8, 9, 50, 51, 53, 56, 57, 59] (m' := [(5, .pointer (some ⟨b6, 0, none⟩)), (7, .bool x8), (8, v21), (9, v22), (50, v21), (51, .pointer (some ⟨b6, 0, none⟩)), (53, .pointer (some ⟨b6, 1, none⟩)), (56, v21), (57, .pointer (some ⟨b6, 0, none⟩)), (59, .pointer (some ⟨b6, 1, none⟩))]) (by kernel_rfl) (by kernel_rfl) (by kernel_rfl) fun a hS => ?_
        refine dr_take (fuel := 7) (j := 2) (v := .int .i64 p2.e_0) (d := (some 52)) (op := (Op.load 3 (Operand.tmp 51))) (g := none) hS (by kernel_rfl) (by kernel_rfl) (fun _ CS => r_ldb (li := 0) (off := 0) (u := .int .i64 p2.e_0) CS rfl (by kernel_rfl) (by kernel_rfl) (by kernel_rfl)) (ctx_pick [0, 1, 2, 3, 4] [] C (by kernel_rfl) rfl rfl) fun a hS => ?_
        refine dr_take (fuel := 6) (j := 4) (v := .int .i64 p2.e_1) (d := (some 54)) (op := (Op.load 3 (Operand.tmp 53))) (g := none) hS (by kernel_rfl) (by kernel_rfl) (fun _ CS => r_ldb (li := 0) (off := 1) (u := .int .i64 p2.e_1) CS rfl (by kernel_rfl) (by kernel_rfl) (by kernel_rfl)) (ctx_pick [0, 1, 2, 3, 4] [] C (by kernel_rfl) rfl rfl) fun a hS => ?_
        refine dr_take (fuel := 5) (j := 8) (v := .int .i64 p2.e_0) (d := (some 58)) (op := (Op.load 3 (Operand.tmp 57))) (g := none) hS (by kernel_rfl) (by kernel_rfl) (fun _ CS => r_ldb (li := 0) (off := 0) (u := .int .i64 p2.e_0) CS rfl (by kernel_rfl) (by kernel_rfl) (by kernel_rfl)) (ctx_pick [0, 1, 2, 3, 4] [] C (by kernel_rfl) rfl rfl) fun a hS => ?_
        refine dr_take (fuel := 4) (j := 10) (v := .int .i64 p2.e_1) (d := (some 60)) (op := (Op.load 3 (Operand.tmp 59))) (g := none) hS (by kernel_rfl) (by kernel_rfl) (fun _ CS => r_ldb (li := 0) (off := 1) (u := .int .i64 p2.e_1) CS rfl (by kernel_rfl) (by kernel_rfl) (by kernel_rfl)) (ctx_pick [0, 1, 2, 3, 4] [] C (by kernel_rfl) rfl rfl) fun a hS => ?_
        obtain ⟨t6, ht6, hf⟩ := bind_some hf
        refine dr_eff (fuel := 3) (j := 5) (d := (some 55)) (op := (Op.call { callee := (Callee.value (Operand.func 23)), args := #[(Operand.tmp 50), (Operand.tmp 52), (Operand.tmp 54)], argTypes := #[22, 3, 3] })) (g := none) hS (by kernel_rfl) (by kernel_rfl) (by kernel_rfl) (eff_fn (by kernel_rfl) rfl (by kernel_rfl) (extent_Rest_ok kk1 _ l17 p2.e_0 p2.e_1 v21 (rds_of_row (C.okL 1 _ rfl)) t6 ht6)) ?_
        rintro v25 _ ⟨hw, hr5⟩
        have C := got_own C hw hr5
        refine ⟨.inr (ctx_pick [0, 1, 2, 3, 4] [] C (by kernel_rfl) rfl rfl), fun a hS => ?_⟩
        obtain ⟨t7, ht7, hf⟩ := bind_some hf
        refine dr_eff (fuel := 2) (j := 11) (d := (some 61)) (op := (Op.call { callee := (Callee.value (Operand.func 24)), args := #[(Operand.tmp 56), (Operand.tmp 58), (Operand.tmp 60)], argTypes := #[22, 3, 3] })) (g := none) hS (by kernel_rfl) (by kernel_rfl) (by kernel_rfl) (eff_fn (by kernel_rfl) rfl (by kernel_rfl) (scriniumref06_Rest_ok kk1 _ l17 p2.e_0 p2.e_1 v21 (rds_of_row (C.okL 1 _ rfl)) t7 ht7)) ?_
        rintro v26 _ ⟨hw, hr6⟩
        have C := got_own C hw hr6
        refine ⟨.inr (ctx_pick [0, 1, 2, 3, 4] [] C (by kernel_rfl) rfl rfl), fun a hS => ?_⟩
        obtain ⟨t8, ht8, hf⟩ := bind_some hf
        refine dr_eff (fuel := 1) (j := 12) (d := (some 62)) (op := (Op.call { callee := (Callee.value (Operand.func 16)), args := #[(Operand.tmp 55), (Operand.tmp 61)], argTypes := #[22, 22] })) (g := none) hS (by kernel_rfl) (by kernel_rfl) (by kernel_rfl) (eff_fn (by kernel_rfl) rfl (by kernel_rfl) (scriniumref06_Same_ok kk1 _ t6 t7 v25 v26 (rds_of_row (C.okL 5 _ rfl)) (rds_of_row (C.okL 6 _ rfl)) t8 ht8)) ?_
        rintro _ _ ⟨rfl, hw⟩
        have C := ctx_still C hw
        refine ⟨.inr (ctx_pick [0, 1, 2, 3, 4] [] C (by kernel_rfl) rfl rfl), fun a hS => ?_⟩
        refine dr_pures (fuel := 0) (l' := [13, 12, 11, 5, 10, 8, 4, 2, 9, 7, 6, 3, 1, 0]) hS (ctx_pick [0, 1, 2, 3, 4] [] C (by kernel_rfl) rfl rfl) [13] [5, 7, 8, 9, 13] (m' := [(5, .pointer (some ⟨b6, 0, none⟩)), (7, .bool x8), (8, v21), (9, v22), (13, .bool t8)]) (by kernel_rfl) (by kernel_rfl) (by kernel_rfl) fun a hS => ?_
        refine dr_done (by kernel_rfl) ?_
        refine q_then ?_
        refine c_seq (by kernel_rfl) ?_
        refine c_region (by kernel_rfl) ?_
        refine wl_pures (j := 2) hS 2 [5, 7, 8, 9, 13, 63, 64] (m' := [(5, .pointer (some ⟨b6, 0, none⟩)), (7, .bool x8), (8, v21), (9, v22), (13, .bool t8), (63, v21), (64, v22)]) (by kernel_rfl) (by kernel_rfl) fun a hS => ?_
        obtain ⟨t9, ht9, hf⟩ := bind_some hf
        have C := ctx_unown (li := 1) C rfl
        have C := ctx_unown (li := 2) C rfl
        refine wl_eff (d := (some 65)) (op := (Op.call { callee := (Callee.value (Operand.func 25)), args := #[(Operand.tmp 63), (Operand.tmp 64)], argTypes := #[22, 22] })) (g := none) hS (by kernel_rfl) (by kernel_rfl) (eff_fn (by kernel_rfl) rfl (by kernel_rfl) (extent_Join_ok kk1 _ l17 l18 v21 v22 (C.okR 0 _ rfl) (C.okR 1 _ rfl) t9 ht9)) ?_
        rintro v27 _ ⟨hw, hr7⟩ a hS
        have C := got_lies C hw hr7 (dom_two (j := 0) (k := 1) rfl rfl)
        refine wl_pures (j := 5) hS 2 [5, 7, 8, 13, 65, 66, 67] (m' := [(5, .pointer (some ⟨b6, 0, none⟩)), (7, .bool x8), (8, v21), (13, .bool t8), (65, v27), (66, v21), (67, v22)]) (by kernel_rfl) (by kernel_rfl) fun a hS => ?_
        obtain ⟨t10, ht10, hf⟩ := bind_some hf
        refine wl_eff (d := (some 68)) (op := (Op.call { callee := (Callee.value (Operand.func 26)), args := #[(Operand.tmp 66), (Operand.tmp 67)], argTypes := #[22, 22] })) (g := none) hS (by kernel_rfl) (by kernel_rfl) (eff_fn (by kernel_rfl) rfl (by kernel_rfl) (scriniumref06_Join_ok kk1 _ l17 l18 v21 v22 (C.okR 0 _ rfl) (C.okR 1 _ rfl) t10 ht10)) ?_
        rintro v28 _ ⟨hw, hr8⟩ a hS
        have C := got_own C hw hr8
        obtain ⟨t11, ht11, hf⟩ := bind_some hf
        refine wl_eff (d := (some 69)) (op := (Op.call { callee := (Callee.value (Operand.func 16)), args := #[(Operand.tmp 65), (Operand.tmp 68)], argTypes := #[22, 22] })) (g := none) hS (by kernel_rfl) (by kernel_rfl) (eff_fn (by kernel_rfl) rfl (by kernel_rfl) (scriniumref06_Same_ok kk1 _ t9 t10 v27 v28 (C.okR 2 _ rfl) (rds_of_row (C.okL 7 _ rfl)) t11 ht11)) ?_
        rintro _ _ ⟨rfl, hw⟩ a hS
        have C := ctx_still C hw
        refine wl_pures (j := 8) hS 1 [5, 7, 8, 13, 14] (m' := [(5, .pointer (some ⟨b6, 0, none⟩)), (7, .bool x8), (8, v21), (13, .bool t8), (14, .bool t11)]) (by kernel_rfl) (by kernel_rfl) fun a hS => ?_
        refine wl_nil (by kernel_rfl) ?_
        refine q_then ?_
        refine c_seq (by kernel_rfl) ?_
        refine c_region (by kernel_rfl) ?_
        refine wl_pures (j := 2) hS 2 [5, 7, 8, 13, 14, 71, 72] (m' := [(5, .pointer (some ⟨b6, 0, none⟩)), (7, .bool x8), (8, v21), (13, .bool t8), (14, .bool t11), (71, v21), (72, .pointer (some ⟨b6, 0, none⟩))]) (by kernel_rfl) (by kernel_rfl) fun a hS => ?_
        refine wl_val (d := (some 73)) (op := (Op.load 3 (Operand.tmp 72))) (g := none) hS (by kernel_rfl) (by kernel_rfl) (r_ldb (li := 0) (off := 0) (u := .int .i64 p2.e_0) C rfl (by kernel_rfl) (by kernel_rfl) (by kernel_rfl)) fun a hS => ?_
        obtain ⟨t12, ht12, hf⟩ := bind_some hf
        refine wl_eff (d := (some 74)) (op := (Op.call { callee := (Callee.value (Operand.func 27)), args := #[(Operand.tmp 71), (Operand.tmp 73)], argTypes := #[22, 3] })) (g := none) hS (by kernel_rfl) (by kernel_rfl) (eff_fn (by kernel_rfl) rfl (by kernel_rfl) (extent_Cut_ok kk1 _ l17 p2.e_0 v21 (C.okR 0 _ rfl) t12 ht12)) ?_
        rintro _ _ ⟨v29, v30, rfl, hw, hr9, hr10⟩ a hS
        have CC := C
        have C := got_lies C hw hr9 (fun _ h => h.elim)
        have C := got_more CC C hw hr10 (fun _ h => h.elim)
        refine wl_pures (j := 9) hS 5 [5, 7, 8, 13, 14, 15, 16] (m' := [(5, .pointer (some ⟨b6, 0, none⟩)), (7, .bool x8), (8, v21), (13, .bool t8), (14, .bool t11), (15, v29), (16, v30)]) (by kernel_rfl) (by kernel_rfl) fun a hS => ?_
        refine wl_nil (by kernel_rfl) ?_
        refine q_then ?_
        refine c_seq (by kernel_rfl) ?_
        refine c_region (by kernel_rfl) ?_
        refine wl_pures (j := 2) hS 2 [7, 13, 14, 15, 16, 78, 79] (m' := [(7, .bool x8), (13, .bool t8), (14, .bool t11), (15, v29), (16, v30), (78, v21), (79, .pointer (some ⟨b6, 0, none⟩))]) (by kernel_rfl) (by kernel_rfl) fun a hS => ?_
        refine wl_val (d := (some 80)) (op := (Op.load 3 (Operand.tmp 79))) (g := none) hS (by kernel_rfl) (by kernel_rfl) (r_ldb (li := 0) (off := 0) (u := .int .i64 p2.e_0) C rfl (by kernel_rfl) (by kernel_rfl) (by kernel_rfl)) fun a hS => ?_
        obtain ⟨t13, ht13, hf⟩ := bind_some hf
        refine wl_eff (d := (some 81)) (op := (Op.call { callee := (Callee.value (Operand.func 28)), args := #[(Operand.tmp 78), (Operand.tmp 80)], argTypes := #[22, 3] })) (g := none) hS (by kernel_rfl) (by kernel_rfl) (eff_fn (by kernel_rfl) rfl (by kernel_rfl) (scriniumref06_Cut_ok kk1 _ l17 p2.e_0 v21 (C.okR 0 _ rfl) t13 ht13)) ?_
        rintro _ _ ⟨v31, v32, rfl, hw, hr11, hr12⟩ a hS
        have CC := C
        have C := got_lies C hw hr11 (fun _ h => h.elim)
        have C := got_more CC C hw hr12 (fun _ h => h.elim)
        refine wl_pures (j := 9) hS 5 [7, 13, 14, 15, 16, 17, 18] (m' := [(7, .bool x8), (13, .bool t8), (14, .bool t11), (15, v29), (16, v30), (17, v31), (18, v32)]) (by kernel_rfl) (by kernel_rfl) fun a hS => ?_
        refine wl_nil (by kernel_rfl) ?_
        refine q_then ?_
        refine c_seq (by kernel_rfl) ?_
        refine c_region (by kernel_rfl) ?_
        refine wl_pures (j := 2) hS 2 [7, 13, 14, 16, 18, 84, 85] (m' := [(7, .bool x8), (13, .bool t8), (14, .bool t11), (16, v30), (18, v32), (84, v29), (85, v31)]) (by kernel_rfl) (by kernel_rfl) fun a hS => ?_
        obtain ⟨t14, ht14, hf⟩ := bind_some hf
        refine wl_eff (d := (some 86)) (op := (Op.call { callee := (Callee.value (Operand.func 16)), args := #[(Operand.tmp 84), (Operand.tmp 85)], argTypes := #[22, 22] })) (g := none) hS (by kernel_rfl) (by kernel_rfl) (eff_fn (by kernel_rfl) rfl (by kernel_rfl) (scriniumref06_Same_ok kk1 _ t12.1 t13.1 v29 v31 (C.okR 3 _ rfl) (C.okR 5 _ rfl) t14 ht14)) ?_
        rintro _ _ ⟨rfl, hw⟩ a hS
        have C := ctx_still C hw
        refine wl_pures (j := 4) hS 1 [7, 13, 14, 16, 18, 19] (m' := [(7, .bool x8), (13, .bool t8), (14, .bool t11), (16, v30), (18, v32), (19, .bool t14)]) (by kernel_rfl) (by kernel_rfl) fun a hS => ?_
        refine wl_nil (by kernel_rfl) ?_
        refine q_then ?_
        refine c_seq (by kernel_rfl) ?_
        refine c_region (by kernel_rfl) ?_
        refine wl_pures (j := 2) hS 2 [7, 13, 14, 19, 87, 88] (m' := [(7, .bool x8), (13, .bool t8), (14, .bool t11), (19, .bool t14), (87, v30), (88, v32)]) (by kernel_rfl) (by kernel_rfl) fun a hS => ?_
        obtain ⟨t15, ht15, hf⟩ := bind_some hf
        refine wl_eff (d := (some 89)) (op := (Op.call { callee := (Callee.value (Operand.func 16)), args := #[(Operand.tmp 87), (Operand.tmp 88)], argTypes := #[22, 22] })) (g := none) hS (by kernel_rfl) (by kernel_rfl) (eff_fn (by kernel_rfl) rfl (by kernel_rfl) (scriniumref06_Same_ok kk1 _ t12.2 t13.2 v30 v32 (C.okR 4 _ rfl) (C.okR 6 _ rfl) t15 ht15)) ?_
        rintro _ _ ⟨rfl, hw⟩ a hS
        have C := ctx_still C hw
        refine wl_pures (j := 4) hS 1 [7, 13, 14, 19, 20] (m' := [(7, .bool x8), (13, .bool t8), (14, .bool t11), (19, .bool t14), (20, .bool t15)]) (by kernel_rfl) (by kernel_rfl) fun a hS => ?_
        refine wl_nil (by kernel_rfl) ?_
        refine q_then ?_
        refine c_seq (by kernel_rfl) ?_
        refine c_region (by kernel_rfl) ?_
        refine wl_pures (j := 2) hS 2 [13, 14, 19, 20, 91] (m' := [(13, .bool t8), (14, .bool t11), (19, .bool t14), (20, .bool t15), (91, .bool x8)]) (by kernel_rfl) (by kernel_rfl) fun a hS => ?_
        rcases Bool.eq_false_or_eq_true x8 with hb | hb
        · rw [hb] at hS
          have hf := opt_t hb hf
          refine wl_pures (j := 5) hS 3 [14, 19, 20, 94] (m' := [(14, .bool t11), (19, .bool t14), (20, .bool t15), (94, .bool t8)]) (by kernel_rfl) (by kernel_rfl) fun a hS => ?_
          rcases Bool.eq_false_or_eq_true t8 with hb | hb
          · rw [hb] at hS
            have hf := opt_t hb hf
            refine wl_pures (j := 8) hS 3 [19, 20, 97] (m' := [(19, .bool t14), (20, .bool t15), (97, .bool t11)]) (by kernel_rfl) (by kernel_rfl) fun a hS => ?_
            rcases Bool.eq_false_or_eq_true t11 with hb | hb
            · rw [hb] at hS
              have hf := opt_t hb hf
              refine wl_pures (j := 11) hS 3 [20, 100] (m' := [(20, .bool t15), (100, .bool t14)]) (by kernel_rfl) (by kernel_rfl) fun a hS => ?_
              rcases Bool.eq_false_or_eq_true t14 with hb | hb
              · rw [hb] at hS
                have hf := opt_t hb hf
                refine wl_pures (j := 14) hS 3 [6] (m' := [(6, .bool t15)]) (by kernel_rfl) (by kernel_rfl) fun a hS => ?_
                refine wl_nil (by kernel_rfl) ?_
                refine q_then ?_
                refine c_ret (by kernel_rfl) ?_
                refine q_ret hS (vs := [.bool t15]) (by kernel_rfl) ?_
                obtain rfl := Option.some.inj hf
                exact ⟨_, rfl, rfl, C.fr⟩
              · rw [hb] at hS
                have hf := opt_f hb hf
                refine wl_pures (j := 14) hS 3 [6] (m' := [(6, .bool false)]) (by kernel_rfl) (by kernel_rfl) fun a hS => ?_
                refine wl_nil (by kernel_rfl) ?_
                refine q_then ?_
                refine c_ret (by kernel_rfl) ?_
                refine q_ret hS (vs := [.bool false]) (by kernel_rfl) ?_
                obtain rfl := Option.some.inj hf
                exact ⟨_, rfl, rfl, C.fr⟩
            · rw [hb] at hS
              have hf := opt_f hb hf
              refine wl_pures (j := 14) hS 6 [6] (m' := [(6, .bool false)]) (by kernel_rfl) (by kernel_rfl) fun a hS => ?_
              refine wl_nil (by kernel_rfl) ?_
              refine q_then ?_
              refine c_ret (by kernel_rfl) ?_
              refine q_ret hS (vs := [.bool false]) (by kernel_rfl) ?_
              obtain rfl := Option.some.inj hf
              exact ⟨_, rfl, rfl, C.fr⟩
          · rw [hb] at hS
            have hf := opt_f hb hf
            refine wl_pures (j := 14) hS 9 [6] (m' := [(6, .bool false)]) (by kernel_rfl) (by kernel_rfl) fun a hS => ?_
            refine wl_nil (by kernel_rfl) ?_
            refine q_then ?_
            refine c_ret (by kernel_rfl) ?_
            refine q_ret hS (vs := [.bool false]) (by kernel_rfl) ?_
            obtain rfl := Option.some.inj hf
            exact ⟨_, rfl, rfl, C.fr⟩
        · rw [hb] at hS
          have hf := opt_f hb hf
          refine wl_pures (j := 14) hS 12 [6] (m' := [(6, .bool false)]) (by kernel_rfl) (by kernel_rfl) fun a hS => ?_
          refine wl_nil (by kernel_rfl) ?_
          refine q_then ?_
          refine c_ret (by kernel_rfl) ?_
          refine q_ret hS (vs := [.bool false]) (by kernel_rfl) ?_
          obtain rfl := Option.some.inj hf
          exact ⟨_, rfl, rfl, C.fr⟩

def scriniumlaw06_ExtentCuts.l1 (x1 : Bool) (x2 : Int) (x3 : Int) (l2 : List S_Run) (l3 : List S_Run) (l4 : List Int) (l5 : List Int) : Nat → Int → Option Bool
  | 0, _ => none
  | kk1 + 1, x8 => (if (decide (x8 < (l4.length : Int))) = true then (if 0 ≤ x8 ∧ x8 < (l4.length : Int) then (if 0 ≤ x8 ∧ x8 < (l5.length : Int) then (if (((FK .i64).at_ l4 x8) != ((FK .i64).at_ l5 x8)) = true then (some false) else (scriniumlaw06_ExtentCuts.l1 x1 x2 x3 l2 l3 l4 l5 kk1) (W64 (x8 + 1))) else none) else none) else (if x1 = true then ((extent_Total.f kk1 l2).bind fun t8 => (if (t8 == x3) = true then ((extent_Total.f kk1 l3).bind fun t9 => (some (t9 == (W64 (x2 - x3))))) else (some false))) else (some false)))
def scriniumlaw06_ExtentCuts.j1 (k : Nat) (x1 : Bool) (l1 : List S_Run) (x2 : Int) (x3 : Int) (l2 : List S_Run) (l3 : List S_Run) (l4 : List Int) (l5 : List Int) (x4 : Bool) : Option Bool := (if x4 = true then (some false) else scriniumlaw06_ExtentCuts.l1 x1 x2 x3 l2 l3 l4 l5 k 0)
def scriniumlaw06_ExtentCuts.j2 (k : Nat) (x1 : Bool) (l1 : List S_Run) (x2 : Int) (x3 : Int) : Option Bool := ((extent_Cut.f k l1 x3).bind fun t4 => ((extent_All.f k l1).bind fun t5 => ((extent_Join.f k t4.1 t4.2).bind fun t6 => ((extent_All.f k t6).bind fun t7 => (if ((t5.length : Int) != (t7.length : Int)) = true then scriniumlaw06_ExtentCuts.j1 k x1 l1 x2 x3 t4.1 t4.2 t5 t7 true else scriniumlaw06_ExtentCuts.j1 k x1 l1 x2 x3 t4.1 t4.2 t5 t7 ((t5.length : Int) != x2))))))
def scriniumlaw06_ExtentCuts.f (k : Nat) (p0 : (List S_Run)) (p1 : Int) : Option Bool := ((scriniumlaw06_awake.f k).bind fun t1 => ((scriniumlaw06_file.f k p0).bind fun t2 => ((extent_Total.f k t2).bind fun t3 => (if (W64 (t3 + 1)) ≠ 0 then (if (decide ((p1.tmod (W64 (t3 + 1))) < 0)) = true then scriniumlaw06_ExtentCuts.j2 k t1 t2 t3 (W64 (0 - (p1.tmod (W64 (t3 + 1))))) else scriniumlaw06_ExtentCuts.j2 k t1 t2 t3 (p1.tmod (W64 (t3 + 1)))) else none))))
theorem scriniumlaw06_ExtentCuts_ok (k : Nat) (w0 : World) (p0 : (List S_Run)) (p1 : Int) (v_0 : Value) (h_0 : Rds v_0 p0.length 2 (p0.flatMap F_Run.cells) w0) (res : Bool) (hf : scriniumlaw06_ExtentCuts.f k p0 p1 = some res) :
    Fn Try.prog 6 [v_0, .int .i64 p1] w0 (fun v w' => v = .bool res ∧ Fr nob w0 w') := by
  have C := ctx_start w0 [rdE v_0 p0.length 2 (p0.flatMap F_Run.cells)] (start1 h_0)
  generalize allDom [rdE v_0 p0.length 2 (p0.flatMap F_Run.cells)] = A0 at C
  refine f_enter (fn := Try.f6) (k := 78) rfl rfl rfl fun a hS => ?_
  have hS : Sl 80 [(0, v_0), (1, .int .i64 p1)] a := hS
  rw [scriniumlaw06_ExtentCuts.f] at hf
  refine c_seq (by kernel_rfl) ?_
  refine c_region (by kernel_rfl) ?_
  refine wl_pures (j := 1) hS 1 [0, 1] (m' := [(0, v_0), (1, .int .i64 p1)]) (by kernel_rfl) (by kernel_rfl) fun a hS => ?_
  refine wl_nil (by kernel_rfl) ?_
  refine q_then ?_
  refine c_seq (by kernel_rfl) ?_
  refine c_region (by kernel_rfl) ?_
  obtain ⟨t1, ht1, hf⟩ := bind_some hf
  refine wl_eff (d := (some 14)) (op := (Op.call { callee := (Callee.value (Operand.func 9)), args := #[], argTypes := #[] })) (g := none) hS (by kernel_rfl) (by kernel_rfl) (eff_fn (by kernel_rfl) rfl (by kernel_rfl) (scriniumlaw06_awake_ok k _ t1 ht1)) ?_
  rintro _ _ ⟨rfl, hw⟩ a hS
  have C := ctx_still C hw
  refine wl_pures (j := 2) hS 1 [0, 1, 5] (m' := [(0, v_0), (1, .int .i64 p1), (5, .bool t1)]) (by kernel_rfl) (by kernel_rfl) fun a hS => ?_
  refine wl_nil (by kernel_rfl) ?_
  refine q_then ?_
  refine c_seq (by kernel_rfl) ?_
  refine c_region (by kernel_rfl) ?_
  refine wl_pures (j := 1) hS 1 [1, 5, 15] (m' := [(1, .int .i64 p1), (5, .bool t1), (15, v_0)]) (by kernel_rfl) (by kernel_rfl) fun a hS => ?_
  obtain ⟨t2, ht2, hf⟩ := bind_some hf
  refine wl_eff (d := (some 16)) (op := (Op.call { callee := (Callee.value (Operand.func 18)), args := #[(Operand.tmp 15)], argTypes := #[22] })) (g := none) hS (by kernel_rfl) (by kernel_rfl) (eff_fn (by kernel_rfl) rfl (by kernel_rfl) (scriniumlaw06_file_ok k _ p0 v_0 (C.okR 0 _ rfl) t2 ht2)) ?_
  rintro v1 _ ⟨hw, hr1⟩ a hS
  have C := got_own C hw hr1
  refine wl_pures (j := 3) hS 1 [1, 5, 6] (m' := [(1, .int .i64 p1), (5, .bool t1), (6, v1)]) (by kernel_rfl) (by kernel_rfl) fun a hS => ?_
  refine wl_nil (by kernel_rfl) ?_
  refine q_then ?_
  refine c_seq (by kernel_rfl) ?_
  refine c_region (by kernel_rfl) ?_
  refine wl_pures (j := 1) hS 1 [1, 5, 6, 17] (m' := [(1, .int .i64 p1), (5, .bool t1), (6, v1), (17, v1)]) (by kernel_rfl) (by kernel_rfl) fun a hS => ?_
  obtain ⟨t3, ht3, hf⟩ := bind_some hf
  refine wl_eff (d := (some 18)) (op := (Op.call { callee := (Callee.value (Operand.func 17)), args := #[(Operand.tmp 17)], argTypes := #[22] })) (g := none) hS (by kernel_rfl) (by kernel_rfl) (eff_fn (by kernel_rfl) rfl (by kernel_rfl) (extent_Total_ok k _ t2 v1 (rds_of_row (C.okL 0 _ rfl)) t3 ht3)) ?_
  rintro _ _ ⟨rfl, hw⟩ a hS
  have C := ctx_still C hw
  refine wl_pures (j := 3) hS 1 [1, 5, 6, 7] (m' := [(1, .int .i64 p1), (5, .bool t1), (6, v1), (7, .int .i64 t3)]) (by kernel_rfl) (by kernel_rfl) fun a hS => ?_
  refine wl_nil (by kernel_rfl) ?_
  refine q_then ?_
  refine c_seq (by kernel_rfl) ?_
  refine c_region (by kernel_rfl) ?_
  refine wl_pures (j := 3) hS 3 [5, 6, 7, 19, 21] (m' := [(5, .bool t1), (6, v1), (7, .int .i64 t3), (19, .int .i64 p1), (21, .int .i64 (W64 (t3 + 1)))]) (by kernel_rfl) (by kernel_rfl) fun a hS => ?_
  obtain ⟨hq1, hf⟩ := ite_some hf
  refine wl_val (d := (some 22)) (op := (Op.binOp BinOp.rem 3 (Operand.tmp 19) (Operand.tmp 21) 3)) (g := none) hS (by kernel_rfl) (by kernel_rfl) (r_div (k := .i64) (p := p1) (q := (W64 (t3 + 1))) (v := .int .i64 (p1.tmod (W64 (t3 + 1)))) (by kernel_rfl) (by kernel_rfl) hq1 (by kernel_rfl)) fun a hS => ?_
  refine wl_pures (j := 5) hS 1 [5, 6, 7, 8] (m' := [(5, .bool t1), (6, v1), (7, .int .i64 t3), (8, .int .i64 (p1.tmod (W64 (t3 + 1))))]) (by kernel_rfl) (by kernel_rfl) fun a hS => ?_
  refine wl_nil (by kernel_rfl) ?_
  refine q_then ?_
  refine c_join (by kernel_rfl) (fun a w => ∃ x1 : Bool, ∃ l1 : List S_Run, ∃ v2 : Value, ∃ x2 : Int, ∃ x3 : Int, scriniumlaw06_ExtentCuts.j2 k x1 l1 x2 x3 = some res ∧ Sl 80 [(5, .bool x1), (6, v2), (7, .int .i64 x2), (8, .int .i64 x3)] a ∧ Ctx w0 nob A0 [rowE v2 24 2 l1.length (l1.flatMap F_Run.cells)] [] w) ?_ ?_
  · rintro a w ⟨x1, l1, v2, x2, x3, hf, hS, C⟩
    rw [scriniumlaw06_ExtentCuts.j2] at hf
    refine c_seq (by kernel_rfl) ?_
    refine c_region (by kernel_rfl) ?_
    refine wl_pures (j := 2) hS 2 [5, 6, 7, 8, 28, 29] (m' := [(5, .bool x1), (6, v2), (7, .int .i64 x2), (8, .int .i64 x3), (28, v2), (29, .int .i64 x3)]) (by kernel_rfl) (by kernel_rfl) fun a hS => ?_
    obtain ⟨t4, ht4, hf⟩ := bind_some hf
    refine wl_eff (d := (some 30)) (op := (Op.call { callee := (Callee.value (Operand.func 27)), args := #[(Operand.tmp 28), (Operand.tmp 29)], argTypes := #[22, 3] })) (g := none) hS (by kernel_rfl) (by kernel_rfl) (eff_fn (by kernel_rfl) rfl (by kernel_rfl) (extent_Cut_ok k _ l1 x3 v2 (rds_of_row (C.okL 0 _ rfl)) t4 ht4)) ?_
    rintro _ _ ⟨v3, v4, rfl, hw, hr2, hr3⟩ a hS
    have CC := C
    have C := got_lies C hw hr2 (fun _ h => h.elim)
    have C := got_more CC C hw hr3 (fun _ h => h.elim)
    refine wl_pures (j := 8) hS 5 [5, 6, 7, 8, 9, 10] (m' := [(5, .bool x1), (6, v2), (7, .int .i64 x2), (8, .int .i64 x3), (9, v3), (10, v4)]) (by kernel_rfl) (by kernel_rfl) fun a hS => ?_
    refine wl_nil (by kernel_rfl) ?_
    refine q_then ?_
    refine c_seq (by kernel_rfl) ?_
    refine c_region (by kernel_rfl) ?_
    refine wl_pures (j := 1) hS 1 [5, 7, 8, 9, 10, 33] (m' := [(5, .bool x1), (7, .int .i64 x2), (8, .int .i64 x3), (9, v3), (10, v4), (33, v2)]) (by kernel_rfl) (by kernel_rfl) fun a hS => ?_
    obtain ⟨t5, ht5, hf⟩ := bind_some hf
    refine wl_eff (d := (some 34)) (op := (Op.call { callee := (Callee.value (Operand.func 21)), args := #[(Operand.tmp 33)], argTypes := #[22] })) (g := none) hS (by kernel_rfl) (by kernel_rfl) (eff_fn (by kernel_rfl) rfl (by kernel_rfl) (extent_All_ok k _ l1 v2 (rds_of_row (C.okL 0 _ rfl)) t5 ht5)) ?_
    rintro v5 _ ⟨hw, hr4⟩ a hS
    have C := got_own C hw hr4
    refine wl_pures (j := 3) hS 1 [5, 7, 8, 9, 10, 11] (m' := [(5, .bool x1), (7, .int .i64 x2), (8, .int .i64 x3), (9, v3), (10, v4), (11, v5)]) (by kernel_rfl) (by kernel_rfl) fun a hS => ?_
    refine wl_nil (by kernel_rfl) ?_
    refine q_then ?_
    refine c_seq (by kernel_rfl) ?_
    refine c_region (by kernel_rfl) ?_
    refine wl_pures (j := 2) hS 2 [5, 7, 8, 9, 10, 11, 35, 36] (m' := [(5, .bool x1), (7, .int .i64 x2), (8, .int .i64 x3), (9, v3), (10, v4), (11, v5), (35, v3), (36, v4)]) (by kernel_rfl) (by kernel_rfl) fun a hS => ?_
    obtain ⟨t6, ht6, hf⟩ := bind_some hf
    refine wl_eff (d := (some 37)) (op := (Op.call { callee := (Callee.value (Operand.func 25)), args := #[(Operand.tmp 35), (Operand.tmp 36)], argTypes := #[22, 22] })) (g := none) hS (by kernel_rfl) (by kernel_rfl) (eff_fn (by kernel_rfl) rfl (by kernel_rfl) (extent_Join_ok k _ t4.1 t4.2 v3 v4 (C.okR 0 _ rfl) (C.okR 1 _ rfl) t6 ht6)) ?_
    rintro v6 _ ⟨hw, hr5⟩ a hS
    have C := got_lies C hw hr5 (dom_two (j := 0) (k := 1) rfl rfl)
    obtain ⟨t7, ht7, hf⟩ := bind_some hf
    refine wl_eff (d := (some 38)) (op := (Op.call { callee := (Callee.value (Operand.func 21)), args := #[(Operand.tmp 37)], argTypes := #[22] })) (g := none) hS (by kernel_rfl) (by kernel_rfl) (eff_fn (by kernel_rfl) rfl (by kernel_rfl) (extent_All_ok k _ t6 v6 (C.okR 2 _ rfl) t7 ht7)) ?_
    rintro v7 _ ⟨hw, hr6⟩ a hS
    have C := got_own C hw hr6
    refine wl_pures (j := 5) hS 1 [5, 7, 8, 9, 10, 11, 12] (m' := [(5, .bool x1), (7, .int .i64 x2), (8, .int .i64 x3), (9, v3), (10, v4), (11, v5), (12, v7)]) (by kernel_rfl) (by kernel_rfl) fun a hS => ?_
    refine wl_nil (by kernel_rfl) ?_
    refine q_then ?_
    refine c_seq (by kernel_rfl) ?_
    refine c_join (by kernel_rfl) (fun a w => ∃ l2 : List S_Run, ∃ v8 : Value, ∃ l3 : List S_Run, ∃ v9 : Value, ∃ l4 : List Int, ∃ v10 : Value, ∃ l5 : List Int, ∃ v11 : Value, ∃ x4 : Bool, scriniumlaw06_ExtentCuts.j1 k x1 l1 x2 x3 l2 l3 l4 l5 x4 = some res ∧ Sl 80 [(5, .bool x1), (7, .int .i64 x2), (8, .int .i64 x3), (9, v8), (10, v9), (11, v10), (12, v11), (49, .bool x4)] a ∧ Ctx w0 nob A0 [rowE v10 3 1 l4.length (l4.flatMap (FK .i64).cells), rowE v11 3 1 l5.length (l5.flatMap (FK .i64).cells)] [rdE v8 l2.length 2 (l2.flatMap F_Run.cells), rdE v9 l3.length 2 (l3.flatMap F_Run.cells)] w) ?_ ?_
    · rintro a w ⟨l2, v8, l3, v9, l4, v10, l5, v11, x4, hf, hS, C⟩
      rw [scriniumlaw06_ExtentCuts.j1] at hf
      refine c_if (b := x4) hS (by kernel_rfl) (by kernel_rfl) (fun hb => ?_) (fun hb => ?_)
      · have hf := opt_t hb hf
        refine c_seq (by kernel_rfl) ?_
        refine c_region (by kernel_rfl) ?_
        refine wl_pures (j := 1) hS 1 [4] (m' := [(4, .bool false)]) (by kernel_rfl) (by kernel_rfl) fun a hS => ?_
        refine wl_nil (by kernel_rfl) ?_
        refine q_then ?_
        refine c_ret (by kernel_rfl) ?_
        refine q_thenr ?_
        refine q_ret hS (vs := [.bool false]) (by kernel_rfl) ?_
        obtain rfl := Option.some.inj hf
        exact ⟨_, rfl, rfl, C.fr⟩
      · have hf := opt_f hb hf
        refine c_skip (by kernel_rfl) ?_
        refine q_then ?_
        refine c_seq (by kernel_rfl) ?_
        refine c_seq (by kernel_rfl) ?_
        refine c_region (by kernel_rfl) ?_
        refine wl_pures (j := 1) hS 1 [5, 7, 8, 9, 10, 11, 12, 13] (m' := [(5, .bool x1), (7, .int .i64 x2), (8, .int .i64 x3), (9, v8), (10, v9), (11, v10), (12, v11), (13, .int .i64 0)]) (by kernel_rfl) (by kernel_rfl) fun a hS => ?_
        refine wl_nil (by kernel_rfl) ?_
        refine q_then ?_
        refine c_block (i := 0) (by kernel_rfl) ?_
        refine c_loop (by kernel_rfl) (fun kk1 a w => ∃ x8 : Int, scriniumlaw06_ExtentCuts.l1 x1 x2 x3 l2 l3 l4 l5 kk1 x8 = some res ∧ Sl 80 [(5, .bool x1), (7, .int .i64 x2), (8, .int .i64 x3), (9, v8), (10, v9), (11, v10), (12, v11), (13, .int .i64 x8)] a ∧ Ctx w0 nob A0 [rowE v10 3 1 l4.length (l4.flatMap (FK .i64).cells), rowE v11 3 1 l5.length (l5.flatMap (FK .i64).cells)] [rdE v8 l2.length 2 (l2.flatMap F_Run.cells), rdE v9 l3.length 2 (l3.flatMap F_Run.cells)] w) k ⟨0, hf, hS.keep [5, 7, 8, 9, 10, 11, 12, 13] (by kernel_rfl), ctx_pick [0, 1] [0, 1] C (by kernel_rfl) rfl rfl⟩ ?_
        rintro kk1 a w ⟨x8, hf, hS, C⟩
        cases kk1 with
        | zero => exact no_none hf
        | succ kk1 =>
          rw [scriniumlaw06_ExtentCuts.l1] at hf
          refine c_seq (by kernel_rfl) ?_
          refine c_seq (by kernel_rfl) ?_
          refine c_region (by kernel_rfl) ?_
          refine wl_pures (j := 2) hS 2 [5, 7, 8, 9, 10, 11, 12, 13, 50, 51] (m' := [(5, .bool x1), (7, .int .i64 x2), (8, .int .i64 x3), (9, v8), (10, v9), (11, v10), (12, v11), (13, .int .i64 x8), (50, .int .i64 x8), (51, v10)]) (by kernel_rfl) (by kernel_rfl) fun a hS => ?_
          refine wl_val (d := (some 52)) (op := (Op.call { callee := (Callee.builtin Builtin.len), args := #[(Operand.tmp 51)], argTypes := #[38] })) (g := none) hS (by kernel_rfl) (by kernel_rfl) (r_len (n := l4.length) (v := v10) (rds_shp (rds_of_row (C.okL 0 _ rfl))) (by kernel_rfl) (by kernel_rfl)) fun a hS => ?_
          refine wl_pures (j := 4) hS 1 [5, 7, 8, 9, 10, 11, 12, 13, 53] (m' := [(5, .bool x1), (7, .int .i64 x2), (8, .int .i64 x3), (9, v8), (10, v9), (11, v10), (12, v11), (13, .int .i64 x8), (53, .bool (decide (x8 < (l4.length : Int))))]) (by kernel_rfl) (by kernel_rfl) fun a hS => ?_
          refine wl_nil (by kernel_rfl) ?_
          refine q_then ?_
          refine c_if (b := (decide (x8 < (l4.length : Int)))) hS (by kernel_rfl) (by kernel_rfl) (fun hb => ?_) (fun hb => ?_)
          · have hf := opt_t hb hf
            refine c_skip (by kernel_rfl) ?_
            refine q_then ?_
            refine c_seq (by kernel_rfl) ?_
            refine c_block (i := 1) (by kernel_rfl) ?_
            refine c_seq (by kernel_rfl) ?_
            refine c_drawsC [0, 1] [0, 1] 9 C (by kernel_rfl) (by kernel_rfl) (by kernel_rfl) (N := 9) (by kernel_rfl) (by kernel_rfl) fun _ C => ?_
            refine dr_pures (fuel := 5) (l' := [5, 4, 1, 0]) hS (ctx_pick [0, 1] [0, 1] C (by kernel_rfl) rfl rfl) [0, 1, 4, 5] [5, 7, 8, 9, 10, 11, 12, 13, 56, 57, 60, 61] (m' := [(5, .bool x1), (7, .int .i64 x2), (8, .int .i64 x3), (9, v8), (10, v9), (11, v10), (12, v11), (13, .int .i64 x8), (56, v10), (57, .int .i64 x8), (60, v11), (61, .int .i64 x8)]) (by kernel_rfl) (by kernel_rfl) (by kernel_rfl) fun a hS => ?_
            obtain ⟨hi1, hf⟩ := ite_some hf
            refine dr_take (fuel := 4) (j := 2) (v := .pointer (some (elemA v10 (x8.toNat * 1)))) (d := (some 58)) (op := (Op.indexAddr 38 (Operand.tmp 56) (Operand.tmp 57))) (g := none) hS (by kernel_rfl) (by kernel_rfl) (fun _ CS => r_idx (i := x8) (k := .i64) (v := v10) (sz := 1) (rds_shp (rds_of_row (C.okL 0 _ rfl))) (by kernel_rfl) (by kernel_rfl) hi1.1 hi1.2 (by kernel_rfl)) (ctx_pick [0, 1] [0, 1] C (by kernel_rfl) rfl rfl) fun a hS => ?_
            refine dr_take (fuel := 3) (j := 3) (v := .int .i64 ((FK .i64).at_ l4 x8)) (d := (some 59)) (op := (Op.load 3 (Operand.tmp 58))) (g := none) hS (by kernel_rfl) (by kernel_rfl) (fun _ CS => r_ldF0 (FK .i64) (i := x8) (u := .int .i64 ((FK .i64).at_ l4 x8)) (rds_of_row (CS.okL 0 _ rfl)) (by kernel_rfl) hi1.1 hi1.2 (by decide) (by kernel_rfl) (by kernel_rfl)) (ctx_pick [0, 1] [0, 1] C (by kernel_rfl) rfl rfl) fun a hS => ?_
            obtain ⟨hi2, hf⟩ := ite_some hf
            refine dr_take (fuel := 2) (j := 6) (v := .pointer (some (elemA v11 (x8.toNat * 1)))) (d := (some 62)) (op := (Op.indexAddr 38 (Operand.tmp 60) (Operand.tmp 61))) (g := none) hS (by kernel_rfl) (by kernel_rfl) (fun _ CS => r_idx (i := x8) (k := .i64) (v := v11) (sz := 1) (rds_shp (rds_of_row (C.okL 1 _ rfl))) (by kernel_rfl) (by kernel_rfl) hi2.1 hi2.2 (by kernel_rfl)) (ctx_pick [0, 1] [0, 1] C (by kernel_rfl) rfl rfl) fun a hS => ?_
            refine dr_take (fuel := 1) (j := 7) (v := .int .i64 ((FK .i64).at_ l5 x8)) (d := (some 63)) (op := (Op.load 3 (Operand.tmp 62))) (g := none) hS (by kernel_rfl) (by kernel_rfl) (fun _ CS => r_ldF0 (FK .i64) (i := x8) (u := .int .i64 ((FK .i64).at_ l5 x8)) (rds_of_row (CS.okL 1 _ rfl)) (by kernel_rfl) hi2.1 hi2.2 (by decide) (by kernel_rfl) (by kernel_rfl)) (ctx_pick [0, 1] [0, 1] C (by kernel_rfl) rfl rfl) fun a hS => ?_
            refine dr_pures (fuel := 0) (l' := [8, 7, 6, 3, 2, 5, 4, 1, 0]) hS (ctx_pick [0, 1] [0, 1] C (by kernel_rfl) rfl rfl) [8] [5, 7, 8, 9, 10, 11, 12, 13, 64] (m' := [(5, .bool x1), (7, .int .i64 x2), (8, .int .i64 x3), (9, v8), (10, v9), (11, v10), (12, v11), (13, .int .i64 x8), (64, .bool (((FK .i64).at_ l4 x8) != ((FK .i64).at_ l5 x8)))]) (by kernel_rfl) (by kernel_rfl) (by kernel_rfl) fun a hS => ?_
            refine dr_done (by kernel_rfl) ?_
            refine q_then ?_
            refine c_if (b := (((FK .i64).at_ l4 x8) != ((FK .i64).at_ l5 x8))) hS (by kernel_rfl) (by kernel_rfl) (fun hb => ?_) (fun hb => ?_)
            · have hf := opt_t hb hf
              refine c_seq (by kernel_rfl) ?_
              refine c_region (by kernel_rfl) ?_
              refine wl_pures (j := 1) hS 1 [4] (m' := [(4, .bool false)]) (by kernel_rfl) (by kernel_rfl) fun a hS => ?_
              refine wl_nil (by kernel_rfl) ?_
              refine q_then ?_
              refine c_ret (by kernel_rfl) ?_
              refine q_inr ?_
              refine q_thenr ?_
              refine q_thenr ?_
              refine q_inr ?_
              refine q_thenr ?_
              refine q_ret hS (vs := [.bool false]) (by kernel_rfl) ?_
              obtain rfl := Option.some.inj hf
              exact ⟨_, rfl, rfl, C.fr⟩
            · have hf := opt_f hb hf
              refine c_skip (by kernel_rfl) ?_
              refine q_in ?_
              refine q_then ?_
              refine c_region (by kernel_rfl) ?_
              refine wl_pures (j := 3) hS 3 [5, 7, 8, 9, 10, 11, 12, 13] (m' := [(5, .bool x1), (7, .int .i64 x2), (8, .int .i64 x3), (9, v8), (10, v9), (11, v10), (12, v11), (13, .int .i64 (W64 (x8 + 1)))]) (by kernel_rfl) (by kernel_rfl) fun a hS => ?_
              refine wl_nil (by kernel_rfl) ?_
              exact q_then ⟨kk1, Nat.lt_succ_self kk1, (W64 (x8 + 1)), hf, hS.keep [5, 7, 8, 9, 10, 11, 12, 13] (by kernel_rfl), ctx_pick [0, 1] [0, 1] C (by kernel_rfl) rfl rfl⟩
          · have hf := opt_f hb hf
            refine c_exit (i := 0) (by kernel_rfl) ?_
            refine q_thenx ?_
            refine q_thenx ?_
            refine q_inx ?_
            refine q_then ?_
            refine c_seq (by kernel_rfl) ?_
            refine c_region (by kernel_rfl) ?_
            refine wl_pures (j := 2) hS 2 [7, 8, 9, 10, 66] (m' := [(7, .int .i64 x2), (8, .int .i64 x3), (9, v8), (10, v9), (66, .bool x1)]) (by kernel_rfl) (by kernel_rfl) fun a hS => ?_
            rcases Bool.eq_false_or_eq_true x1 with hb | hb
            · rw [hb] at hS
              have hf := opt_t hb hf
              refine wl_pures (j := 3) hS 1 [7, 8, 10, 66, 67] (m' := [(7, .int .i64 x2), (8, .int .i64 x3), (10, v9), (66, .bool true), (67, v8)]) (by kernel_rfl) (by kernel_rfl) fun a hS => ?_
              obtain ⟨t8, ht8, hf⟩ := bind_some hf
              refine wl_eff (d := (some 68)) (op := (Op.call { callee := (Callee.value (Operand.func 17)), args := #[(Operand.tmp 67)], argTypes := #[22] })) (g := (some (1, true))) hS (by kernel_rfl) (by kernel_rfl) (eff_fn (by kernel_rfl) rfl (by kernel_rfl) (extent_Total_ok kk1 _ l2 v8 (C.okR 0 _ rfl) t8 ht8)) ?_
              rintro _ _ ⟨rfl, hw⟩ a hS
              have C := ctx_still C hw
              refine wl_pures (j := 8) hS 4 [7, 8, 10, 72] (m' := [(7, .int .i64 x2), (8, .int .i64 x3), (10, v9), (72, .bool (t8 == x3))]) (by kernel_rfl) (by kernel_rfl) fun a hS => ?_
              rcases Bool.eq_false_or_eq_true (t8 == x3) with hb | hb
              · rw [hb] at hS
                have hf := opt_t hb hf
                refine wl_pures (j := 9) hS 1 [7, 8, 72, 73] (m' := [(7, .int .i64 x2), (8, .int .i64 x3), (72, .bool true), (73, v9)]) (by kernel_rfl) (by kernel_rfl) fun a hS => ?_
                obtain ⟨t9, ht9, hf⟩ := bind_some hf
                refine wl_eff (d := (some 74)) (op := (Op.call { callee := (Callee.value (Operand.func 17)), args := #[(Operand.tmp 73)], argTypes := #[22] })) (g := (some (7, true))) hS (by kernel_rfl) (by kernel_rfl) (eff_fn (by kernel_rfl) rfl (by kernel_rfl) (extent_Total_ok kk1 _ l3 v9 (C.okR 1 _ rfl) t9 ht9)) ?_
                rintro _ _ ⟨rfl, hw⟩ a hS
                have C := ctx_still C hw
                refine wl_pures (j := 16) hS 6 [4] (m' := [(4, .bool (t9 == (W64 (x2 - x3))))]) (by kernel_rfl) (by kernel_rfl) fun a hS => ?_
                refine wl_nil (by kernel_rfl) ?_
                refine q_then ?_
                refine c_ret (by kernel_rfl) ?_
                refine q_ret hS (vs := [.bool (t9 == (W64 (x2 - x3)))]) (by kernel_rfl) ?_
                obtain rfl := Option.some.inj hf
                exact ⟨_, rfl, rfl, C.fr⟩
              · rw [hb] at hS
                have hf := opt_f hb hf
                refine wl_pures (j := 16) hS 8 [4] (m' := [(4, .bool false)]) (by kernel_rfl) (by kernel_rfl) fun a hS => ?_
                refine wl_nil (by kernel_rfl) ?_
                refine q_then ?_
                refine c_ret (by kernel_rfl) ?_
                refine q_ret hS (vs := [.bool false]) (by kernel_rfl) ?_
                obtain rfl := Option.some.inj hf
                exact ⟨_, rfl, rfl, C.fr⟩
            · rw [hb] at hS
              have hf := opt_f hb hf
              refine wl_pures (j := 16) hS 14 [4] (m' := [(4, .bool false)]) (by kernel_rfl) (by kernel_rfl) fun a hS => ?_
              refine wl_nil (by kernel_rfl) ?_
              refine q_then ?_
              refine c_ret (by kernel_rfl) ?_
              refine q_ret hS (vs := [.bool false]) (by kernel_rfl) ?_
              obtain rfl := Option.some.inj hf
              exact ⟨_, rfl, rfl, C.fr⟩
    · refine c_region (by kernel_rfl) ?_
      refine wl_pures (j := 1) hS 1 [5, 7, 8, 9, 10, 11, 12, 39] (m' := [(5, .bool x1), (7, .int .i64 x2), (8, .int .i64 x3), (9, v3), (10, v4), (11, v5), (12, v7), (39, v5)]) (by kernel_rfl) (by kernel_rfl) fun a hS => ?_
      refine wl_val (d := (some 40)) (op := (Op.call { callee := (Callee.builtin Builtin.len), args := #[(Operand.tmp 39)], argTypes := #[38] })) (g := none) hS (by kernel_rfl) (by kernel_rfl) (r_len (n := t5.length) (v := v5) (rds_shp (rds_of_row (C.okL 1 _ rfl))) (by kernel_rfl) (by kernel_rfl)) fun a hS => ?_
      refine wl_pures (j := 3) hS 1 [5, 7, 8, 9, 10, 11, 12, 40, 41] (m' := [(5, .bool x1), (7, .int .i64 x2), (8, .int .i64 x3), (9, v3), (10, v4), (11, v5), (12, v7), (40, .int .i64 (t5.length : Int)), (41, v7)]) (by kernel_rfl) (by kernel_rfl) fun a hS => ?_
      refine wl_val (d := (some 42)) (op := (Op.call { callee := (Callee.builtin Builtin.len), args := #[(Operand.tmp 41)], argTypes := #[38] })) (g := none) hS (by kernel_rfl) (by kernel_rfl) (r_len (n := t7.length) (v := v7) (rds_shp (rds_of_row (C.okL 2 _ rfl))) (by kernel_rfl) (by kernel_rfl)) fun a hS => ?_
      refine wl_pures (j := 6) hS 2 [5, 7, 8, 9, 10, 11, 12, 44] (m' := [(5, .bool x1), (7, .int .i64 x2), (8, .int .i64 x3), (9, v3), (10, v4), (11, v5), (12, v7), (44, .bool ((t5.length : Int) != (t7.length : Int)))]) (by kernel_rfl) (by kernel_rfl) fun a hS => ?_
      rcases Bool.eq_false_or_eq_true ((t5.length : Int) != (t7.length : Int)) with hb | hb
      · rw [hb] at hS
        have hf := opt_t hb hf
        refine wl_pures (j := 11) hS 5 [5, 7, 8, 9, 10, 11, 12, 49] (m' := [(5, .bool x1), (7, .int .i64 x2), (8, .int .i64 x3), (9, v3), (10, v4), (11, v5), (12, v7), (49, .bool true)]) (by kernel_rfl) (by kernel_rfl) fun a hS => ?_
        refine wl_nil (by kernel_rfl) ?_
        exact q_then ⟨t4.1, v3, t4.2, v4, t5, v5, t7, v7, true, hf, hS.keep [5, 7, 8, 9, 10, 11, 12, 49] (by kernel_rfl), ctx_pick [1, 2] [0, 1] C (by kernel_rfl) rfl rfl⟩
      · rw [hb] at hS
        have hf := opt_f hb hf
        refine wl_pures (j := 7) hS 1 [5, 7, 8, 9, 10, 11, 12, 44, 45] (m' := [(5, .bool x1), (7, .int .i64 x2), (8, .int .i64 x3), (9, v3), (10, v4), (11, v5), (12, v7), (44, .bool false), (45, v5)]) (by kernel_rfl) (by kernel_rfl) fun a hS => ?_
        refine wl_val (d := (some 46)) (op := (Op.call { callee := (Callee.builtin Builtin.len), args := #[(Operand.tmp 45)], argTypes := #[38] })) (g := (some (5, false))) hS (by kernel_rfl) (by kernel_rfl) (r_len (n := t5.length) (v := v5) (rds_shp (rds_of_row (C.okL 1 _ rfl))) (by kernel_rfl) (by kernel_rfl)) fun a hS => ?_
        refine wl_pures (j := 11) hS 3 [5, 7, 8, 9, 10, 11, 12, 49] (m' := [(5, .bool x1), (7, .int .i64 x2), (8, .int .i64 x3), (9, v3), (10, v4), (11, v5), (12, v7), (49, .bool ((t5.length : Int) != x2))]) (by kernel_rfl) (by kernel_rfl) fun a hS => ?_
        refine wl_nil (by kernel_rfl) ?_
        exact q_then ⟨t4.1, v3, t4.2, v4, t5, v5, t7, v7, ((t5.length : Int) != x2), hf, hS.keep [5, 7, 8, 9, 10, 11, 12, 49] (by kernel_rfl), ctx_pick [1, 2] [0, 1] C (by kernel_rfl) rfl rfl⟩
  · refine c_seq (by kernel_rfl) ?_
    refine c_region (by kernel_rfl) ?_
    refine wl_pures (j := 2) hS 2 [5, 6, 7, 8, 24] (m' := [(5, .bool t1), (6, v1), (7, .int .i64 t3), (8, .int .i64 (p1.tmod (W64 (t3 + 1)))), (24, .bool (decide ((p1.tmod (W64 (t3 + 1))) < 0)))]) (by kernel_rfl) (by kernel_rfl) fun a hS => ?_
    refine wl_nil (by kernel_rfl) ?_
    refine q_then ?_
    refine c_if (b := (decide ((p1.tmod (W64 (t3 + 1))) < 0))) hS (by kernel_rfl) (by kernel_rfl) (fun hb => ?_) (fun hb => ?_)
    · have hf := opt_t hb hf
      refine c_region (by kernel_rfl) ?_
      refine wl_pures (j := 3) hS 3 [5, 6, 7, 8] (m' := [(5, .bool t1), (6, v1), (7, .int .i64 t3), (8, .int .i64 (W64 (0 - (p1.tmod (W64 (t3 + 1))))))]) (by kernel_rfl) (by kernel_rfl) fun a hS => ?_
      refine wl_nil (by kernel_rfl) ?_
      exact q_then ⟨t1, t2, v1, t3, (W64 (0 - (p1.tmod (W64 (t3 + 1))))), hf, hS.keep [5, 6, 7, 8] (by kernel_rfl), ctx_pick [0] [] C (by kernel_rfl) rfl rfl⟩
    · have hf := opt_f hb hf
      refine c_skip (by kernel_rfl) ?_
      exact q_then ⟨t1, t2, v1, t3, (p1.tmod (W64 (t3 + 1))), hf, hS.keep [5, 6, 7, 8] (by kernel_rfl), ctx_pick [0] [] C (by kernel_rfl) rfl rfl⟩

def scriniumlaw06_ExtentPlaces.l1 (x1 : Bool) (l2 : List Int) (x2 : Int) (x3 : Int) : Nat → List Int → Int → Option Bool
  | 0, _, _ => none
  | kk1 + 1, l7, x7 => (if (decide (x7 < x3)) = true then (if 0 ≤ x7 ∧ x7 < (l7.length : Int) then (if 0 ≤ (W64 (x2 + x7)) ∧ (W64 (x2 + x7)) < (l2.length : Int) then (if (((FK .i64).at_ l7 x7) != ((FK .i64).at_ l2 (W64 (x2 + x7)))) = true then (some false) else (scriniumlaw06_ExtentPlaces.l1 x1 l2 x2 x3 kk1) l7 (W64 (x7 + 1))) else none) else none) else (some x1))
def scriniumlaw06_ExtentPlaces.j1 (k : Nat) (x1 : Bool) (l1 : List S_Run) (l2 : List Int) (x2 : Int) (x3 : Int) : Option Bool := ((extent_Rest.f k l1 x2 x3).bind fun t4 => ((extent_All.f k t4).bind fun t5 => (if ((t5.length : Int) != x3) = true then (some false) else scriniumlaw06_ExtentPlaces.l1 x1 l2 x2 x3 k t5 0)))
def scriniumlaw06_ExtentPlaces.j2 (k : Nat) (p2 : Int) (x1 : Bool) (l1 : List S_Run) (l2 : List Int) (x2 : Int) : Option Bool := (if (W64 ((W64 ((l2.length : Int) - x2)) + 1)) ≠ 0 then (if (decide ((p2.tmod (W64 ((W64 ((l2.length : Int) - x2)) + 1))) < 0)) = true then scriniumlaw06_ExtentPlaces.j1 k x1 l1 l2 x2 (W64 (0 - (p2.tmod (W64 ((W64 ((l2.length : Int) - x2)) + 1))))) else scriniumlaw06_ExtentPlaces.j1 k x1 l1 l2 x2 (p2.tmod (W64 ((W64 ((l2.length : Int) - x2)) + 1)))) else none)
def scriniumlaw06_ExtentPlaces.f (k : Nat) (p0 : (List S_Run)) (p1 : Int) (p2 : Int) : Option Bool := ((scriniumlaw06_awake.f k).bind fun t1 => ((scriniumlaw06_file.f k p0).bind fun t2 => ((extent_All.f k t2).bind fun t3 => (if (W64 ((t3.length : Int) + 1)) ≠ 0 then (if (decide ((p1.tmod (W64 ((t3.length : Int) + 1))) < 0)) = true then scriniumlaw06_ExtentPlaces.j2 k p2 t1 t2 t3 (W64 (0 - (p1.tmod (W64 ((t3.length : Int) + 1))))) else scriniumlaw06_ExtentPlaces.j2 k p2 t1 t2 t3 (p1.tmod (W64 ((t3.length : Int) + 1)))) else none))))
theorem scriniumlaw06_ExtentPlaces_ok (k : Nat) (w0 : World) (p0 : (List S_Run)) (p1 : Int) (p2 : Int) (v_0 : Value) (h_0 : Rds v_0 p0.length 2 (p0.flatMap F_Run.cells) w0) (res : Bool) (hf : scriniumlaw06_ExtentPlaces.f k p0 p1 p2 = some res) :
    Fn Try.prog 7 [v_0, .int .i64 p1, .int .i64 p2] w0 (fun v w' => v = .bool res ∧ Fr nob w0 w') := by
  have C := ctx_start w0 [rdE v_0 p0.length 2 (p0.flatMap F_Run.cells)] (start1 h_0)
  generalize allDom [rdE v_0 p0.length 2 (p0.flatMap F_Run.cells)] = A0 at C
  refine f_enter (fn := Try.f7) (k := 62) rfl rfl rfl fun a hS => ?_
  have hS : Sl 65 [(0, v_0), (1, .int .i64 p1), (2, .int .i64 p2)] a := hS
  rw [scriniumlaw06_ExtentPlaces.f] at hf
  refine c_seq (by kernel_rfl) ?_
  refine c_region (by kernel_rfl) ?_
  refine wl_pures (j := 1) hS 1 [0, 1, 2] (m' := [(0, v_0), (1, .int .i64 p1), (2, .int .i64 p2)]) (by kernel_rfl) (by kernel_rfl) fun a hS => ?_
  refine wl_nil (by kernel_rfl) ?_
  refine q_then ?_
  refine c_seq (by kernel_rfl) ?_
  refine c_region (by kernel_rfl) ?_
  obtain ⟨t1, ht1, hf⟩ := bind_some hf
  refine wl_eff (d := (some 14)) (op := (Op.call { callee := (Callee.value (Operand.func 9)), args := #[], argTypes := #[] })) (g := none) hS (by kernel_rfl) (by kernel_rfl) (eff_fn (by kernel_rfl) rfl (by kernel_rfl) (scriniumlaw06_awake_ok k _ t1 ht1)) ?_
  rintro _ _ ⟨rfl, hw⟩ a hS
  have C := ctx_still C hw
  refine wl_pures (j := 2) hS 1 [0, 1, 2, 7] (m' := [(0, v_0), (1, .int .i64 p1), (2, .int .i64 p2), (7, .bool t1)]) (by kernel_rfl) (by kernel_rfl) fun a hS => ?_
  refine wl_nil (by kernel_rfl) ?_
  refine q_then ?_
  refine c_seq (by kernel_rfl) ?_
  refine c_region (by kernel_rfl) ?_
  refine wl_pures (j := 1) hS 1 [1, 2, 7, 15] (m' := [(1, .int .i64 p1), (2, .int .i64 p2), (7, .bool t1), (15, v_0)]) (by kernel_rfl) (by kernel_rfl) fun a hS => ?_
  obtain ⟨t2, ht2, hf⟩ := bind_some hf
  refine wl_eff (d := (some 16)) (op := (Op.call { callee := (Callee.value (Operand.func 18)), args := #[(Operand.tmp 15)], argTypes := #[22] })) (g := none) hS (by kernel_rfl) (by kernel_rfl) (eff_fn (by kernel_rfl) rfl (by kernel_rfl) (scriniumlaw06_file_ok k _ p0 v_0 (C.okR 0 _ rfl) t2 ht2)) ?_
  rintro v1 _ ⟨hw, hr1⟩ a hS
  have C := got_own C hw hr1
  refine wl_pures (j := 3) hS 1 [1, 2, 7, 8] (m' := [(1, .int .i64 p1), (2, .int .i64 p2), (7, .bool t1), (8, v1)]) (by kernel_rfl) (by kernel_rfl) fun a hS => ?_
  refine wl_nil (by kernel_rfl) ?_
  refine q_then ?_
  refine c_seq (by kernel_rfl) ?_
  refine c_region (by kernel_rfl) ?_
  refine wl_pures (j := 1) hS 1 [1, 2, 7, 8, 17] (m' := [(1, .int .i64 p1), (2, .int .i64 p2), (7, .bool t1), (8, v1), (17, v1)]) (by kernel_rfl) (by kernel_rfl) fun a hS => ?_
  obtain ⟨t3, ht3, hf⟩ := bind_some hf
  refine wl_eff (d := (some 18)) (op := (Op.call { callee := (Callee.value (Operand.func 21)), args := #[(Operand.tmp 17)], argTypes := #[22] })) (g := none) hS (by kernel_rfl) (by kernel_rfl) (eff_fn (by kernel_rfl) rfl (by kernel_rfl) (extent_All_ok k _ t2 v1 (rds_of_row (C.okL 0 _ rfl)) t3 ht3)) ?_
  rintro v2 _ ⟨hw, hr2⟩ a hS
  have C := got_own C hw hr2
  refine wl_pures (j := 3) hS 1 [1, 2, 7, 8, 9] (m' := [(1, .int .i64 p1), (2, .int .i64 p2), (7, .bool t1), (8, v1), (9, v2)]) (by kernel_rfl) (by kernel_rfl) fun a hS => ?_
  refine wl_nil (by kernel_rfl) ?_
  refine q_then ?_
  refine c_seq (by kernel_rfl) ?_
  refine c_region (by kernel_rfl) ?_
  refine wl_pures (j := 2) hS 2 [2, 7, 8, 9, 19, 20] (m' := [(2, .int .i64 p2), (7, .bool t1), (8, v1), (9, v2), (19, .int .i64 p1), (20, v2)]) (by kernel_rfl) (by kernel_rfl) fun a hS => ?_
  refine wl_val (d := (some 21)) (op := (Op.call { callee := (Callee.builtin Builtin.len), args := #[(Operand.tmp 20)], argTypes := #[38] })) (g := none) hS (by kernel_rfl) (by kernel_rfl) (r_len (n := t3.length) (v := v2) (rds_shp (rds_of_row (C.okL 1 _ rfl))) (by kernel_rfl) (by kernel_rfl)) fun a hS => ?_
  refine wl_pures (j := 4) hS 1 [2, 7, 8, 9, 19, 22] (m' := [(2, .int .i64 p2), (7, .bool t1), (8, v1), (9, v2), (19, .int .i64 p1), (22, .int .i64 (W64 ((t3.length : Int) + 1)))]) (by kernel_rfl) (by kernel_rfl) fun a hS => ?_
  obtain ⟨hq1, hf⟩ := ite_some hf
  refine wl_val (d := (some 23)) (op := (Op.binOp BinOp.rem 3 (Operand.tmp 19) (Operand.tmp 22) 3)) (g := none) hS (by kernel_rfl) (by kernel_rfl) (r_div (k := .i64) (p := p1) (q := (W64 ((t3.length : Int) + 1))) (v := .int .i64 (p1.tmod (W64 ((t3.length : Int) + 1)))) (by kernel_rfl) (by kernel_rfl) hq1 (by kernel_rfl)) fun a hS => ?_
  refine wl_pures (j := 6) hS 1 [2, 7, 8, 9, 10] (m' := [(2, .int .i64 p2), (7, .bool t1), (8, v1), (9, v2), (10, .int .i64 (p1.tmod (W64 ((t3.length : Int) + 1))))]) (by kernel_rfl) (by kernel_rfl) fun a hS => ?_
  refine wl_nil (by kernel_rfl) ?_
  refine q_then ?_
  refine c_join (by kernel_rfl) (fun a w => ∃ x1 : Bool, ∃ l1 : List S_Run, ∃ v3 : Value, ∃ l2 : List Int, ∃ v4 : Value, ∃ x2 : Int, scriniumlaw06_ExtentPlaces.j2 k p2 x1 l1 l2 x2 = some res ∧ Sl 65 [(2, .int .i64 p2), (7, .bool x1), (8, v3), (9, v4), (10, .int .i64 x2)] a ∧ Ctx w0 nob A0 [rowE v3 24 2 l1.length (l1.flatMap F_Run.cells), rowE v4 3 1 l2.length (l2.flatMap (FK .i64).cells)] [] w) ?_ ?_
  · rintro a w ⟨x1, l1, v3, l2, v4, x2, hf, hS, C⟩
    rw [scriniumlaw06_ExtentPlaces.j2] at hf
    refine c_seq (by kernel_rfl) ?_
    refine c_region (by kernel_rfl) ?_
    refine wl_pures (j := 2) hS 2 [7, 8, 9, 10, 28, 29] (m' := [(7, .bool x1), (8, v3), (9, v4), (10, .int .i64 x2), (28, .int .i64 p2), (29, v4)]) (by kernel_rfl) (by kernel_rfl) fun a hS => ?_
    refine wl_val (d := (some 30)) (op := (Op.call { callee := (Callee.builtin Builtin.len), args := #[(Operand.tmp 29)], argTypes := #[38] })) (g := none) hS (by kernel_rfl) (by kernel_rfl) (r_len (n := l2.length) (v := v4) (rds_shp (rds_of_row (C.okL 1 _ rfl))) (by kernel_rfl) (by kernel_rfl)) fun a hS => ?_
    refine wl_pures (j := 6) hS 3 [7, 8, 9, 10, 28, 33] (m' := [(7, .bool x1), (8, v3), (9, v4), (10, .int .i64 x2), (28, .int .i64 p2), (33, .int .i64 (W64 ((W64 ((l2.length : Int) - x2)) + 1)))]) (by kernel_rfl) (by kernel_rfl) fun a hS => ?_
    obtain ⟨hq2, hf⟩ := ite_some hf
    refine wl_val (d := (some 34)) (op := (Op.binOp BinOp.rem 3 (Operand.tmp 28) (Operand.tmp 33) 3)) (g := none) hS (by kernel_rfl) (by kernel_rfl) (r_div (k := .i64) (p := p2) (q := (W64 ((W64 ((l2.length : Int) - x2)) + 1))) (v := .int .i64 (p2.tmod (W64 ((W64 ((l2.length : Int) - x2)) + 1)))) (by kernel_rfl) (by kernel_rfl) hq2 (by kernel_rfl)) fun a hS => ?_
    refine wl_pures (j := 8) hS 1 [7, 8, 9, 10, 11] (m' := [(7, .bool x1), (8, v3), (9, v4), (10, .int .i64 x2), (11, .int .i64 (p2.tmod (W64 ((W64 ((l2.length : Int) - x2)) + 1))))]) (by kernel_rfl) (by kernel_rfl) fun a hS => ?_
    refine wl_nil (by kernel_rfl) ?_
    refine q_then ?_
    refine c_join (by kernel_rfl) (fun a w => ∃ x3 : Int, scriniumlaw06_ExtentPlaces.j1 k x1 l1 l2 x2 x3 = some res ∧ Sl 65 [(7, .bool x1), (8, v3), (9, v4), (10, .int .i64 x2), (11, .int .i64 x3)] a ∧ Ctx w0 nob A0 [rowE v3 24 2 l1.length (l1.flatMap F_Run.cells), rowE v4 3 1 l2.length (l2.flatMap (FK .i64).cells)] [] w) ?_ ?_
    · rintro a w ⟨x3, hf, hS, C⟩
      rw [scriniumlaw06_ExtentPlaces.j1] at hf
      refine c_seq (by kernel_rfl) ?_
      refine c_region (by kernel_rfl) ?_
      refine wl_pures (j := 3) hS 3 [7, 9, 10, 11, 39, 40, 41] (m' := [(7, .bool x1), (9, v4), (10, .int .i64 x2), (11, .int .i64 x3), (39, v3), (40, .int .i64 x2), (41, .int .i64 x3)]) (by kernel_rfl) (by kernel_rfl) fun a hS => ?_
      obtain ⟨t4, ht4, hf⟩ := bind_some hf
      refine wl_eff (d := (some 42)) (op := (Op.call { callee := (Callee.value (Operand.func 23)), args := #[(Operand.tmp 39), (Operand.tmp 40), (Operand.tmp 41)], argTypes := #[22, 3, 3] })) (g := none) hS (by kernel_rfl) (by kernel_rfl) (eff_fn (by kernel_rfl) rfl (by kernel_rfl) (extent_Rest_ok k _ l1 x2 x3 v3 (rds_of_row (C.okL 0 _ rfl)) t4 ht4)) ?_
      rintro v5 _ ⟨hw, hr3⟩ a hS
      have C := got_own C hw hr3
      obtain ⟨t5, ht5, hf⟩ := bind_some hf
      refine wl_eff (d := (some 43)) (op := (Op.call { callee := (Callee.value (Operand.func 21)), args := #[(Operand.tmp 42)], argTypes := #[22] })) (g := none) hS (by kernel_rfl) (by kernel_rfl) (eff_fn (by kernel_rfl) rfl (by kernel_rfl) (extent_All_ok k _ t4 v5 (rds_of_row (C.okL 2 _ rfl)) t5 ht5)) ?_
      rintro v6 _ ⟨hw, hr4⟩ a hS
      have C := got_own C hw hr4
      refine wl_pures (j := 6) hS 1 [7, 9, 10, 11, 12] (m' := [(7, .bool x1), (9, v4), (10, .int .i64 x2), (11, .int .i64 x3), (12, v6)]) (by kernel_rfl) (by kernel_rfl) fun a hS => ?_
      refine wl_nil (by kernel_rfl) ?_
      refine q_then ?_
      refine c_seq (by kernel_rfl) ?_
      refine c_seq (by kernel_rfl) ?_
      refine c_region (by kernel_rfl) ?_
      refine wl_pures (j := 1) hS 1 [7, 9, 10, 11, 12, 44] (m' := [(7, .bool x1), (9, v4), (10, .int .i64 x2), (11, .int .i64 x3), (12, v6), (44, v6)]) (by kernel_rfl) (by kernel_rfl) fun a hS => ?_
      refine wl_val (d := (some 45)) (op := (Op.call { callee := (Callee.builtin Builtin.len), args := #[(Operand.tmp 44)], argTypes := #[38] })) (g := none) hS (by kernel_rfl) (by kernel_rfl) (r_len (n := t5.length) (v := v6) (rds_shp (rds_of_row (C.okL 3 _ rfl))) (by kernel_rfl) (by kernel_rfl)) fun a hS => ?_
      refine wl_pures (j := 4) hS 2 [7, 9, 10, 11, 12, 47] (m' := [(7, .bool x1), (9, v4), (10, .int .i64 x2), (11, .int .i64 x3), (12, v6), (47, .bool ((t5.length : Int) != x3))]) (by kernel_rfl) (by kernel_rfl) fun a hS => ?_
      refine wl_nil (by kernel_rfl) ?_
      refine q_then ?_
      refine c_if (b := ((t5.length : Int) != x3)) hS (by kernel_rfl) (by kernel_rfl) (fun hb => ?_) (fun hb => ?_)
      · have hf := opt_t hb hf
        refine c_seq (by kernel_rfl) ?_
        refine c_region (by kernel_rfl) ?_
        refine wl_pures (j := 1) hS 1 [6] (m' := [(6, .bool false)]) (by kernel_rfl) (by kernel_rfl) fun a hS => ?_
        refine wl_nil (by kernel_rfl) ?_
        refine q_then ?_
        refine c_ret (by kernel_rfl) ?_
        refine q_thenr ?_
        refine q_ret hS (vs := [.bool false]) (by kernel_rfl) ?_
        obtain rfl := Option.some.inj hf
        exact ⟨_, rfl, rfl, C.fr⟩
      · have hf := opt_f hb hf
        refine c_skip (by kernel_rfl) ?_
        refine q_then ?_
        refine c_seq (by kernel_rfl) ?_
        refine c_seq (by kernel_rfl) ?_
        refine c_region (by kernel_rfl) ?_
        refine wl_pures (j := 1) hS 1 [7, 9, 10, 11, 12, 13] (m' := [(7, .bool x1), (9, v4), (10, .int .i64 x2), (11, .int .i64 x3), (12, v6), (13, .int .i64 0)]) (by kernel_rfl) (by kernel_rfl) fun a hS => ?_
        refine wl_nil (by kernel_rfl) ?_
        refine q_then ?_
        refine c_block (i := 0) (by kernel_rfl) ?_
        refine c_loop (by kernel_rfl) (fun kk1 a w => ∃ l7 : List Int, ∃ v11 : Value, ∃ x7 : Int, scriniumlaw06_ExtentPlaces.l1 x1 l2 x2 x3 kk1 l7 x7 = some res ∧ Sl 65 [(7, .bool x1), (9, v4), (10, .int .i64 x2), (11, .int .i64 x3), (12, v11), (13, .int .i64 x7)] a ∧ Ctx w0 nob A0 [rowE v4 3 1 l2.length (l2.flatMap (FK .i64).cells), rowE v11 3 1 l7.length (l7.flatMap (FK .i64).cells)] [] w) k ⟨t5, v6, 0, hf, hS.keep [7, 9, 10, 11, 12, 13] (by kernel_rfl), ctx_pick [1, 3] [] C (by kernel_rfl) rfl rfl⟩ ?_
        rintro kk1 a w ⟨l7, v11, x7, hf, hS, C⟩
        cases kk1 with
        | zero => exact no_none hf
        | succ kk1 =>
          rw [scriniumlaw06_ExtentPlaces.l1] at hf
          refine c_seq (by kernel_rfl) ?_
          refine c_seq (by kernel_rfl) ?_
          refine c_region (by kernel_rfl) ?_
          refine wl_pures (j := 3) hS 3 [7, 9, 10, 11, 12, 13, 50] (m' := [(7, .bool x1), (9, v4), (10, .int .i64 x2), (11, .int .i64 x3), (12, v11), (13, .int .i64 x7), (50, .bool (decide (x7 < x3)))]) (by kernel_rfl) (by kernel_rfl) fun a hS => ?_
          refine wl_nil (by kernel_rfl) ?_
          refine q_then ?_
          refine c_if (b := (decide (x7 < x3))) hS (by kernel_rfl) (by kernel_rfl) (fun hb => ?_) (fun hb => ?_)
          · have hf := opt_t hb hf
            refine c_skip (by kernel_rfl) ?_
            refine q_then ?_
            refine c_seq (by kernel_rfl) ?_
            refine c_block (i := 1) (by kernel_rfl) ?_
            refine c_seq (by kernel_rfl) ?_
            refine c_drawsC [0, 1] [] 11 C (by kernel_rfl) (by kernel_rfl) (by kernel_rfl) (N := 11) (by kernel_rfl) (by kernel_rfl) fun _ C => ?_
            refine dr_pures (fuel := 5) (l' := [7, 6, 5, 4, 1, 0]) hS (ctx_pick [0, 1] [] C (by kernel_rfl) rfl rfl) [0, 1, 4, 5, 6, 7] [7, 9, 10, 11, 12, 13, 53, 54, 57, 60] (m' := [(7, .bool x1), (9, v4), (10, .int .i64 x2), (11, .int .i64 x3), (12, v11), (13, .int .i64 x7), (53, v11), (54, .int .i64 x7), (57, v4), (60, .int .i64 (W64 (x2 + x7)))]) (by kernel_rfl) (by kernel_rfl) (by kernel_rfl) fun a hS => ?_
            obtain ⟨hi1, hf⟩ := ite_some hf
            refine dr_take (fuel := 4) (j := 2) (v := .pointer (some (elemA v11 (x7.toNat * 1)))) (d := (some 55)) (op := (Op.indexAddr 38 (Operand.tmp 53) (Operand.tmp 54))) (g := none) hS (by kernel_rfl) (by kernel_rfl) (fun _ CS => r_idx (i := x7) (k := .i64) (v := v11) (sz := 1) (rds_shp (rds_of_row (C.okL 1 _ rfl))) (by kernel_rfl) (by kernel_rfl) hi1.1 hi1.2 (by kernel_rfl)) (ctx_pick [0, 1] [] C (by kernel_rfl) rfl rfl) fun a hS => ?_
            refine dr_take (fuel := 3) (j := 3) (v := .int .i64 ((FK .i64).at_ l7 x7)) (d := (some 56)) (op := (Op.load 3 (Operand.tmp 55))) (g := none) hS (by kernel_rfl) (by kernel_rfl) (fun _ CS => r_ldF0 (FK .i64) (i := x7) (u := .int .i64 ((FK .i64).at_ l7 x7)) (rds_of_row (CS.okL 1 _ rfl)) (by kernel_rfl) hi1.1 hi1.2 (by decide) (by kernel_rfl) (by kernel_rfl)) (ctx_pick [0, 1] [] C (by kernel_rfl) rfl rfl) fun a hS => ?_
            obtain ⟨hi2, hf⟩ := ite_some hf
            refine dr_take (fuel := 2) (j := 8) (v := .pointer (some (elemA v4 ((W64 (x2 + x7)).toNat * 1)))) (d := (some 61)) (op := (Op.indexAddr 38 (Operand.tmp 57) (Operand.tmp 60))) (g := none) hS (by kernel_rfl) (by kernel_rfl) (fun _ CS => r_idx (i := (W64 (x2 + x7))) (k := .i64) (v := v4) (sz := 1) (rds_shp (rds_of_row (C.okL 0 _ rfl))) (by kernel_rfl) (by kernel_rfl) hi2.1 hi2.2 (by kernel_rfl)) (ctx_pick [0, 1] [] C (by kernel_rfl) rfl rfl) fun a hS => ?_
            refine dr_take (fuel := 1) (j := 9) (v := .int .i64 ((FK .i64).at_ l2 (W64 (x2 + x7)))) (d := (some 62)) (op := (Op.load 3 (Operand.tmp 61))) (g := none) hS (by kernel_rfl) (by kernel_rfl) (fun _ CS => r_ldF0 (FK .i64) (i := (W64 (x2 + x7))) (u := .int .i64 ((FK .i64).at_ l2 (W64 (x2 + x7)))) (rds_of_row (CS.okL 0 _ rfl)) (by kernel_rfl) hi2.1 hi2.2 (by decide) (by kernel_rfl) (by kernel_rfl)) (ctx_pick [0, 1] [] C (by kernel_rfl) rfl rfl) fun a hS => ?_
            refine dr_pures (fuel := 0) (l' := [10, 9, 8, 3, 2, 7, 6, 5, 4, 1, 0]) hS (ctx_pick [0, 1] [] C (by kernel_rfl) rfl rfl) [10] [7, 9, 10, 11, 12, 13, 63] (m' := [(7, .bool x1), (9, v4), (10, .int .i64 x2), (11, .int .i64 x3), (12, v11), (13, .int .i64 x7), (63, .bool (((FK .i64).at_ l7 x7) != ((FK .i64).at_ l2 (W64 (x2 + x7)))))]) (by kernel_rfl) (by kernel_rfl) (by kernel_rfl) fun a hS => ?_
            refine dr_done (by kernel_rfl) ?_
            refine q_then ?_
            refine c_if (b := (((FK .i64).at_ l7 x7) != ((FK .i64).at_ l2 (W64 (x2 + x7))))) hS (by kernel_rfl) (by kernel_rfl) (fun hb => ?_) (fun hb => ?_)
            · have hf := opt_t hb hf
              refine c_seq (by kernel_rfl) ?_
              refine c_region (by kernel_rfl) ?_
              refine wl_pures (j := 1) hS 1 [6] (m' := [(6, .bool false)]) (by kernel_rfl) (by kernel_rfl) fun a hS => ?_
              refine wl_nil (by kernel_rfl) ?_
              refine q_then ?_
              refine c_ret (by kernel_rfl) ?_
              refine q_inr ?_
              refine q_thenr ?_
              refine q_thenr ?_
              refine q_inr ?_
              refine q_thenr ?_
              refine q_ret hS (vs := [.bool false]) (by kernel_rfl) ?_
              obtain rfl := Option.some.inj hf
              exact ⟨_, rfl, rfl, C.fr⟩
            · have hf := opt_f hb hf
              refine c_skip (by kernel_rfl) ?_
              refine q_in ?_
              refine q_then ?_
              refine c_region (by kernel_rfl) ?_
              refine wl_pures (j := 3) hS 3 [7, 9, 10, 11, 12, 13] (m' := [(7, .bool x1), (9, v4), (10, .int .i64 x2), (11, .int .i64 x3), (12, v11), (13, .int .i64 (W64 (x7 + 1)))]) (by kernel_rfl) (by kernel_rfl) fun a hS => ?_
              refine wl_nil (by kernel_rfl) ?_
              exact q_then ⟨kk1, Nat.lt_succ_self kk1, l7, v11, (W64 (x7 + 1)), hf, hS.keep [7, 9, 10, 11, 12, 13] (by kernel_rfl), ctx_pick [0, 1] [] C (by kernel_rfl) rfl rfl⟩
          · have hf := opt_f hb hf
            refine c_exit (i := 0) (by kernel_rfl) ?_
            refine q_thenx ?_
            refine q_thenx ?_
            refine q_inx ?_
            refine q_then ?_
            refine c_seq (by kernel_rfl) ?_
            refine c_region (by kernel_rfl) ?_
            refine wl_pures (j := 2) hS 2 [6] (m' := [(6, .bool x1)]) (by kernel_rfl) (by kernel_rfl) fun a hS => ?_
            refine wl_nil (by kernel_rfl) ?_
            refine q_then ?_
            refine c_ret (by kernel_rfl) ?_
            refine q_ret hS (vs := [.bool x1]) (by kernel_rfl) ?_
            obtain rfl := Option.some.inj hf
            exact ⟨_, rfl, rfl, C.fr⟩
    · refine c_seq (by kernel_rfl) ?_
      refine c_region (by kernel_rfl) ?_
      refine wl_pures (j := 2) hS 2 [7, 8, 9, 10, 11, 36] (m' := [(7, .bool x1), (8, v3), (9, v4), (10, .int .i64 x2), (11, .int .i64 (p2.tmod (W64 ((W64 ((l2.length : Int) - x2)) + 1)))), (36, .bool (decide ((p2.tmod (W64 ((W64 ((l2.length : Int) - x2)) + 1))) < 0)))]) (by kernel_rfl) (by kernel_rfl) fun a hS => ?_
      refine wl_nil (by kernel_rfl) ?_
      refine q_then ?_
      refine c_if (b := (decide ((p2.tmod (W64 ((W64 ((l2.length : Int) - x2)) + 1))) < 0))) hS (by kernel_rfl) (by kernel_rfl) (fun hb => ?_) (fun hb => ?_)
      · have hf := opt_t hb hf
        refine c_region (by kernel_rfl) ?_
        refine wl_pures (j := 3) hS 3 [7, 8, 9, 10, 11] (m' := [(7, .bool x1), (8, v3), (9, v4), (10, .int .i64 x2), (11, .int .i64 (W64 (0 - (p2.tmod (W64 ((W64 ((l2.length : Int) - x2)) + 1))))))]) (by kernel_rfl) (by kernel_rfl) fun a hS => ?_
        refine wl_nil (by kernel_rfl) ?_
        exact q_then ⟨(W64 (0 - (p2.tmod (W64 ((W64 ((l2.length : Int) - x2)) + 1))))), hf, hS.keep [7, 8, 9, 10, 11] (by kernel_rfl), ctx_pick [0, 1] [] C (by kernel_rfl) rfl rfl⟩
      · have hf := opt_f hb hf
        refine c_skip (by kernel_rfl) ?_
        exact q_then ⟨(p2.tmod (W64 ((W64 ((l2.length : Int) - x2)) + 1))), hf, hS.keep [7, 8, 9, 10, 11] (by kernel_rfl), ctx_pick [0, 1] [] C (by kernel_rfl) rfl rfl⟩
  · refine c_seq (by kernel_rfl) ?_
    refine c_region (by kernel_rfl) ?_
    refine wl_pures (j := 2) hS 2 [2, 7, 8, 9, 10, 25] (m' := [(2, .int .i64 p2), (7, .bool t1), (8, v1), (9, v2), (10, .int .i64 (p1.tmod (W64 ((t3.length : Int) + 1)))), (25, .bool (decide ((p1.tmod (W64 ((t3.length : Int) + 1))) < 0)))]) (by kernel_rfl) (by kernel_rfl) fun a hS => ?_
    refine wl_nil (by kernel_rfl) ?_
    refine q_then ?_
    refine c_if (b := (decide ((p1.tmod (W64 ((t3.length : Int) + 1))) < 0))) hS (by kernel_rfl) (by kernel_rfl) (fun hb => ?_) (fun hb => ?_)
    · have hf := opt_t hb hf
      refine c_region (by kernel_rfl) ?_
      refine wl_pures (j := 3) hS 3 [2, 7, 8, 9, 10] (m' := [(2, .int .i64 p2), (7, .bool t1), (8, v1), (9, v2), (10, .int .i64 (W64 (0 - (p1.tmod (W64 ((t3.length : Int) + 1))))))]) (by kernel_rfl) (by kernel_rfl) fun a hS => ?_
      refine wl_nil (by kernel_rfl) ?_
      exact q_then ⟨t1, t2, v1, t3, v2, (W64 (0 - (p1.tmod (W64 ((t3.length : Int) + 1))))), hf, hS.keep [2, 7, 8, 9, 10] (by kernel_rfl), ctx_pick [0, 1] [] C (by kernel_rfl) rfl rfl⟩
    · have hf := opt_f hb hf
      refine c_skip (by kernel_rfl) ?_
      exact q_then ⟨t1, t2, v1, t3, v2, (p1.tmod (W64 ((t3.length : Int) + 1))), hf, hS.keep [2, 7, 8, 9, 10] (by kernel_rfl), ctx_pick [0, 1] [] C (by kernel_rfl) rfl rfl⟩

def scriniumlaw06_ExtentTurns.j1 (l8 : List Int) (x7 : Int) (LOOP1 : (List Int → Int → Option Bool)) (x8 : Bool) : Option Bool := (if x8 = true then (some false) else LOOP1 l8 (W64 (x7 + 1)))
def scriniumlaw06_ExtentTurns.j2 (x12 : Int) (LOOP2 : (List S_Run → Int → Option Bool)) (l13 : List S_Run) (x15 : Bool) : Option Bool := (if x15 = true then (some false) else LOOP2 l13 (W64 (x12 + 1)))
def scriniumlaw06_ExtentTurns.j3 (kk2 : Nat) (l12 : List S_Run) (x12 : Int) (LOOP2 : (List S_Run → Int → Option Bool)) (x13 : Int) (x14 : Int) : Option Bool := ((extent_Give.f kk2 l12 (⟨x13, x14⟩ : S_Run)).bind fun t8 => (if (!t8.2) = true then scriniumlaw06_ExtentTurns.j2 x12 LOOP2 t8.1 true else ((extent_Check.f kk2 t8.1).bind fun t9 => scriniumlaw06_ExtentTurns.j2 x12 LOOP2 t8.1 (t9 != 0))))
def scriniumlaw06_ExtentTurns.l2 (p2 : Bool) (x1 : Bool) (l1 : List S_Run) (l2 : List S_Run) : Nat → List S_Run → Int → Option Bool
  | 0, _, _ => none
  | kk2 + 1, l12, x12 => (if (decide (x12 < (l2.length : Int))) = true then (if 0 ≤ x12 ∧ x12 < (l2.length : Int) then (if p2 = true then (if 0 ≤ (W64 ((W64 ((l2.length : Int) - 1)) - x12)) ∧ (W64 ((W64 ((l2.length : Int) - 1)) - x12)) < (l2.length : Int) then scriniumlaw06_ExtentTurns.j3 kk2 l12 x12 (scriniumlaw06_ExtentTurns.l2 p2 x1 l1 l2 kk2) ((F_Run.at_ l2 (W64 ((W64 ((l2.length : Int) - 1)) - x12))).f_At) ((F_Run.at_ l2 (W64 ((W64 ((l2.length : Int) - 1)) - x12))).f_N) else none) else scriniumlaw06_ExtentTurns.j3 kk2 l12 x12 (scriniumlaw06_ExtentTurns.l2 p2 x1 l1 l2 kk2) ((F_Run.at_ l2 x12).f_At) ((F_Run.at_ l2 x12).f_N)) else none) else ((scriniumref06_Same.f kk2 l12 l1).bind fun t10 => (if x1 = true then (some t10) else (some false))))
def scriniumlaw06_ExtentTurns.l1 (p2 : Bool) (x1 : Bool) (l1 : List S_Run) (l2 : List S_Run) (l3 : List S_Run) : Nat → List Int → Int → Option Bool
  | 0, _, _ => none
  | kk1 + 1, l8, x7 => (if (decide (x7 < (l8.length : Int))) = true then (if 0 ≤ x7 ∧ x7 < (l8.length : Int) then ((extent_Has.f kk1 l1 ((FK .i64).at_ l8 x7)).bind fun t6 => (if (!t6) = true then scriniumlaw06_ExtentTurns.j1 l8 x7 (scriniumlaw06_ExtentTurns.l1 p2 x1 l1 l2 l3 kk1) true else (if 0 ≤ x7 ∧ x7 < (l8.length : Int) then ((extent_Has.f kk1 l3 ((FK .i64).at_ l8 x7)).bind fun t7 => scriniumlaw06_ExtentTurns.j1 l8 x7 (scriniumlaw06_ExtentTurns.l1 p2 x1 l1 l2 l3 kk1) t7) else none))) else none) else scriniumlaw06_ExtentTurns.l2 p2 x1 l1 l2 kk1 l3 0)
def scriniumlaw06_ExtentTurns.j4 (k : Nat) (p2 : Bool) (x1 : Bool) (l1 : List S_Run) (l2 : List S_Run) (l3 : List S_Run) (x3 : Bool) : Option Bool := (if x3 = true then (some false) else ((extent_All.f k l2).bind fun t5 => scriniumlaw06_ExtentTurns.l1 p2 x1 l1 l2 l3 k t5 0))
def scriniumlaw06_ExtentTurns.j5 (k : Nat) (p2 : Bool) (x1 : Bool) (l1 : List S_Run) (x2 : Int) : Option Bool := ((extent_Take.f k l1 x2).bind fun t4 => (if (!t4.2.2) = true then scriniumlaw06_ExtentTurns.j4 k p2 x1 l1 t4.1 t4.2.1 true else ((extent_Total.f k t4.1).bind fun t11 => (if (t11 != x2) = true then scriniumlaw06_ExtentTurns.j4 k p2 x1 l1 t4.1 t4.2.1 true else ((extent_Total.f k t4.2.1).bind fun t12 => ((extent_Total.f k l1).bind fun t13 => (if (t12 != (W64 (t13 - x2))) = true then scriniumlaw06_ExtentTurns.j4 k p2 x1 l1 t4.1 t4.2.1 true else ((extent_Check.f k t4.2.1).bind fun t14 => scriniumlaw06_ExtentTurns.j4 k p2 x1 l1 t4.1 t4.2.1 (t14 != 0)))))))))
def scriniumlaw06_ExtentTurns.f (k : Nat) (p0 : (List S_Run)) (p1 : Int) (p2 : Bool) : Option Bool := ((scriniumlaw06_awake.f k).bind fun t1 => ((scriniumlaw06_free.f k p0).bind fun t2 => ((extent_Total.f k t2).bind fun t3 => (if (W64 (t3 + 1)) ≠ 0 then (if (decide ((p1.tmod (W64 (t3 + 1))) < 0)) = true then scriniumlaw06_ExtentTurns.j5 k p2 t1 t2 (W64 (0 - (p1.tmod (W64 (t3 + 1))))) else scriniumlaw06_ExtentTurns.j5 k p2 t1 t2 (p1.tmod (W64 (t3 + 1)))) else none))))
theorem scriniumlaw06_ExtentTurns_ok (k : Nat) (w0 : World) (p0 : (List S_Run)) (p1 : Int) (p2 : Bool) (v_0 : Value) (h_0 : Rds v_0 p0.length 2 (p0.flatMap F_Run.cells) w0) (res : Bool) (hf : scriniumlaw06_ExtentTurns.f k p0 p1 p2 = some res) :
    Fn Try.prog 8 [v_0, .int .i64 p1, .bool p2] w0 (fun v w' => v = .bool res ∧ Fr nob w0 w') := by
  have C := ctx_start w0 [rdE v_0 p0.length 2 (p0.flatMap F_Run.cells)] (start1 h_0)
  generalize allDom [rdE v_0 p0.length 2 (p0.flatMap F_Run.cells)] = A0 at C
  refine f_enter (fn := Try.f8) (k := 121) rfl rfl rfl fun a hS => ?_
  have hS : Sl 124 [(0, v_0), (1, .int .i64 p1), (2, .bool p2)] a := hS
  rw [scriniumlaw06_ExtentTurns.f] at hf
  refine c_seq (by kernel_rfl) ?_
  refine c_region (by kernel_rfl) ?_
  refine wl_pures (j := 1) hS 1 [0, 1, 2] (m' := [(0, v_0), (1, .int .i64 p1), (2, .bool p2)]) (by kernel_rfl) (by kernel_rfl) fun a hS => ?_
  refine wl_nil (by kernel_rfl) ?_
  refine q_then ?_
  refine c_seq (by kernel_rfl) ?_
  refine c_region (by kernel_rfl) ?_
  obtain ⟨t1, ht1, hf⟩ := bind_some hf
  refine wl_eff (d := (some 20)) (op := (Op.call { callee := (Callee.value (Operand.func 9)), args := #[], argTypes := #[] })) (g := none) hS (by kernel_rfl) (by kernel_rfl) (eff_fn (by kernel_rfl) rfl (by kernel_rfl) (scriniumlaw06_awake_ok k _ t1 ht1)) ?_
  rintro _ _ ⟨rfl, hw⟩ a hS
  have C := ctx_still C hw
  refine wl_pures (j := 2) hS 1 [0, 1, 2, 7] (m' := [(0, v_0), (1, .int .i64 p1), (2, .bool p2), (7, .bool t1)]) (by kernel_rfl) (by kernel_rfl) fun a hS => ?_
  refine wl_nil (by kernel_rfl) ?_
  refine q_then ?_
  refine c_seq (by kernel_rfl) ?_
  refine c_region (by kernel_rfl) ?_
  refine wl_pures (j := 1) hS 1 [1, 2, 7, 21] (m' := [(1, .int .i64 p1), (2, .bool p2), (7, .bool t1), (21, v_0)]) (by kernel_rfl) (by kernel_rfl) fun a hS => ?_
  obtain ⟨t2, ht2, hf⟩ := bind_some hf
  refine wl_eff (d := (some 22)) (op := (Op.call { callee := (Callee.value (Operand.func 11)), args := #[(Operand.tmp 21)], argTypes := #[22] })) (g := none) hS (by kernel_rfl) (by kernel_rfl) (eff_fn (by kernel_rfl) rfl (by kernel_rfl) (scriniumlaw06_free_ok k _ p0 v_0 (C.okR 0 _ rfl) t2 ht2)) ?_
  rintro v1 _ ⟨hw, hr1⟩ a hS
  have C := got_lies C hw hr1 (dom_one (j := 0) rfl)
  refine wl_pures (j := 3) hS 1 [1, 2, 7, 8] (m' := [(1, .int .i64 p1), (2, .bool p2), (7, .bool t1), (8, v1)]) (by kernel_rfl) (by kernel_rfl) fun a hS => ?_
  refine wl_nil (by kernel_rfl) ?_
  refine q_then ?_
  refine c_seq (by kernel_rfl) ?_
  refine c_region (by kernel_rfl) ?_
  refine wl_pures (j := 2) hS 2 [2, 7, 8, 23, 24] (m' := [(2, .bool p2), (7, .bool t1), (8, v1), (23, .int .i64 p1), (24, v1)]) (by kernel_rfl) (by kernel_rfl) fun a hS => ?_
  obtain ⟨t3, ht3, hf⟩ := bind_some hf
  refine wl_eff (d := (some 25)) (op := (Op.call { callee := (Callee.value (Operand.func 17)), args := #[(Operand.tmp 24)], argTypes := #[22] })) (g := none) hS (by kernel_rfl) (by kernel_rfl) (eff_fn (by kernel_rfl) rfl (by kernel_rfl) (extent_Total_ok k _ t2 v1 (C.okR 1 _ rfl) t3 ht3)) ?_
  rintro _ _ ⟨rfl, hw⟩ a hS
  have C := ctx_still C hw
  refine wl_pures (j := 4) hS 1 [2, 7, 8, 23, 26] (m' := [(2, .bool p2), (7, .bool t1), (8, v1), (23, .int .i64 p1), (26, .int .i64 (W64 (t3 + 1)))]) (by kernel_rfl) (by kernel_rfl) fun a hS => ?_
  obtain ⟨hq1, hf⟩ := ite_some hf
  refine wl_val (d := (some 27)) (op := (Op.binOp BinOp.rem 3 (Operand.tmp 23) (Operand.tmp 26) 3)) (g := none) hS (by kernel_rfl) (by kernel_rfl) (r_div (k := .i64) (p := p1) (q := (W64 (t3 + 1))) (v := .int .i64 (p1.tmod (W64 (t3 + 1)))) (by kernel_rfl) (by kernel_rfl) hq1 (by kernel_rfl)) fun a hS => ?_
  refine wl_pures (j := 6) hS 1 [2, 7, 8, 9] (m' := [(2, .bool p2), (7, .bool t1), (8, v1), (9, .int .i64 (p1.tmod (W64 (t3 + 1))))]) (by kernel_rfl) (by kernel_rfl) fun a hS => ?_
  refine wl_nil (by kernel_rfl) ?_
  refine q_then ?_
  refine c_join (by kernel_rfl) (fun a w => ∃ x1 : Bool, ∃ l1 : List S_Run, ∃ v2 : Value, ∃ x2 : Int, scriniumlaw06_ExtentTurns.j5 k p2 x1 l1 x2 = some res ∧ Sl 124 [(2, .bool p2), (7, .bool x1), (8, v2), (9, .int .i64 x2)] a ∧ Ctx w0 nob A0 [] [rdE v2 l1.length 2 (l1.flatMap F_Run.cells)] w) ?_ ?_
  · rintro a w ⟨x1, l1, v2, x2, hf, hS, C⟩
    rw [scriniumlaw06_ExtentTurns.j5] at hf
    refine c_seq (by kernel_rfl) ?_
    refine c_region (by kernel_rfl) ?_
    refine wl_pures (j := 2) hS 2 [2, 7, 8, 9, 33, 34] (m' := [(2, .bool p2), (7, .bool x1), (8, v2), (9, .int .i64 x2), (33, v2), (34, .int .i64 x2)]) (by kernel_rfl) (by kernel_rfl) fun a hS => ?_
    obtain ⟨t4, ht4, hf⟩ := bind_some hf
    refine wl_eff (d := (some 35)) (op := (Op.call { callee := (Callee.value (Operand.func 12)), args := #[(Operand.tmp 33), (Operand.tmp 34)], argTypes := #[22, 3] })) (g := none) hS (by kernel_rfl) (by kernel_rfl) (eff_fn (by kernel_rfl) rfl (by kernel_rfl) (extent_Take_ok k _ l1 x2 v2 (C.okR 0 _ rfl) t4 ht4)) ?_
    rintro _ _ ⟨v3, v4, rfl, hw, hr2, hr3⟩ a hS
    have CC := C
    have C := got_lies C hw hr2 (dom_one (j := 0) rfl)
    have C := got_more CC C hw hr3 (dom_one (j := 0) rfl)
    refine wl_pures (j := 10) hS 7 [2, 7, 8, 9, 10, 11, 12] (m' := [(2, .bool p2), (7, .bool x1), (8, v2), (9, .int .i64 x2), (10, v3), (11, v4), (12, .bool t4.2.2)]) (by kernel_rfl) (by kernel_rfl) fun a hS => ?_
    refine wl_nil (by kernel_rfl) ?_
    refine q_then ?_
    refine c_seq (by kernel_rfl) ?_
    refine c_join (by kernel_rfl) (fun a w => ∃ l2 : List S_Run, ∃ v5 : Value, ∃ l3 : List S_Run, ∃ v6 : Value, ∃ x3 : Bool, scriniumlaw06_ExtentTurns.j4 k p2 x1 l1 l2 l3 x3 = some res ∧ Sl 124 [(2, .bool p2), (7, .bool x1), (8, v2), (10, v5), (11, v6), (60, .bool x3)] a ∧ Ctx w0 nob A0 [] [rdE v2 l1.length 2 (l1.flatMap F_Run.cells), rdE v5 l2.length 2 (l2.flatMap F_Run.cells), rdE v6 l3.length 2 (l3.flatMap F_Run.cells)] w) ?_ ?_
    · rintro a w ⟨l2, v5, l3, v6, x3, hf, hS, C⟩
      rw [scriniumlaw06_ExtentTurns.j4] at hf
      refine c_if (b := x3) hS (by kernel_rfl) (by kernel_rfl) (fun hb => ?_) (fun hb => ?_)
      · have hf := opt_t hb hf
        refine c_seq (by kernel_rfl) ?_
        refine c_region (by kernel_rfl) ?_
        refine wl_pures (j := 1) hS 1 [6] (m' := [(6, .bool false)]) (by kernel_rfl) (by kernel_rfl) fun a hS => ?_
        refine wl_nil (by kernel_rfl) ?_
        refine q_then ?_
        refine c_ret (by kernel_rfl) ?_
        refine q_thenr ?_
        refine q_ret hS (vs := [.bool false]) (by kernel_rfl) ?_
        obtain rfl := Option.some.inj hf
        exact ⟨_, rfl, rfl, C.fr⟩
      · have hf := opt_f hb hf
        refine c_skip (by kernel_rfl) ?_
        refine q_then ?_
        refine c_seq (by kernel_rfl) ?_
        refine c_region (by kernel_rfl) ?_
        refine wl_pures (j := 1) hS 1 [2, 7, 8, 10, 11, 61] (m' := [(2, .bool p2), (7, .bool x1), (8, v2), (10, v5), (11, v6), (61, v5)]) (by kernel_rfl) (by kernel_rfl) fun a hS => ?_
        obtain ⟨t5, ht5, hf⟩ := bind_some hf
        refine wl_eff (d := (some 62)) (op := (Op.call { callee := (Callee.value (Operand.func 21)), args := #[(Operand.tmp 61)], argTypes := #[22] })) (g := none) hS (by kernel_rfl) (by kernel_rfl) (eff_fn (by kernel_rfl) rfl (by kernel_rfl) (extent_All_ok k _ l2 v5 (C.okR 1 _ rfl) t5 ht5)) ?_
        rintro v7 _ ⟨hw, hr4⟩ a hS
        have C := got_own C hw hr4
        refine wl_pures (j := 3) hS 1 [2, 7, 8, 10, 11, 13] (m' := [(2, .bool p2), (7, .bool x1), (8, v2), (10, v5), (11, v6), (13, v7)]) (by kernel_rfl) (by kernel_rfl) fun a hS => ?_
        refine wl_nil (by kernel_rfl) ?_
        refine q_then ?_
        refine c_seq (by kernel_rfl) ?_
        refine c_seq (by kernel_rfl) ?_
        refine c_region (by kernel_rfl) ?_
        refine wl_pures (j := 1) hS 1 [2, 7, 8, 10, 11, 13, 14] (m' := [(2, .bool p2), (7, .bool x1), (8, v2), (10, v5), (11, v6), (13, v7), (14, .int .i64 0)]) (by kernel_rfl) (by kernel_rfl) fun a hS => ?_
        refine wl_nil (by kernel_rfl) ?_
        refine q_then ?_
        refine c_block (i := 0) (by kernel_rfl) ?_
        refine c_loop (by kernel_rfl) (fun kk1 a w => ∃ l8 : List Int, ∃ v12 : Value, ∃ x7 : Int, scriniumlaw06_ExtentTurns.l1 p2 x1 l1 l2 l3 kk1 l8 x7 = some res ∧ Sl 124 [(2, .bool p2), (7, .bool x1), (8, v2), (10, v5), (11, v6), (13, v12), (14, .int .i64 x7)] a ∧ Ctx w0 nob A0 [rowE v12 3 1 l8.length (l8.flatMap (FK .i64).cells)] [rdE v2 l1.length 2 (l1.flatMap F_Run.cells), rdE v5 l2.length 2 (l2.flatMap F_Run.cells), rdE v6 l3.length 2 (l3.flatMap F_Run.cells)] w) k ⟨t5, v7, 0, hf, hS.keep [2, 7, 8, 10, 11, 13, 14] (by kernel_rfl), ctx_pick [0] [0, 1, 2] C (by kernel_rfl) rfl rfl⟩ ?_
        rintro kk1 a w ⟨l8, v12, x7, hf, hS, C⟩
        cases kk1 with
        | zero => exact no_none hf
        | succ kk1 =>
          rw [scriniumlaw06_ExtentTurns.l1] at hf
          refine c_seq (by kernel_rfl) ?_
          refine c_seq (by kernel_rfl) ?_
          refine c_region (by kernel_rfl) ?_
          refine wl_pures (j := 2) hS 2 [2, 7, 8, 10, 11, 13, 14, 63, 64] (m' := [(2, .bool p2), (7, .bool x1), (8, v2), (10, v5), (11, v6), (13, v12), (14, .int .i64 x7), (63, .int .i64 x7), (64, v12)]) (by kernel_rfl) (by kernel_rfl) fun a hS => ?_
          refine wl_val (d := (some 65)) (op := (Op.call { callee := (Callee.builtin Builtin.len), args := #[(Operand.tmp 64)], argTypes := #[38] })) (g := none) hS (by kernel_rfl) (by kernel_rfl) (r_len (n := l8.length) (v := v12) (rds_shp (rds_of_row (C.okL 0 _ rfl))) (by kernel_rfl) (by kernel_rfl)) fun a hS => ?_
          refine wl_pures (j := 4) hS 1 [2, 7, 8, 10, 11, 13, 14, 66] (m' := [(2, .bool p2), (7, .bool x1), (8, v2), (10, v5), (11, v6), (13, v12), (14, .int .i64 x7), (66, .bool (decide (x7 < (l8.length : Int))))]) (by kernel_rfl) (by kernel_rfl) fun a hS => ?_
          refine wl_nil (by kernel_rfl) ?_
          refine q_then ?_
          refine c_if (b := (decide (x7 < (l8.length : Int)))) hS (by kernel_rfl) (by kernel_rfl) (fun hb => ?_) (fun hb => ?_)
          · have hf := opt_t hb hf
            refine c_skip (by kernel_rfl) ?_
            refine q_then ?_
            refine c_seq (by kernel_rfl) ?_
            refine c_block (i := 1) (by kernel_rfl) ?_
            refine c_join (by kernel_rfl) (fun a w => ∃ x8 : Bool, scriniumlaw06_ExtentTurns.j1 l8 x7 (scriniumlaw06_ExtentTurns.l1 p2 x1 l1 l2 l3 kk1) x8 = some res ∧ Sl 124 [(2, .bool p2), (7, .bool x1), (8, v2), (10, v5), (11, v6), (13, v12), (14, .int .i64 x7), (83, .bool x8)] a ∧ Ctx w0 nob A0 [rowE v12 3 1 l8.length (l8.flatMap (FK .i64).cells)] [rdE v2 l1.length 2 (l1.flatMap F_Run.cells), rdE v5 l2.length 2 (l2.flatMap F_Run.cells), rdE v6 l3.length 2 (l3.flatMap F_Run.cells)] w) ?_ ?_
            · rintro a w ⟨x8, hf, hS, C⟩
              rw [scriniumlaw06_ExtentTurns.j1] at hf
              refine c_if (b := x8) hS (by kernel_rfl) (by kernel_rfl) (fun hb => ?_) (fun hb => ?_)
              · have hf := opt_t hb hf
                refine c_seq (by kernel_rfl) ?_
                refine c_region (by kernel_rfl) ?_
                refine wl_pures (j := 1) hS 1 [6] (m' := [(6, .bool false)]) (by kernel_rfl) (by kernel_rfl) fun a hS => ?_
                refine wl_nil (by kernel_rfl) ?_
                refine q_then ?_
                refine c_ret (by kernel_rfl) ?_
                refine q_inr ?_
                refine q_thenr ?_
                refine q_thenr ?_
                refine q_inr ?_
                refine q_thenr ?_
                refine q_ret hS (vs := [.bool false]) (by kernel_rfl) ?_
                obtain rfl := Option.some.inj hf
                exact ⟨_, rfl, rfl, C.fr⟩
              · have hf := opt_f hb hf
                refine c_skip (by kernel_rfl) ?_
                refine q_in ?_
                refine q_then ?_
                refine c_region (by kernel_rfl) ?_
                refine wl_pures (j := 3) hS 3 [2, 7, 8, 10, 11, 13, 14] (m' := [(2, .bool p2), (7, .bool x1), (8, v2), (10, v5), (11, v6), (13, v12), (14, .int .i64 (W64 (x7 + 1)))]) (by kernel_rfl) (by kernel_rfl) fun a hS => ?_
                refine wl_nil (by kernel_rfl) ?_
                exact q_then ⟨kk1, Nat.lt_succ_self kk1, l8, v12, (W64 (x7 + 1)), hf, hS.keep [2, 7, 8, 10, 11, 13, 14] (by kernel_rfl), ctx_pick [0] [0, 1, 2] C (by kernel_rfl) rfl rfl⟩
            · refine c_region (by kernel_rfl) ?_
              refine wl_pures (j := 3) hS 3 [2, 7, 8, 10, 11, 13, 14, 69, 70, 71] (m' := [(2, .bool p2), (7, .bool x1), (8, v2), (10, v5), (11, v6), (13, v12), (14, .int .i64 x7), (69, v2), (70, v12), (71, .int .i64 x7)]) (by kernel_rfl) (by kernel_rfl) fun a hS => ?_
              obtain ⟨hi1, hf⟩ := ite_some hf
              refine wl_val (d := (some 72)) (op := (Op.indexAddr 38 (Operand.tmp 70) (Operand.tmp 71))) (g := none) hS (by kernel_rfl) (by kernel_rfl) (r_idx (i := x7) (k := .i64) (v := v12) (sz := 1) (rds_shp (rds_of_row (C.okL 0 _ rfl))) (by kernel_rfl) (by kernel_rfl) hi1.1 hi1.2 (by kernel_rfl)) fun a hS => ?_
              refine wl_val (d := (some 73)) (op := (Op.load 3 (Operand.tmp 72))) (g := none) hS (by kernel_rfl) (by kernel_rfl) (r_ldF0 (FK .i64) (i := x7) (u := .int .i64 ((FK .i64).at_ l8 x7)) (rds_of_row (C.okL 0 _ rfl)) (by kernel_rfl) hi1.1 hi1.2 (by decide) (by kernel_rfl) (by kernel_rfl)) fun a hS => ?_
              obtain ⟨t6, ht6, hf⟩ := bind_some hf
              refine wl_eff (d := (some 74)) (op := (Op.call { callee := (Callee.value (Operand.func 19)), args := #[(Operand.tmp 69), (Operand.tmp 73)], argTypes := #[22, 3] })) (g := none) hS (by kernel_rfl) (by kernel_rfl) (eff_fn (by kernel_rfl) rfl (by kernel_rfl) (extent_Has_ok kk1 _ l1 ((FK .i64).at_ l8 x7) v2 (C.okR 0 _ rfl) t6 ht6)) ?_
              rintro _ _ ⟨rfl, hw⟩ a hS
              have C := ctx_still C hw
              refine wl_pures (j := 8) hS 2 [2, 7, 8, 10, 11, 13, 14, 76] (m' := [(2, .bool p2), (7, .bool x1), (8, v2), (10, v5), (11, v6), (13, v12), (14, .int .i64 x7), (76, .bool (!t6))]) (by kernel_rfl) (by kernel_rfl) fun a hS => ?_
              rcases Bool.eq_false_or_eq_true (!t6) with hb | hb
              · rw [hb] at hS
                have hf := opt_t hb hf
                refine wl_pures (j := 15) hS 7 [2, 7, 8, 10, 11, 13, 14, 83] (m' := [(2, .bool p2), (7, .bool x1), (8, v2), (10, v5), (11, v6), (13, v12), (14, .int .i64 x7), (83, .bool true)]) (by kernel_rfl) (by kernel_rfl) fun a hS => ?_
                refine wl_nil (by kernel_rfl) ?_
                exact q_then ⟨true, hf, hS.keep [2, 7, 8, 10, 11, 13, 14, 83] (by kernel_rfl), ctx_pick [0] [0, 1, 2] C (by kernel_rfl) rfl rfl⟩
              · rw [hb] at hS
                have hf := opt_f hb hf
                refine wl_pures (j := 11) hS 3 [2, 7, 8, 10, 11, 13, 14, 76, 77, 78, 79] (m' := [(2, .bool p2), (7, .bool x1), (8, v2), (10, v5), (11, v6), (13, v12), (14, .int .i64 x7), (76, .bool false), (77, v6), (78, v12), (79, .int .i64 x7)]) (by kernel_rfl) (by kernel_rfl) fun a hS => ?_
                obtain ⟨hi2, hf⟩ := ite_some hf
                refine wl_val (d := (some 80)) (op := (Op.indexAddr 38 (Operand.tmp 78) (Operand.tmp 79))) (g := (some (7, false))) hS (by kernel_rfl) (by kernel_rfl) (r_idx (i := x7) (k := .i64) (v := v12) (sz := 1) (rds_shp (rds_of_row (C.okL 0 _ rfl))) (by kernel_rfl) (by kernel_rfl) hi2.1 hi2.2 (by kernel_rfl)) fun a hS => ?_
                refine wl_val (d := (some 81)) (op := (Op.load 3 (Operand.tmp 80))) (g := (some (7, false))) hS (by kernel_rfl) (by kernel_rfl) (r_ldF0 (FK .i64) (i := x7) (u := .int .i64 ((FK .i64).at_ l8 x7)) (rds_of_row (C.okL 0 _ rfl)) (by kernel_rfl) hi2.1 hi2.2 (by decide) (by kernel_rfl) (by kernel_rfl)) fun a hS => ?_
                obtain ⟨t7, ht7, hf⟩ := bind_some hf
                refine wl_eff (d := (some 82)) (op := (Op.call { callee := (Callee.value (Operand.func 19)), args := #[(Operand.tmp 77), (Operand.tmp 81)], argTypes := #[22, 3] })) (g := (some (7, false))) hS (by kernel_rfl) (by kernel_rfl) (eff_fn (by kernel_rfl) rfl (by kernel_rfl) (extent_Has_ok kk1 _ l3 ((FK .i64).at_ l8 x7) v6 (C.okR 2 _ rfl) t7 ht7)) ?_
                rintro _ _ ⟨rfl, hw⟩ a hS
                have C := ctx_still C hw
                refine wl_pures (j := 15) hS 1 [2, 7, 8, 10, 11, 13, 14, 83] (m' := [(2, .bool p2), (7, .bool x1), (8, v2), (10, v5), (11, v6), (13, v12), (14, .int .i64 x7), (83, .bool t7)]) (by kernel_rfl) (by kernel_rfl) fun a hS => ?_
                refine wl_nil (by kernel_rfl) ?_
                exact q_then ⟨t7, hf, hS.keep [2, 7, 8, 10, 11, 13, 14, 83] (by kernel_rfl), ctx_pick [0] [0, 1, 2] C (by kernel_rfl) rfl rfl⟩
          · have hf := opt_f hb hf
            refine c_exit (i := 0) (by kernel_rfl) ?_
            refine q_thenx ?_
            refine q_thenx ?_
            refine q_inx ?_
            refine q_then ?_
            refine c_seq (by kernel_rfl) ?_
            refine c_seq (by kernel_rfl) ?_
            refine c_region (by kernel_rfl) ?_
            refine wl_pures (j := 1) hS 1 [2, 7, 8, 10, 11, 15] (m' := [(2, .bool p2), (7, .bool x1), (8, v2), (10, v5), (11, v6), (15, .int .i64 0)]) (by kernel_rfl) (by kernel_rfl) fun a hS => ?_
            refine wl_nil (by kernel_rfl) ?_
            refine q_then ?_
            refine c_block (i := 2) (by kernel_rfl) ?_
            refine c_loop (by kernel_rfl) (fun kk2 a w => ∃ l12 : List S_Run, ∃ v16 : Value, ∃ x12 : Int, scriniumlaw06_ExtentTurns.l2 p2 x1 l1 l2 kk2 l12 x12 = some res ∧ Sl 124 [(2, .bool p2), (7, .bool x1), (8, v2), (10, v5), (11, v16), (15, .int .i64 x12)] a ∧ Ctx w0 nob A0 [] [rdE v2 l1.length 2 (l1.flatMap F_Run.cells), rdE v5 l2.length 2 (l2.flatMap F_Run.cells), rdE v16 l12.length 2 (l12.flatMap F_Run.cells)] w) kk1 ⟨l3, v6, 0, hf, hS.keep [2, 7, 8, 10, 11, 15] (by kernel_rfl), ctx_pick [] [0, 1, 2] C (by kernel_rfl) rfl rfl⟩ ?_
            rintro kk2 a w ⟨l12, v16, x12, hf, hS, C⟩
            cases kk2 with
            | zero => exact no_none hf
            | succ kk2 =>
              rw [scriniumlaw06_ExtentTurns.l2] at hf
              refine c_seq (by kernel_rfl) ?_
              refine c_seq (by kernel_rfl) ?_
              refine c_region (by kernel_rfl) ?_
              refine wl_pures (j := 2) hS 2 [2, 7, 8, 10, 11, 15, 84, 85] (m' := [(2, .bool p2), (7, .bool x1), (8, v2), (10, v5), (11, v16), (15, .int .i64 x12), (84, .int .i64 x12), (85, v5)]) (by kernel_rfl) (by kernel_rfl) fun a hS => ?_
              refine wl_val (d := (some 86)) (op := (Op.call { callee := (Callee.builtin Builtin.len), args := #[(Operand.tmp 85)], argTypes := #[22] })) (g := none) hS (by kernel_rfl) (by kernel_rfl) (r_len (n := l2.length) (v := v5) (rds_shp (C.okR 1 _ rfl)) (by kernel_rfl) (by kernel_rfl)) fun a hS => ?_
              refine wl_pures (j := 4) hS 1 [2, 7, 8, 10, 11, 15, 87] (m' := [(2, .bool p2), (7, .bool x1), (8, v2), (10, v5), (11, v16), (15, .int .i64 x12), (87, .bool (decide (x12 < (l2.length : Int))))]) (by kernel_rfl) (by kernel_rfl) fun a hS => ?_
              refine wl_nil (by kernel_rfl) ?_
              refine q_then ?_
              refine c_if (b := (decide (x12 < (l2.length : Int)))) hS (by kernel_rfl) (by kernel_rfl) (fun hb => ?_) (fun hb => ?_)
              · have hf := opt_t hb hf
                refine c_skip (by kernel_rfl) ?_
                refine q_then ?_
                refine c_seq (by kernel_rfl) ?_
                refine c_block (i := 3) (by kernel_rfl) ?_
                refine c_seq (by kernel_rfl) ?_
                refine c_region (by kernel_rfl) ?_
                refine wl_pures (j := 2) hS 2 [2, 7, 8, 10, 11, 15, 90, 91] (m' := [(2, .bool p2), (7, .bool x1), (8, v2), (10, v5), (11, v16), (15, .int .i64 x12), (90, v5), (91, .int .i64 x12)]) (by kernel_rfl) (by kernel_rfl) fun a hS => ?_
                obtain ⟨hi3, hf⟩ := ite_some hf
                refine wl_val (d := (some 92)) (op := (Op.indexAddr 22 (Operand.tmp 90) (Operand.tmp 91))) (g := none) hS (by kernel_rfl) (by kernel_rfl) (r_idx (i := x12) (k := .i64) (v := v5) (sz := 2) (rds_shp (C.okR 1 _ rfl)) (by kernel_rfl) (by kernel_rfl) hi3.1 hi3.2 (by kernel_rfl)) fun a hS => ?_
                refine wl_val (d := (some 93)) (op := (Op.load 24 (Operand.tmp 92))) (g := none) hS (by kernel_rfl) (by kernel_rfl) (r_ldFs F_Run (i := x12) (seg := [.int .i64 ((F_Run.at_ l2 x12).f_At), .int .i64 ((F_Run.at_ l2 x12).f_N)]) (C.okR 1 _ rfl) (by kernel_rfl) hi3.1 hi3.2 (by kernel_rfl) (by kernel_rfl)) fun a hS => ?_
                refine wl_eff (d := (some 16)) (op := (Op.alloc 24)) (g := none) hS (by kernel_rfl) (by kernel_rfl) (eff_alloc C (cs := [.int .i64 0, .int .i64 0]) (by kernel_rfl)) ?_
                rintro _ _ ⟨b1, rfl, C⟩ a hS
                refine wl_eff (d := none) (op := (Op.store 24 (Operand.tmp 16) (Operand.tmp 93))) (g := none) hS (by kernel_rfl) (by kernel_rfl) (eff_stb (li := 0) (off := 0) (us := [.int .i64 ((F_Run.at_ l2 x12).f_At), .int .i64 ((F_Run.at_ l2 x12).f_N)]) (cs' := [.int .i64 ((F_Run.at_ l2 x12).f_At), .int .i64 ((F_Run.at_ l2 x12).f_N)]) C rfl (by kernel_rfl) (by kernel_rfl) (by kernel_rfl) (by simp) (by kernel_rfl) (by kernel_rfl)) ?_
                rintro _ _ C a hS
                refine wl_nil (by kernel_rfl) ?_
                refine q_then ?_
                refine c_join (by kernel_rfl) (fun a w => ∃ b2 : Nat, ∃ x13 : Int, ∃ x14 : Int, scriniumlaw06_ExtentTurns.j3 kk2 l12 x12 (scriniumlaw06_ExtentTurns.l2 p2 x1 l1 l2 kk2) x13 x14 = some res ∧ Sl 124 [(2, .bool p2), (7, .bool x1), (8, v2), (10, v5), (11, v16), (15, .int .i64 x12), (16, .pointer (some ⟨b2, 0, none⟩))] a ∧ Ctx w0 nob A0 [boxE b2 24 [.int .i64 x13, .int .i64 x14]] [rdE v2 l1.length 2 (l1.flatMap F_Run.cells), rdE v5 l2.length 2 (l2.flatMap F_Run.cells), rdE v16 l12.length 2 (l12.flatMap F_Run.cells)] w) ?_ ?_
                · rintro a w ⟨b2, x13, x14, hf, hS, C⟩
                  rw [scriniumlaw06_ExtentTurns.j3] at hf
                  refine c_seq (by kernel_rfl) ?_
                  refine c_region (by kernel_rfl) ?_
                  refine wl_pures (j := 1) hS 1 [2, 7, 8, 10, 15, 16, 104] (m' := [(2, .bool p2), (7, .bool x1), (8, v2), (10, v5), (15, .int .i64 x12), (16, .pointer (some ⟨b2, 0, none⟩)), (104, v16)]) (by kernel_rfl) (by kernel_rfl) fun a hS => ?_
                  refine wl_val (d := (some 105)) (op := (Op.load 24 (Operand.tmp 16))) (g := none) hS (by kernel_rfl) (by kernel_rfl) (r_ldbs (li := 0) (off := 0) (seg := [.int .i64 x13, .int .i64 x14]) C rfl (by kernel_rfl) (by kernel_rfl) (by kernel_rfl)) fun a hS => ?_
                  obtain ⟨t8, ht8, hf⟩ := bind_some hf
                  refine wl_eff (d := (some 106)) (op := (Op.call { callee := (Callee.value (Operand.func 14)), args := #[(Operand.tmp 104), (Operand.tmp 105)], argTypes := #[22, 24] })) (g := none) hS (by kernel_rfl) (by kernel_rfl) (eff_fn (by kernel_rfl) rfl (by kernel_rfl) (extent_Give_ok kk2 _ l12 (⟨x13, x14⟩ : S_Run) v16 (C.okR 2 _ rfl) t8 ht8)) ?_
                  rintro _ _ ⟨v17, rfl, hw, hr5⟩ a hS
                  have C := got_lies C hw hr5 (dom_one (j := 2) rfl)
                  refine wl_pures (j := 8) hS 5 [2, 7, 8, 10, 15, 17, 18] (m' := [(2, .bool p2), (7, .bool x1), (8, v2), (10, v5), (15, .int .i64 x12), (17, v17), (18, .bool t8.2)]) (by kernel_rfl) (by kernel_rfl) fun a hS => ?_
                  refine wl_nil (by kernel_rfl) ?_
                  refine q_then ?_
                  refine c_seq (by kernel_rfl) ?_
                  refine c_join (by kernel_rfl) (fun a w => ∃ l13 : List S_Run, ∃ v18 : Value, ∃ x15 : Bool, scriniumlaw06_ExtentTurns.j2 x12 (scriniumlaw06_ExtentTurns.l2 p2 x1 l1 l2 kk2) l13 x15 = some res ∧ Sl 124 [(2, .bool p2), (7, .bool x1), (8, v2), (10, v5), (15, .int .i64 x12), (17, v18), (115, .bool x15)] a ∧ Ctx w0 nob A0 [] [rdE v2 l1.length 2 (l1.flatMap F_Run.cells), rdE v5 l2.length 2 (l2.flatMap F_Run.cells), rdE v18 l13.length 2 (l13.flatMap F_Run.cells)] w) ?_ ?_
                  · rintro a w ⟨l13, v18, x15, hf, hS, C⟩
                    rw [scriniumlaw06_ExtentTurns.j2] at hf
                    refine c_if (b := x15) hS (by kernel_rfl) (by kernel_rfl) (fun hb => ?_) (fun hb => ?_)
                    · have hf := opt_t hb hf
                      refine c_seq (by kernel_rfl) ?_
                      refine c_region (by kernel_rfl) ?_
                      refine wl_pures (j := 1) hS 1 [6] (m' := [(6, .bool false)]) (by kernel_rfl) (by kernel_rfl) fun a hS => ?_
                      refine wl_nil (by kernel_rfl) ?_
                      refine q_then ?_
                      refine c_ret (by kernel_rfl) ?_
                      refine q_thenr ?_
                      refine q_inr ?_
                      refine q_thenr ?_
                      refine q_thenr ?_
                      refine q_inr ?_
                      refine q_thenr ?_
                      refine q_ret hS (vs := [.bool false]) (by kernel_rfl) ?_
                      obtain rfl := Option.some.inj hf
                      exact ⟨_, rfl, rfl, C.fr⟩
                    · have hf := opt_f hb hf
                      refine c_skip (by kernel_rfl) ?_
                      refine q_then ?_
                      refine c_region (by kernel_rfl) ?_
                      refine wl_pures (j := 2) hS 2 [2, 7, 8, 10, 11, 15] (m' := [(2, .bool p2), (7, .bool x1), (8, v2), (10, v5), (11, v18), (15, .int .i64 x12)]) (by kernel_rfl) (by kernel_rfl) fun a hS => ?_
                      refine wl_nil (by kernel_rfl) ?_
                      refine q_in ?_
                      refine q_then ?_
                      refine c_region (by kernel_rfl) ?_
                      refine wl_pures (j := 3) hS 3 [2, 7, 8, 10, 11, 15] (m' := [(2, .bool p2), (7, .bool x1), (8, v2), (10, v5), (11, v18), (15, .int .i64 (W64 (x12 + 1)))]) (by kernel_rfl) (by kernel_rfl) fun a hS => ?_
                      refine wl_nil (by kernel_rfl) ?_
                      exact q_then ⟨kk2, Nat.lt_succ_self kk2, l13, v18, (W64 (x12 + 1)), hf, hS.keep [2, 7, 8, 10, 11, 15] (by kernel_rfl), ctx_pick [] [0, 1, 2] C (by kernel_rfl) rfl rfl⟩
                  · refine c_region (by kernel_rfl) ?_
                    refine wl_pures (j := 3) hS 3 [2, 7, 8, 10, 15, 17, 111] (m' := [(2, .bool p2), (7, .bool x1), (8, v2), (10, v5), (15, .int .i64 x12), (17, v17), (111, .bool (!t8.2))]) (by kernel_rfl) (by kernel_rfl) fun a hS => ?_
                    rcases Bool.eq_false_or_eq_true (!t8.2) with hb | hb
                    · rw [hb] at hS
                      have hf := opt_t hb hf
                      refine wl_pures (j := 7) hS 4 [2, 7, 8, 10, 15, 17, 115] (m' := [(2, .bool p2), (7, .bool x1), (8, v2), (10, v5), (15, .int .i64 x12), (17, v17), (115, .bool true)]) (by kernel_rfl) (by kernel_rfl) fun a hS => ?_
                      refine wl_nil (by kernel_rfl) ?_
                      exact q_then ⟨t8.1, v17, true, hf, hS.keep [2, 7, 8, 10, 15, 17, 115] (by kernel_rfl), ctx_pick [] [0, 1, 3] C (by kernel_rfl) rfl rfl⟩
                    · rw [hb] at hS
                      have hf := opt_f hb hf
                      refine wl_pures (j := 4) hS 1 [2, 7, 8, 10, 15, 17, 111, 112] (m' := [(2, .bool p2), (7, .bool x1), (8, v2), (10, v5), (15, .int .i64 x12), (17, v17), (111, .bool false), (112, v17)]) (by kernel_rfl) (by kernel_rfl) fun a hS => ?_
                      obtain ⟨t9, ht9, hf⟩ := bind_some hf
                      refine wl_eff (d := (some 113)) (op := (Op.call { callee := (Callee.value (Operand.func 20)), args := #[(Operand.tmp 112)], argTypes := #[22] })) (g := (some (2, false))) hS (by kernel_rfl) (by kernel_rfl) (eff_fn (by kernel_rfl) rfl (by kernel_rfl) (extent_Check_ok kk2 _ t8.1 v17 (C.okR 3 _ rfl) t9 ht9)) ?_
                      rintro _ _ ⟨rfl, hw⟩ a hS
                      have C := ctx_still C hw
                      refine wl_pures (j := 7) hS 2 [2, 7, 8, 10, 15, 17, 115] (m' := [(2, .bool p2), (7, .bool x1), (8, v2), (10, v5), (15, .int .i64 x12), (17, v17), (115, .bool (t9 != 0))]) (by kernel_rfl) (by kernel_rfl) fun a hS => ?_
                      refine wl_nil (by kernel_rfl) ?_
                      exact q_then ⟨t8.1, v17, (t9 != 0), hf, hS.keep [2, 7, 8, 10, 15, 17, 115] (by kernel_rfl), ctx_pick [] [0, 1, 3] C (by kernel_rfl) rfl rfl⟩
                · refine c_seq (by kernel_rfl) ?_
                  refine c_region (by kernel_rfl) ?_
                  refine wl_pures (j := 1) hS 1 [2, 7, 8, 10, 11, 15, 16, 94] (m' := [(2, .bool p2), (7, .bool x1), (8, v2), (10, v5), (11, v16), (15, .int .i64 x12), (16, .pointer (some ⟨b1, 0, none⟩)), (94, .bool p2)]) (by kernel_rfl) (by kernel_rfl) fun a hS => ?_
                  refine wl_nil (by kernel_rfl) ?_
                  refine q_then ?_
                  refine c_if (b := p2) hS (by kernel_rfl) (by kernel_rfl) (fun hb => ?_) (fun hb => ?_)
                  · have hf := opt_t hb hf
                    refine c_region (by kernel_rfl) ?_
                    refine wl_pures (j := 2) hS 2 [2, 7, 8, 10, 11, 15, 16, 95, 96] (m' := [(2, .bool p2), (7, .bool x1), (8, v2), (10, v5), (11, v16), (15, .int .i64 x12), (16, .pointer (some ⟨b1, 0, none⟩)), (95, v5), (96, v5)]) (by kernel_rfl) (by kernel_rfl) fun a hS => ?_
                    refine wl_val (d := (some 97)) (op := (Op.call { callee := (Callee.builtin Builtin.len), args := #[(Operand.tmp 96)], argTypes := #[22] })) (g := none) hS (by kernel_rfl) (by kernel_rfl) (r_len (n := l2.length) (v := v5) (rds_shp (C.okR 1 _ rfl)) (by kernel_rfl) (by kernel_rfl)) fun a hS => ?_
                    refine wl_pures (j := 6) hS 3 [2, 7, 8, 10, 11, 15, 16, 95, 100] (m' := [(2, .bool p2), (7, .bool x1), (8, v2), (10, v5), (11, v16), (15, .int .i64 x12), (16, .pointer (some ⟨b1, 0, none⟩)), (95, v5), (100, .int .i64 (W64 ((W64 ((l2.length : Int) - 1)) - x12)))]) (by kernel_rfl) (by kernel_rfl) fun a hS => ?_
                    obtain ⟨hi4, hf⟩ := ite_some hf
                    refine wl_val (d := (some 101)) (op := (Op.indexAddr 22 (Operand.tmp 95) (Operand.tmp 100))) (g := none) hS (by kernel_rfl) (by kernel_rfl) (r_idx (i := (W64 ((W64 ((l2.length : Int) - 1)) - x12))) (k := .i64) (v := v5) (sz := 2) (rds_shp (C.okR 1 _ rfl)) (by kernel_rfl) (by kernel_rfl) hi4.1 hi4.2 (by kernel_rfl)) fun a hS => ?_
                    refine wl_val (d := (some 102)) (op := (Op.load 24 (Operand.tmp 101))) (g := none) hS (by kernel_rfl) (by kernel_rfl) (r_ldFs F_Run (i := (W64 ((W64 ((l2.length : Int) - 1)) - x12))) (seg := [.int .i64 ((F_Run.at_ l2 (W64 ((W64 ((l2.length : Int) - 1)) - x12))).f_At), .int .i64 ((F_Run.at_ l2 (W64 ((W64 ((l2.length : Int) - 1)) - x12))).f_N)]) (C.okR 1 _ rfl) (by kernel_rfl) hi4.1 hi4.2 (by kernel_rfl) (by kernel_rfl)) fun a hS => ?_
                    refine wl_eff (d := none) (op := (Op.store 24 (Operand.tmp 16) (Operand.tmp 102))) (g := none) hS (by kernel_rfl) (by kernel_rfl) (eff_stb (li := 0) (off := 0) (us := [.int .i64 ((F_Run.at_ l2 (W64 ((W64 ((l2.length : Int) - 1)) - x12))).f_At), .int .i64 ((F_Run.at_ l2 (W64 ((W64 ((l2.length : Int) - 1)) - x12))).f_N)]) (cs' := [.int .i64 ((F_Run.at_ l2 (W64 ((W64 ((l2.length : Int) - 1)) - x12))).f_At), .int .i64 ((F_Run.at_ l2 (W64 ((W64 ((l2.length : Int) - 1)) - x12))).f_N)]) C rfl (by kernel_rfl) (by kernel_rfl) (by kernel_rfl) (by simp) (by kernel_rfl) (by kernel_rfl)) ?_
                    rintro _ _ C a hS
                    refine wl_nil (by kernel_rfl) ?_
                    exact q_then ⟨b1, (F_Run.at_ l2 (W64 ((W64 ((l2.length : Int) - 1)) - x12))).f_At, (F_Run.at_ l2 (W64 ((W64 ((l2.length : Int) - 1)) - x12))).f_N, hf, hS.keep [2, 7, 8, 10, 11, 15, 16] (by kernel_rfl), ctx_pick [0] [0, 1, 2] C (by kernel_rfl) rfl rfl⟩
                  · have hf := opt_f hb hf
                    refine c_skip (by kernel_rfl) ?_
                    exact q_then ⟨b1, (F_Run.at_ l2 x12).f_At, (F_Run.at_ l2 x12).f_N, hf, hS.keep [2, 7, 8, 10, 11, 15, 16] (by kernel_rfl), ctx_pick [0] [0, 1, 2] C (by kernel_rfl) rfl rfl⟩
              · have hf := opt_f hb hf
                refine c_exit (i := 2) (by kernel_rfl) ?_
                refine q_thenx ?_
                refine q_thenx ?_
                refine q_inx ?_
                refine q_then ?_
                refine c_seq (by kernel_rfl) ?_
                refine c_region (by kernel_rfl) ?_
                refine wl_pures (j := 2) hS 2 [7, 117, 118] (m' := [(7, .bool x1), (117, v16), (118, v2)]) (by kernel_rfl) (by kernel_rfl) fun a hS => ?_
                obtain ⟨t10, ht10, hf⟩ := bind_some hf
                refine wl_eff (d := (some 119)) (op := (Op.call { callee := (Callee.value (Operand.func 16)), args := #[(Operand.tmp 117), (Operand.tmp 118)], argTypes := #[22, 22] })) (g := none) hS (by kernel_rfl) (by kernel_rfl) (eff_fn (by kernel_rfl) rfl (by kernel_rfl) (scriniumref06_Same_ok kk2 _ l12 l1 v16 v2 (C.okR 2 _ rfl) (C.okR 0 _ rfl) t10 ht10)) ?_
                rintro _ _ ⟨rfl, hw⟩ a hS
                have C := ctx_still C hw
                refine wl_pures (j := 4) hS 1 [7, 19] (m' := [(7, .bool x1), (19, .bool t10)]) (by kernel_rfl) (by kernel_rfl) fun a hS => ?_
                refine wl_nil (by kernel_rfl) ?_
                refine q_then ?_
                refine c_seq (by kernel_rfl) ?_
                refine c_region (by kernel_rfl) ?_
                refine wl_pures (j := 2) hS 2 [19, 121] (m' := [(19, .bool t10), (121, .bool x1)]) (by kernel_rfl) (by kernel_rfl) fun a hS => ?_
                rcases Bool.eq_false_or_eq_true x1 with hb | hb
                · rw [hb] at hS
                  have hf := opt_t hb hf
                  refine wl_pures (j := 5) hS 3 [6] (m' := [(6, .bool t10)]) (by kernel_rfl) (by kernel_rfl) fun a hS => ?_
                  refine wl_nil (by kernel_rfl) ?_
                  refine q_then ?_
                  refine c_ret (by kernel_rfl) ?_
                  refine q_ret hS (vs := [.bool t10]) (by kernel_rfl) ?_
                  obtain rfl := Option.some.inj hf
                  exact ⟨_, rfl, rfl, C.fr⟩
                · rw [hb] at hS
                  have hf := opt_f hb hf
                  refine wl_pures (j := 5) hS 3 [6] (m' := [(6, .bool false)]) (by kernel_rfl) (by kernel_rfl) fun a hS => ?_
                  refine wl_nil (by kernel_rfl) ?_
                  refine q_then ?_
                  refine c_ret (by kernel_rfl) ?_
                  refine q_ret hS (vs := [.bool false]) (by kernel_rfl) ?_
                  obtain rfl := Option.some.inj hf
                  exact ⟨_, rfl, rfl, C.fr⟩
    · refine c_region (by kernel_rfl) ?_
      refine wl_pures (j := 3) hS 3 [2, 7, 8, 9, 10, 11, 41] (m' := [(2, .bool p2), (7, .bool x1), (8, v2), (9, .int .i64 x2), (10, v3), (11, v4), (41, .bool (!t4.2.2))]) (by kernel_rfl) (by kernel_rfl) fun a hS => ?_
      rcases Bool.eq_false_or_eq_true (!t4.2.2) with hb | hb
      · rw [hb] at hS
        have hf := opt_t hb hf
        refine wl_pures (j := 22) hS 19 [2, 7, 8, 10, 11, 60] (m' := [(2, .bool p2), (7, .bool x1), (8, v2), (10, v3), (11, v4), (60, .bool true)]) (by kernel_rfl) (by kernel_rfl) fun a hS => ?_
        refine wl_nil (by kernel_rfl) ?_
        exact q_then ⟨t4.1, v3, t4.2.1, v4, true, hf, hS.keep [2, 7, 8, 10, 11, 60] (by kernel_rfl), ctx_pick [] [0, 1, 2] C (by kernel_rfl) rfl rfl⟩
      · rw [hb] at hS
        have hf := opt_f hb hf
        refine wl_pures (j := 4) hS 1 [2, 7, 8, 9, 10, 11, 41, 42] (m' := [(2, .bool p2), (7, .bool x1), (8, v2), (9, .int .i64 x2), (10, v3), (11, v4), (41, .bool false), (42, v3)]) (by kernel_rfl) (by kernel_rfl) fun a hS => ?_
        obtain ⟨t11, ht11, hf⟩ := bind_some hf
        refine wl_eff (d := (some 43)) (op := (Op.call { callee := (Callee.value (Operand.func 17)), args := #[(Operand.tmp 42)], argTypes := #[22] })) (g := (some (2, false))) hS (by kernel_rfl) (by kernel_rfl) (eff_fn (by kernel_rfl) rfl (by kernel_rfl) (extent_Total_ok k _ t4.1 v3 (C.okR 1 _ rfl) t11 ht11)) ?_
        rintro _ _ ⟨rfl, hw⟩ a hS
        have C := ctx_still C hw
        refine wl_pures (j := 9) hS 4 [2, 7, 8, 9, 10, 11, 47] (m' := [(2, .bool p2), (7, .bool x1), (8, v2), (9, .int .i64 x2), (10, v3), (11, v4), (47, .bool (t11 != x2))]) (by kernel_rfl) (by kernel_rfl) fun a hS => ?_
        rcases Bool.eq_false_or_eq_true (t11 != x2) with hb | hb
        · rw [hb] at hS
          have hf := opt_t hb hf
          refine wl_pures (j := 22) hS 13 [2, 7, 8, 10, 11, 60] (m' := [(2, .bool p2), (7, .bool x1), (8, v2), (10, v3), (11, v4), (60, .bool true)]) (by kernel_rfl) (by kernel_rfl) fun a hS => ?_
          refine wl_nil (by kernel_rfl) ?_
          exact q_then ⟨t4.1, v3, t4.2.1, v4, true, hf, hS.keep [2, 7, 8, 10, 11, 60] (by kernel_rfl), ctx_pick [] [0, 1, 2] C (by kernel_rfl) rfl rfl⟩
        · rw [hb] at hS
          have hf := opt_f hb hf
          refine wl_pures (j := 10) hS 1 [2, 7, 8, 9, 10, 11, 47, 48] (m' := [(2, .bool p2), (7, .bool x1), (8, v2), (9, .int .i64 x2), (10, v3), (11, v4), (47, .bool false), (48, v4)]) (by kernel_rfl) (by kernel_rfl) fun a hS => ?_
          obtain ⟨t12, ht12, hf⟩ := bind_some hf
          refine wl_eff (d := (some 49)) (op := (Op.call { callee := (Callee.value (Operand.func 17)), args := #[(Operand.tmp 48)], argTypes := #[22] })) (g := (some (8, false))) hS (by kernel_rfl) (by kernel_rfl) (eff_fn (by kernel_rfl) rfl (by kernel_rfl) (extent_Total_ok k _ t4.2.1 v4 (C.okR 2 _ rfl) t12 ht12)) ?_
          rintro _ _ ⟨rfl, hw⟩ a hS
          have C := ctx_still C hw
          refine wl_pures (j := 12) hS 1 [2, 7, 8, 9, 10, 11, 47, 49, 50] (m' := [(2, .bool p2), (7, .bool x1), (8, v2), (9, .int .i64 x2), (10, v3), (11, v4), (47, .bool false), (49, .int .i64 t12), (50, v2)]) (by kernel_rfl) (by kernel_rfl) fun a hS => ?_
          obtain ⟨t13, ht13, hf⟩ := bind_some hf
          refine wl_eff (d := (some 51)) (op := (Op.call { callee := (Callee.value (Operand.func 17)), args := #[(Operand.tmp 50)], argTypes := #[22] })) (g := (some (8, false))) hS (by kernel_rfl) (by kernel_rfl) (eff_fn (by kernel_rfl) rfl (by kernel_rfl) (extent_Total_ok k _ l1 v2 (C.okR 0 _ rfl) t13 ht13)) ?_
          rintro _ _ ⟨rfl, hw⟩ a hS
          have C := ctx_still C hw
          refine wl_pures (j := 18) hS 5 [2, 7, 8, 10, 11, 56] (m' := [(2, .bool p2), (7, .bool x1), (8, v2), (10, v3), (11, v4), (56, .bool (t12 != (W64 (t13 - x2))))]) (by kernel_rfl) (by kernel_rfl) fun a hS => ?_
          rcases Bool.eq_false_or_eq_true (t12 != (W64 (t13 - x2))) with hb | hb
          · rw [hb] at hS
            have hf := opt_t hb hf
            refine wl_pures (j := 22) hS 4 [2, 7, 8, 10, 11, 60] (m' := [(2, .bool p2), (7, .bool x1), (8, v2), (10, v3), (11, v4), (60, .bool true)]) (by kernel_rfl) (by kernel_rfl) fun a hS => ?_
            refine wl_nil (by kernel_rfl) ?_
            exact q_then ⟨t4.1, v3, t4.2.1, v4, true, hf, hS.keep [2, 7, 8, 10, 11, 60] (by kernel_rfl), ctx_pick [] [0, 1, 2] C (by kernel_rfl) rfl rfl⟩
          · rw [hb] at hS
            have hf := opt_f hb hf
            refine wl_pures (j := 19) hS 1 [2, 7, 8, 10, 11, 56, 57] (m' := [(2, .bool p2), (7, .bool x1), (8, v2), (10, v3), (11, v4), (56, .bool false), (57, v4)]) (by kernel_rfl) (by kernel_rfl) fun a hS => ?_
            obtain ⟨t14, ht14, hf⟩ := bind_some hf
            refine wl_eff (d := (some 58)) (op := (Op.call { callee := (Callee.value (Operand.func 20)), args := #[(Operand.tmp 57)], argTypes := #[22] })) (g := (some (17, false))) hS (by kernel_rfl) (by kernel_rfl) (eff_fn (by kernel_rfl) rfl (by kernel_rfl) (extent_Check_ok k _ t4.2.1 v4 (C.okR 2 _ rfl) t14 ht14)) ?_
            rintro _ _ ⟨rfl, hw⟩ a hS
            have C := ctx_still C hw
            refine wl_pures (j := 22) hS 2 [2, 7, 8, 10, 11, 60] (m' := [(2, .bool p2), (7, .bool x1), (8, v2), (10, v3), (11, v4), (60, .bool (t14 != 0))]) (by kernel_rfl) (by kernel_rfl) fun a hS => ?_
            refine wl_nil (by kernel_rfl) ?_
            exact q_then ⟨t4.1, v3, t4.2.1, v4, (t14 != 0), hf, hS.keep [2, 7, 8, 10, 11, 60] (by kernel_rfl), ctx_pick [] [0, 1, 2] C (by kernel_rfl) rfl rfl⟩
  · refine c_seq (by kernel_rfl) ?_
    refine c_region (by kernel_rfl) ?_
    refine wl_pures (j := 2) hS 2 [2, 7, 8, 9, 29] (m' := [(2, .bool p2), (7, .bool t1), (8, v1), (9, .int .i64 (p1.tmod (W64 (t3 + 1)))), (29, .bool (decide ((p1.tmod (W64 (t3 + 1))) < 0)))]) (by kernel_rfl) (by kernel_rfl) fun a hS => ?_
    refine wl_nil (by kernel_rfl) ?_
    refine q_then ?_
    refine c_if (b := (decide ((p1.tmod (W64 (t3 + 1))) < 0))) hS (by kernel_rfl) (by kernel_rfl) (fun hb => ?_) (fun hb => ?_)
    · have hf := opt_t hb hf
      refine c_region (by kernel_rfl) ?_
      refine wl_pures (j := 3) hS 3 [2, 7, 8, 9] (m' := [(2, .bool p2), (7, .bool t1), (8, v1), (9, .int .i64 (W64 (0 - (p1.tmod (W64 (t3 + 1))))))]) (by kernel_rfl) (by kernel_rfl) fun a hS => ?_
      refine wl_nil (by kernel_rfl) ?_
      exact q_then ⟨t1, t2, v1, (W64 (0 - (p1.tmod (W64 (t3 + 1))))), hf, hS.keep [2, 7, 8, 9] (by kernel_rfl), ctx_pick [] [1] C (by kernel_rfl) rfl rfl⟩
    · have hf := opt_f hb hf
      refine c_skip (by kernel_rfl) ?_
      exact q_then ⟨t1, t2, v1, (p1.tmod (W64 (t3 + 1))), hf, hS.keep [2, 7, 8, 9] (by kernel_rfl), ctx_pick [] [1] C (by kernel_rfl) rfl rfl⟩

end Go.Proofs.Ytmpnlafggebaiaa
