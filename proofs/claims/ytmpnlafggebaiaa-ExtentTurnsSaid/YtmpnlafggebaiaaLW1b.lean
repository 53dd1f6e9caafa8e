/- Value functions of Ytmpnlafggebaiaa and the walks that show them, part 2. No condition. -/
import Derived.Test.YtmpnlafggebaiaaLW1a
set_option linter.unusedVariables false
set_option linter.unusedSimpArgs false
namespace Go.Proofs.Ytmpnlafggebaiaa
open Go
def scriniumref06_Give.j1 (p0 : (List S_Run)) (x5 : Int) (LOOP1 : (Int → Option ((List S_Run) × Bool))) (x6 : Bool) : Option ((List S_Run) × Bool) := (if x6 = true then (some (p0, false)) else LOOP1 (W64 (x5 + 1)))
def scriniumref06_Give.j2 (p0 : (List S_Run)) (p1 : S_Run) (kk2 : Nat) (l4 : List S_Run) (x10 : Int) (LOOP2 : (List S_Run → Int → Option ((List S_Run) × Bool))) (x11 : Bool) : Option ((List S_Run) × Bool) := (if x11 = true then (if 0 ≤ x10 ∧ x10 < (p0.length : Int) then (if (l4.length + ([(F_Run.at_ p0 x10)]).length) * 16 ≤ 140737488355328 then LOOP2 (l4 ++ [(F_Run.at_ p0 x10)]) (W64 (x10 + 1)) else none) else none) else ((scriniumref06_Join.f kk2 l4 ([(⟨p1.f_At, p1.f_N⟩ : S_Run)])).bind fun t2 => (if 0 ≤ x10 ∧ x10 ≤ (p0.length : Int) then ((scriniumref06_Join.f kk2 t2 (p0.drop x10.toNat)).bind fun t3 => (some (t3, true))) else none)))
def scriniumref06_Give.l2 (p0 : (List S_Run)) (p1 : S_Run) : Nat → List S_Run → Int → Option ((List S_Run) × Bool)
  | 0, _, _ => none
  | kk2 + 1, l4, x10 => (if (decide (x10 < (p0.length : Int))) = true then (if 0 ≤ x10 ∧ x10 < (p0.length : Int) then scriniumref06_Give.j2 p0 p1 kk2 l4 x10 (scriniumref06_Give.l2 p0 p1 kk2) (decide (((F_Run.at_ p0 x10).f_At) < p1.f_At)) else none) else scriniumref06_Give.j2 p0 p1 kk2 l4 x10 (scriniumref06_Give.l2 p0 p1 kk2) false)
def scriniumref06_Give.l1 (p0 : (List S_Run)) (p1 : S_Run) : Nat → Int → Option ((List S_Run) × Bool)
  | 0, _ => none
  | kk1 + 1, x5 => (if (decide (x5 < (p0.length : Int))) = true then (if 0 ≤ x5 ∧ x5 < (p0.length : Int) then (if (decide (((F_Run.at_ p0 x5).f_At) < (W64 (p1.f_At + p1.f_N)))) = true then (if 0 ≤ x5 ∧ x5 < (p0.length : Int) then (if 0 ≤ x5 ∧ x5 < (p0.length : Int) then scriniumref06_Give.j1 p0 x5 (scriniumref06_Give.l1 p0 p1 kk1) (decide (p1.f_At < (W64 (((F_Run.at_ p0 x5).f_At) + ((F_Run.at_ p0 x5).f_N))))) else none) else none) else scriniumref06_Give.j1 p0 x5 (scriniumref06_Give.l1 p0 p1 kk1) false) else none) else scriniumref06_Give.l2 p0 p1 kk1 [] 0)
def scriniumref06_Give.j3 (k : Nat) (p0 : (List S_Run)) (p1 : S_Run) (x1 : Bool) : Option ((List S_Run) × Bool) := (if x1 = true then (some (p0, false)) else scriniumref06_Give.l1 p0 p1 k 0)
def scriniumref06_Give.f (k : Nat) (p0 : (List S_Run)) (p1 : S_Run) : Option ((List S_Run) × Bool) := ((scriniumref06_good.f k (⟨p1.f_At, p1.f_N⟩ : S_Run)).bind fun t1 => ((scriniumref06_Check.f k p0).bind fun t4 => (if (t4 != 0) = true then scriniumref06_Give.j3 k p0 p1 true else scriniumref06_Give.j3 k p0 p1 (!t1))))
theorem scriniumref06_Give_ok (k : Nat) (w0 : World) (p0 : (List S_Run)) (p1 : S_Run) (v_0 : Value) (h_0 : Rds v_0 p0.length 2 (p0.flatMap F_Run.cells) w0) (res : ((List S_Run) × Bool)) (hf : scriniumref06_Give.f k p0 p1 = some res) :
    Fn Try.prog 15 [v_0, .agg #[.int .i64 p1.f_At, .int .i64 p1.f_N]] w0 (fun v w' => ∃ u0 : Value, v = .tuple #[u0, .bool res.2] ∧ Fr nob w0 w' ∧ Lies w0 (allDom [rdE v_0 p0.length 2 (p0.flatMap F_Run.cells)]) F_Run u0 res.1 w') := by
  have C := ctx_start w0 [rdE v_0 p0.length 2 (p0.flatMap F_Run.cells)] (start1 h_0)
  generalize allDom [rdE v_0 p0.length 2 (p0.flatMap F_Run.cells)] = A0 at C
  refine f_enter (fn := Try.f15) (k := 84) rfl rfl rfl fun a hS => ?_
  have hS : Sl 86 [(0, v_0), (1, .agg #[.int .i64 p1.f_At, .int .i64 p1.f_N])] a := hS
  rw [scriniumref06_Give.f] at hf
  refine c_seq (by kernel_rfl) ?_
  refine c_region (by kernel_rfl) ?_
  refine wl_eff (d := (some 3)) (op := (Op.box 24 (Operand.tmp 1))) (g := none) hS (by kernel_rfl) (by kernel_rfl) (eff_box C (cs := [.int .i64 p1.f_At, .int .i64 p1.f_N]) (by kernel_rfl)) ?_
  rintro _ _ ⟨b1, rfl, C⟩ a hS
  refine wl_pures (j := 3) hS 2 [0, 3] (m' := [(0, v_0), (3, .pointer (some ⟨b1, 0, none⟩))]) (by kernel_rfl) (by kernel_rfl) fun a hS => ?_
  refine wl_nil (by kernel_rfl) ?_
  refine q_then ?_
  refine c_seq (by kernel_rfl) ?_
  refine c_region (by kernel_rfl) ?_
  refine wl_val (d := (some 10)) (op := (Op.load 24 (Operand.tmp 3))) (g := none) hS (by kernel_rfl) (by kernel_rfl) (r_ldbs (li := 0) (off := 0) (seg := [.int .i64 p1.f_At, .int .i64 p1.f_N]) C rfl (by kernel_rfl) (by kernel_rfl) (by kernel_rfl)) fun a hS => ?_
  obtain ⟨t1, ht1, hf⟩ := bind_some hf
  refine wl_eff (d := (some 11)) (op := (Op.call { callee := (Callee.value (Operand.func 35)), args := #[(Operand.tmp 10)], argTypes := #[24] })) (g := none) hS (by kernel_rfl) (by kernel_rfl) (eff_fn (by kernel_rfl) rfl (by kernel_rfl) (scriniumref06_good_ok k _ (⟨p1.f_At, p1.f_N⟩ : S_Run) t1 ht1)) ?_
  rintro _ _ ⟨rfl, hw⟩ a hS
  have C := ctx_still C hw
  refine wl_pures (j := 3) hS 1 [0, 3, 6] (m' := [(0, v_0), (3, .pointer (some ⟨b1, 0, none⟩)), (6, .bool t1)]) (by kernel_rfl) (by kernel_rfl) fun a hS => ?_
  refine wl_nil (by kernel_rfl) ?_
  refine q_then ?_
  refine c_seq (by kernel_rfl) ?_
  refine c_join (by kernel_rfl) (fun a w => ∃ b2 : Nat, ∃ x1 : Bool, scriniumref06_Give.j3 k p0 p1 x1 = some res ∧ Sl 86 [(0, v_0), (3, .pointer (some ⟨b2, 0, none⟩)), (18, .bool x1)] a ∧ Ctx w0 nob A0 [boxE b2 24 [.int .i64 p1.f_At, .int .i64 p1.f_N]] [rdE v_0 p0.length 2 (p0.flatMap F_Run.cells)] w) ?_ ?_
  · rintro a w ⟨b2, x1, hf, hS, C⟩
    rw [scriniumref06_Give.j3] at hf
    refine c_if (b := x1) hS (by kernel_rfl) (by kernel_rfl) (fun hb => ?_) (fun hb => ?_)
    · have hf := opt_t hb hf
      refine c_seq (by kernel_rfl) ?_
      refine c_region (by kernel_rfl) ?_
      refine wl_pures (j := 3) hS 3 [4, 5] (m' := [(4, v_0), (5, .bool false)]) (by kernel_rfl) (by kernel_rfl) fun a hS => ?_
      refine wl_nil (by kernel_rfl) ?_
      refine q_then ?_
      refine c_ret (by kernel_rfl) ?_
      refine q_thenr ?_
      refine q_ret hS (vs := [v_0, .bool false]) (by kernel_rfl) ?_
      obtain rfl := Option.some.inj hf
      exact ⟨_, rfl, v_0, rfl, C.fr, ret_lies (ri := 0) C rfl rfl⟩
    · have hf := opt_f hb hf
      refine c_skip (by kernel_rfl) ?_
      refine q_then ?_
      refine c_seq (by kernel_rfl) ?_
      refine c_seq (by kernel_rfl) ?_
      refine c_region (by kernel_rfl) ?_
      refine wl_pures (j := 1) hS 1 [0, 3, 7] (m' := [(0, v_0), (3, .pointer (some ⟨b2, 0, none⟩)), (7, .int .i64 0)]) (by kernel_rfl) (by kernel_rfl) fun a hS => ?_
      refine wl_nil (by kernel_rfl) ?_
      refine q_then ?_
      refine c_block (i := 0) (by kernel_rfl) ?_
      refine c_loop (by kernel_rfl) (fun kk1 a w => ∃ x5 : Int, scriniumref06_Give.l1 p0 p1 kk1 x5 = some res ∧ Sl 86 [(0, v_0), (3, .pointer (some ⟨b2, 0, none⟩)), (7, .int .i64 x5)] a ∧ Ctx w0 nob A0 [boxE b2 24 [.int .i64 p1.f_At, .int .i64 p1.f_N]] [rdE v_0 p0.length 2 (p0.flatMap F_Run.cells)] w) k ⟨0, hf, hS.keep [0, 3, 7] (by kernel_rfl), ctx_pick [0] [0] C (by kernel_rfl) rfl rfl⟩ ?_
      rintro kk1 a w ⟨x5, hf, hS, C⟩
      cases kk1 with
      | zero => exact no_none hf
      | succ kk1 =>
        rw [scriniumref06_Give.l1] at hf
        refine c_seq (by kernel_rfl) ?_
        refine c_seq (by kernel_rfl) ?_
        refine c_region (by kernel_rfl) ?_
        refine wl_pures (j := 2) hS 2 [0, 3, 7, 20, 21] (m' := [(0, v_0), (3, .pointer (some ⟨b2, 0, none⟩)), (7, .int .i64 x5), (20, .int .i64 x5), (21, v_0)]) (by kernel_rfl) (by kernel_rfl) fun a hS => ?_
        refine wl_val (d := (some 22)) (op := (Op.call { callee := (Callee.builtin Builtin.len), args := #[(Operand.tmp 21)], argTypes := #[22] })) (g := none) hS (by kernel_rfl) (by kernel_rfl) (r_len (n := p0.length) (v := v_0) (rds_shp (C.okR 0 _ rfl)) (by kernel_rfl) (by kernel_rfl)) fun a hS => ?_
        refine wl_pures (j := 4) hS 1 [0, 3, 7, 23] (m' := [(0, v_0), (3, .pointer (some ⟨b2, 0, none⟩)), (7, .int .i64 x5), (23, .bool (decide (x5 < (p0.length : Int))))]) (by kernel_rfl) (by kernel_rfl) fun a hS => ?_
        refine wl_nil (by kernel_rfl) ?_
        refine q_then ?_
        refine c_if (b := (decide (x5 < (p0.length : Int)))) hS (by kernel_rfl) (by kernel_rfl) (fun hb => ?_) (fun hb => ?_)
        · have hf := opt_t hb hf
          refine c_skip (by kernel_rfl) ?_
          refine q_then ?_
          refine c_seq (by kernel_rfl) ?_
          refine c_block (i := 1) (by kernel_rfl) ?_
          refine c_join (by kernel_rfl) (fun a w => ∃ x6 : Bool, scriniumref06_Give.j1 p0 x5 (scriniumref06_Give.l1 p0 p1 kk1) x6 = some res ∧ Sl 86 [(0, v_0), (3, .pointer (some ⟨b2, 0, none⟩)), (7, .int .i64 x5), (52, .bool x6)] a ∧ Ctx w0 nob A0 [boxE b2 24 [.int .i64 p1.f_At, .int .i64 p1.f_N]] [rdE v_0 p0.length 2 (p0.flatMap F_Run.cells)] w) ?_ ?_
          · rintro a w ⟨x6, hf, hS, C⟩
            rw [scriniumref06_Give.j1] at hf
            refine c_if (b := x6) hS (by kernel_rfl) (by kernel_rfl) (fun hb => ?_) (fun hb => ?_)
            · have hf := opt_t hb hf
              refine c_seq (by kernel_rfl) ?_
              refine c_region (by kernel_rfl) ?_
              refine wl_pures (j := 3) hS 3 [4, 5] (m' := [(4, v_0), (5, .bool false)]) (by kernel_rfl) (by kernel_rfl) fun a hS => ?_
              refine wl_nil (by kernel_rfl) ?_
              refine q_then ?_
              refine c_ret (by kernel_rfl) ?_
              refine q_inr ?_
              refine q_thenr ?_
              refine q_thenr ?_
              refine q_inr ?_
              refine q_thenr ?_
              refine q_ret hS (vs := [v_0, .bool false]) (by kernel_rfl) ?_
              obtain rfl := Option.some.inj hf
              exact ⟨_, rfl, v_0, rfl, C.fr, ret_lies (ri := 0) C rfl rfl⟩
            · have hf := opt_f hb hf
              refine c_skip (by kernel_rfl) ?_
              refine q_in ?_
              refine q_then ?_
              refine c_region (by kernel_rfl) ?_
              refine wl_pures (j := 3) hS 3 [0, 3, 7] (m' := [(0, v_0), (3, .pointer (some ⟨b2, 0, none⟩)), (7, .int .i64 (W64 (x5 + 1)))]) (by kernel_rfl) (by kernel_rfl) fun a hS => ?_
              refine wl_nil (by kernel_rfl) ?_
              exact q_then ⟨kk1, Nat.lt_succ_self kk1, (W64 (x5 + 1)), hf, hS.keep [0, 3, 7] (by kernel_rfl), ctx_pick [0] [0] C (by kernel_rfl) rfl rfl⟩
          · refine c_drawsC [0] [0] 27 C (by kernel_rfl) (by kernel_rfl) (by kernel_rfl) (N := 27) (by kernel_rfl) (by kernel_rfl) fun _ C => ?_
            refine dr_pures (fuel := 23) (l' := [7, 5, 1, 0]) hS (ctx_pick [0] [0] C (by kernel_rfl) rfl rfl) [0, 1, 5, 7] [0, 3, 7, 26, 27, 31, 33] (m' := [(0, v_0), (3, .pointer (some ⟨b2, 0, none⟩)), (7, .int .i64 x5), (26, v_0), (27, .int .i64 x5), (31, .pointer (some ⟨b2, 0, none⟩)), (33, .pointer (some ⟨b2, 1, none⟩))]) (by kernel_rfl) (by kernel_rfl) (by kernel_rfl) fun a hS => ?_
            obtain ⟨hi1, hf⟩ := ite_some hf
            refine dr_take (fuel := 22) (j := 2) (v := .pointer (some (elemA v_0 (x5.toNat * 2)))) (d := (some 28)) (op := (Op.indexAddr 22 (Operand.tmp 26) (Operand.tmp 27))) (g := none) hS (by kernel_rfl) (by kernel_rfl) (fun _ CS => r_idx (i := x5) (k := .i64) (v := v_0) (sz := 2) (rds_shp (C.okR 0 _ rfl)) (by kernel_rfl) (by kernel_rfl) hi1.1 hi1.2 (by kernel_rfl)) (ctx_pick [0] [0] C (by kernel_rfl) rfl rfl) fun a hS => ?_
            refine dr_pures (fuel := 21) (l' := [3, 2, 7, 5, 1, 0]) hS (ctx_pick [0] [0] C (by kernel_rfl) rfl rfl) [3] [0, 3, 7, 29, 31, 33] (m' := [(0, v_0), (3, .pointer (some ⟨b2, 0, none⟩)), (7, .int .i64 x5), (29, .pointer (some ((elemA v_0 (x5.toNat * 2)).add 0))), (31, .pointer (some ⟨b2, 0, none⟩)), (33, .pointer (some ⟨b2, 1, none⟩))]) (by kernel_rfl) (by kernel_rfl) (by kernel_rfl) fun a hS => ?_
            refine dr_take (fuel := 20) (j := 4) (v := .int .i64 ((F_Run.at_ p0 x5).f_At)) (d := (some 30)) (op := (Op.load 3 (Operand.tmp 29))) (g := none) hS (by kernel_rfl) (by kernel_rfl) (fun _ CS => r_ldF F_Run (i := x5) (off := 0) (u := .int .i64 ((F_Run.at_ p0 x5).f_At)) (CS.okR 0 _ rfl) (by kernel_rfl) hi1.1 hi1.2 (by decide) (by kernel_rfl) (by kernel_rfl)) (ctx_pick [0] [0] C (by kernel_rfl) rfl rfl) fun a hS => ?_
            refine dr_take (fuel := 19) (j := 6) (v := .int .i64 p1.f_At) (d := (some 32)) (op := (Op.load 3 (Operand.tmp 31))) (g := none) hS (by kernel_rfl) (by kernel_rfl) (fun _ CS => r_ldb (li := 0) (off := 0) (u := .int .i64 p1.f_At) CS rfl (by kernel_rfl) (by kernel_rfl) (by kernel_rfl)) (ctx_pick [0] [0] C (by kernel_rfl) rfl rfl) fun a hS => ?_
            refine dr_take (fuel := 18) (j := 8) (v := .int .i64 p1.f_N) (d := (some 34)) (op := (Op.load 3 (Operand.tmp 33))) (g := none) hS (by kernel_rfl) (by kernel_rfl) (fun _ CS => r_ldb (li := 0) (off := 1) (u := .int .i64 p1.f_N) CS rfl (by kernel_rfl) (by kernel_rfl) (by kernel_rfl)) (ctx_pick [0] [0] C (by kernel_rfl) rfl rfl) fun a hS => ?_
            refine dr_pures (fuel := 15) (l' := [11, 10, 9, 8, 6, 4, 3, 2, 7, 5, 1, 0]) hS (ctx_pick [0] [0] C (by kernel_rfl) rfl rfl) [9, 10, 11] [0, 3, 7, 37] (m' := [(0, v_0), (3, .pointer (some ⟨b2, 0, none⟩)), (7, .int .i64 x5), (37, .bool (decide (((F_Run.at_ p0 x5).f_At) < (W64 (p1.f_At + p1.f_N)))))]) (by kernel_rfl) (by kernel_rfl) (by kernel_rfl) fun a hS => ?_
            rcases Bool.eq_false_or_eq_true (decide (((F_Run.at_ p0 x5).f_At) < (W64 (p1.f_At + p1.f_N)))) with hb | hb
            · rw [hb] at hS
              have hf := opt_t hb hf
              refine dr_pures (fuel := 10) (l' := [20, 19, 15, 14, 12, 11, 10, 9, 8, 6, 4, 3, 2, 7, 5, 1, 0]) hS (ctx_pick [0] [0] C (by kernel_rfl) rfl rfl) [12, 14, 15, 19, 20] [0, 3, 7, 37, 38, 40, 41, 45, 46] (m' := [(0, v_0), (3, .pointer (some ⟨b2, 0, none⟩)), (7, .int .i64 x5), (37, .bool true), (38, .pointer (some ⟨b2, 0, none⟩)), (40, v_0), (41, .int .i64 x5), (45, v_0), (46, .int .i64 x5)]) (by kernel_rfl) (by kernel_rfl) (by kernel_rfl) fun a hS => ?_
              refine dr_take (fuel := 9) (j := 13) (v := .int .i64 p1.f_At) (d := (some 39)) (op := (Op.load 3 (Operand.tmp 38))) (g := (some (11, true))) hS (by kernel_rfl) (by kernel_rfl) (fun _ CS => r_ldb (li := 0) (off := 0) (u := .int .i64 p1.f_At) CS rfl (by kernel_rfl) (by kernel_rfl) (by kernel_rfl)) (ctx_pick [0] [0] C (by kernel_rfl) rfl rfl) fun a hS => ?_
              obtain ⟨hi2, hf⟩ := ite_some hf
              refine dr_take (fuel := 8) (j := 16) (v := .pointer (some (elemA v_0 (x5.toNat * 2)))) (d := (some 42)) (op := (Op.indexAddr 22 (Operand.tmp 40) (Operand.tmp 41))) (g := (some (11, true))) hS (by kernel_rfl) (by kernel_rfl) (fun _ CS => r_idx (i := x5) (k := .i64) (v := v_0) (sz := 2) (rds_shp (C.okR 0 _ rfl)) (by kernel_rfl) (by kernel_rfl) hi2.1 hi2.2 (by kernel_rfl)) (ctx_pick [0] [0] C (by kernel_rfl) rfl rfl) fun a hS => ?_
              refine dr_pures (fuel := 7) (l' := [17, 16, 13, 20, 19, 15, 14, 12, 11, 10, 9, 8, 6, 4, 3, 2, 7, 5, 1, 0]) hS (ctx_pick [0] [0] C (by kernel_rfl) rfl rfl) [17] [0, 3, 7, 37, 39, 43, 45, 46] (m' := [(0, v_0), (3, .pointer (some ⟨b2, 0, none⟩)), (7, .int .i64 x5), (37, .bool true), (39, .int .i64 p1.f_At), (43, .pointer (some ((elemA v_0 (x5.toNat * 2)).add 0))), (45, v_0), (46, .int .i64 x5)]) (by kernel_rfl) (by kernel_rfl) (by kernel_rfl) fun a hS => ?_
              refine dr_take (fuel := 6) (j := 18) (v := .int .i64 ((F_Run.at_ p0 x5).f_At)) (d := (some 44)) (op := (Op.load 3 (Operand.tmp 43))) (g := (some (11, true))) hS (by kernel_rfl) (by kernel_rfl) (fun _ CS => r_ldF F_Run (i := x5) (off := 0) (u := .int .i64 ((F_Run.at_ p0 x5).f_At)) (CS.okR 0 _ rfl) (by kernel_rfl) hi2.1 hi2.2 (by decide) (by kernel_rfl) (by kernel_rfl)) (ctx_pick [0] [0] C (by kernel_rfl) rfl rfl) fun a hS => ?_
              obtain ⟨hi3, hf⟩ := ite_some hf
              refine dr_take (fuel := 5) (j := 21) (v := .pointer (some (elemA v_0 (x5.toNat * 2)))) (d := (some 47)) (op := (Op.indexAddr 22 (Operand.tmp 45) (Operand.tmp 46))) (g := (some (11, true))) hS (by kernel_rfl) (by kernel_rfl) (fun _ CS => r_idx (i := x5) (k := .i64) (v := v_0) (sz := 2) (rds_shp (C.okR 0 _ rfl)) (by kernel_rfl) (by kernel_rfl) hi3.1 hi3.2 (by kernel_rfl)) (ctx_pick [0] [0] C (by kernel_rfl) rfl rfl) fun a hS => ?_
              refine dr_pures (fuel := 4) (l' := [22, 21, 18, 17, 16, 13, 20, 19, 15, 14, 12, 11, 10, 9, 8, 6, 4, 3, 2, 7, 5, 1, 0]) hS (ctx_pick [0] [0] C (by kernel_rfl) rfl rfl) [22] [0, 3, 7, 37, 39, 44, 48] (m' := [(0, v_0), (3, .pointer (some ⟨b2, 0, none⟩)), (7, .int .i64 x5), (37, .bool true), (39, .int .i64 p1.f_At), (44, .int .i64 ((F_Run.at_ p0 x5).f_At)), (48, .pointer (some ((elemA v_0 (x5.toNat * 2)).add 1)))]) (by kernel_rfl) (by kernel_rfl) (by kernel_rfl) fun a hS => ?_
              refine dr_take (fuel := 3) (j := 23) (v := .int .i64 ((F_Run.at_ p0 x5).f_N)) (d := (some 49)) (op := (Op.load 3 (Operand.tmp 48))) (g := (some (11, true))) hS (by kernel_rfl) (by kernel_rfl) (fun _ CS => r_ldF F_Run (i := x5) (off := 1) (u := .int .i64 ((F_Run.at_ p0 x5).f_N)) (CS.okR 0 _ rfl) (by kernel_rfl) hi3.1 hi3.2 (by decide) (by kernel_rfl) (by kernel_rfl)) (ctx_pick [0] [0] C (by kernel_rfl) rfl rfl) fun a hS => ?_
              refine dr_pures (fuel := 0) (l' := [26, 25, 24, 23, 22, 21, 18, 17, 16, 13, 20, 19, 15, 14, 12, 11, 10, 9, 8, 6, 4, 3, 2, 7, 5, 1, 0]) hS (ctx_pick [0] [0] C (by kernel_rfl) rfl rfl) [24, 25, 26] [0, 3, 7, 52] (m' := [(0, v_0), (3, .pointer (some ⟨b2, 0, none⟩)), (7, .int .i64 x5), (52, .bool (decide (p1.f_At < (W64 (((F_Run.at_ p0 x5).f_At) + ((F_Run.at_ p0 x5).f_N))))))]) (by kernel_rfl) (by kernel_rfl) (by kernel_rfl) fun a hS => ?_
              refine dr_done (by kernel_rfl) ?_
              exact q_then ⟨(decide (p1.f_At < (W64 (((F_Run.at_ p0 x5).f_At) + ((F_Run.at_ p0 x5).f_N))))), hf, hS.keep [0, 3, 7, 52] (by kernel_rfl), ctx_pick [0] [0] C (by kernel_rfl) rfl rfl⟩
            · rw [hb] at hS
              have hf := opt_f hb hf
              refine dr_pures (fuel := 0) (l' := [26, 25, 24, 23, 22, 21, 20, 19, 18, 17, 16, 15, 14, 13, 12, 11, 10, 9, 8, 6, 4, 3, 2, 7, 5, 1, 0]) hS (ctx_pick [0] [0] C (by kernel_rfl) rfl rfl) [12, 13, 14, 15, 16, 17, 18, 19, 20, 21, 22, 23, 24, 25, 26] [0, 3, 7, 52] (m' := [(0, v_0), (3, .pointer (some ⟨b2, 0, none⟩)), (7, .int .i64 x5), (52, .bool false)]) (by kernel_rfl) (by kernel_rfl) (by kernel_rfl) fun a hS => ?_
              refine dr_done (by kernel_rfl) ?_
              exact q_then ⟨false, hf, hS.keep [0, 3, 7, 52] (by kernel_rfl), ctx_pick [0] [0] C (by kernel_rfl) rfl rfl⟩
        · have hf := opt_f hb hf
          refine c_exit (i := 0) (by kernel_rfl) ?_
          refine q_thenx ?_
          refine q_thenx ?_
          refine q_inx ?_
          refine q_then ?_
          refine c_seq (by kernel_rfl) ?_
          refine c_region (by kernel_rfl) ?_
          refine wl_pures (j := 1) hS 1 [0, 3, 8] (m' := [(0, v_0), (3, .pointer (some ⟨b2, 0, none⟩)), (8, (.slice none 0 0))]) (by kernel_rfl) (by kernel_rfl) fun a hS => ?_
          refine wl_nil (by kernel_rfl) ?_
          refine q_then ?_
          refine c_seq (by kernel_rfl) ?_
          refine c_region (by kernel_rfl) ?_
          refine wl_pures (j := 1) hS 1 [0, 3, 8, 9] (m' := [(0, v_0), (3, .pointer (some ⟨b2, 0, none⟩)), (8, (.slice none 0 0)), (9, .int .i64 0)]) (by kernel_rfl) (by kernel_rfl) fun a hS => ?_
          refine wl_nil (by kernel_rfl) ?_
          refine q_then ?_
          refine c_seq (by kernel_rfl) ?_
          refine c_block (i := 2) (by kernel_rfl) ?_
          have C := ctx_nilrow 24 2 C
          refine c_loop (by kernel_rfl) (fun kk2 a w => ∃ l4 : List S_Run, ∃ v4 : Value, ∃ x10 : Int, scriniumref06_Give.l2 p0 p1 kk2 l4 x10 = some res ∧ Sl 86 [(0, v_0), (3, .pointer (some ⟨b2, 0, none⟩)), (8, v4), (9, .int .i64 x10)] a ∧ Ctx w0 nob A0 [boxE b2 24 [.int .i64 p1.f_At, .int .i64 p1.f_N], rowE v4 24 2 l4.length (l4.flatMap F_Run.cells)] [rdE v_0 p0.length 2 (p0.flatMap F_Run.cells)] w) kk1 ⟨[], (.slice none 0 0), 0, hf, hS.keep [0, 3, 8, 9] (by kernel_rfl), ctx_pick [0, 1] [0] C (by kernel_rfl) rfl rfl⟩ ?_
          rintro kk2 a w ⟨l4, v4, x10, hf, hS, C⟩
          cases kk2 with
          | zero => exact no_none hf
          | succ kk2 =>
            rw [scriniumref06_Give.l2] at hf
            refine c_seq (by kernel_rfl) ?_
            refine c_join (by kernel_rfl) (fun a w => ∃ x11 : Bool, scriniumref06_Give.j2 p0 p1 kk2 l4 x10 (scriniumref06_Give.l2 p0 p1 kk2) x11 = some res ∧ Sl 86 [(0, v_0), (3, .pointer (some ⟨b2, 0, none⟩)), (8, v4), (9, .int .i64 x10), (67, .bool x11)] a ∧ Ctx w0 nob A0 [boxE b2 24 [.int .i64 p1.f_At, .int .i64 p1.f_N], rowE v4 24 2 l4.length (l4.flatMap F_Run.cells)] [rdE v_0 p0.length 2 (p0.flatMap F_Run.cells)] w) ?_ ?_
            · rintro a w ⟨x11, hf, hS, C⟩
              rw [scriniumref06_Give.j2] at hf
              refine c_if (b := x11) hS (by kernel_rfl) (by kernel_rfl) (fun hb => ?_) (fun hb => ?_)
              · have hf := opt_t hb hf
                refine c_skip (by kernel_rfl) ?_
                refine q_then ?_
                refine c_block (i := 3) (by kernel_rfl) ?_
                refine c_seq (by kernel_rfl) ?_
                refine c_region (by kernel_rfl) ?_
                refine wl_pures (j := 3) hS 3 [0, 3, 8, 9, 68, 69, 70] (m' := [(0, v_0), (3, .pointer (some ⟨b2, 0, none⟩)), (8, v4), (9, .int .i64 x10), (68, v4), (69, v_0), (70, .int .i64 x10)]) (by kernel_rfl) (by kernel_rfl) fun a hS => ?_
                obtain ⟨hi4, hf⟩ := ite_some hf
                refine wl_val (d := (some 71)) (op := (Op.indexAddr 22 (Operand.tmp 69) (Operand.tmp 70))) (g := none) hS (by kernel_rfl) (by kernel_rfl) (r_idx (i := x10) (k := .i64) (v := v_0) (sz := 2) (rds_shp (C.okR 0 _ rfl)) (by kernel_rfl) (by kernel_rfl) hi4.1 hi4.2 (by kernel_rfl)) fun a hS => ?_
                refine wl_val (d := (some 72)) (op := (Op.load 24 (Operand.tmp 71))) (g := none) hS (by kernel_rfl) (by kernel_rfl) (r_ldFs F_Run (i := x10) (seg := [.int .i64 ((F_Run.at_ p0 x10).f_At), .int .i64 ((F_Run.at_ p0 x10).f_N)]) (C.okR 0 _ rfl) (by kernel_rfl) hi4.1 hi4.2 (by kernel_rfl) (by kernel_rfl)) fun a hS => ?_
                refine wl_eff (d := (some 73)) (op := (Op.buildSlice 22 1 #[(0, (Operand.tmp 72))])) (g := none) hS (by kernel_rfl) (by kernel_rfl) (eff_slit (e := 24) (sz := 2) (cs := [.int .i64 ((F_Run.at_ p0 x10).f_At), .int .i64 ((F_Run.at_ p0 x10).f_N)]) C (by kernel_rfl) (by kernel_rfl) (by decide)) ?_
                rintro v5 _ ⟨-, C⟩ a hS
                have C := ctx_relist (li := 2) (F := F_Run) (l := [(F_Run.at_ p0 x10)]) C rfl rfl rfl
                obtain ⟨hl1, hf⟩ := ite_some hf
                refine wl_eff (d := (some 74)) (op := (Op.call { callee := (Callee.builtin Builtin.append), args := #[(Operand.tmp 68), (Operand.tmp 73)], argTypes := #[22, 22] })) (g := none) hS (by kernel_rfl) (by kernel_rfl) (eff_append (li := 1) (n := l4.length) (m := ([(F_Run.at_ p0 x10)]).length) (sz := 2) (bytes := 16) (z := (.agg #[.int .i64 0, .int .i64 0])) C rfl (by kernel_rfl) (by kernel_rfl) (rds_of_row (C.okL 2 _ rfl)) (all_one (flat_all _ _)) (by kernel_rfl) rfl (by decide) hl1 (by decide)) ?_
                rintro v6 _ C a hS
                have C := ctx_relist (li := 1) (F := F_Run) (l := (l4 ++ [(F_Run.at_ p0 x10)])) C rfl (by simp only [List.length_append, List.length_set]) List.flatMap_append.symm
                refine wl_pures (j := 8) hS 1 [0, 3, 8, 9] (m' := [(0, v_0), (3, .pointer (some ⟨b2, 0, none⟩)), (8, v6), (9, .int .i64 x10)]) (by kernel_rfl) (by kernel_rfl) fun a hS => ?_
                refine wl_nil (by kernel_rfl) ?_
                refine q_then ?_
                refine c_region (by kernel_rfl) ?_
                refine wl_pures (j := 3) hS 3 [0, 3, 8, 9] (m' := [(0, v_0), (3, .pointer (some ⟨b2, 0, none⟩)), (8, v6), (9, .int .i64 (W64 (x10 + 1)))]) (by kernel_rfl) (by kernel_rfl) fun a hS => ?_
                refine wl_nil (by kernel_rfl) ?_
                refine q_in ?_
                exact q_then ⟨kk2, Nat.lt_succ_self kk2, (l4 ++ [(F_Run.at_ p0 x10)]), v6, (W64 (x10 + 1)), hf, hS.keep [0, 3, 8, 9] (by kernel_rfl), ctx_pick [0, 1] [0] C (by kernel_rfl) rfl rfl⟩
              · have hf := opt_f hb hf
                refine c_exit (i := 2) (by kernel_rfl) ?_
                refine q_thenx ?_
                refine q_thenx ?_
                refine q_inx ?_
                refine q_then ?_
                refine c_seq (by kernel_rfl) ?_
                refine c_region (by kernel_rfl) ?_
                refine wl_pures (j := 1) hS 1 [0, 3, 8, 9, 77] (m' := [(0, v_0), (3, .pointer (some ⟨b2, 0, none⟩)), (8, v4), (9, .int .i64 x10), (77, v4)]) (by kernel_rfl) (by kernel_rfl) fun a hS => ?_
                refine wl_val (d := (some 78)) (op := (Op.load 24 (Operand.tmp 3))) (g := none) hS (by kernel_rfl) (by kernel_rfl) (r_ldbs (li := 0) (off := 0) (seg := [.int .i64 p1.f_At, .int .i64 p1.f_N]) C rfl (by kernel_rfl) (by kernel_rfl) (by kernel_rfl)) fun a hS => ?_
                refine wl_eff (d := (some 79)) (op := (Op.buildSlice 22 1 #[(0, (Operand.tmp 78))])) (g := none) hS (by kernel_rfl) (by kernel_rfl) (eff_slit (e := 24) (sz := 2) (cs := [.int .i64 p1.f_At, .int .i64 p1.f_N]) C (by kernel_rfl) (by kernel_rfl) (by decide)) ?_
                rintro v7 _ ⟨-, C⟩ a hS
                have C := ctx_relist (li := 2) (F := F_Run) (l := [(⟨p1.f_At, p1.f_N⟩ : S_Run)]) C rfl rfl rfl
                obtain ⟨t2, ht2, hf⟩ := bind_some hf
                refine wl_eff (d := (some 80)) (op := (Op.call { callee := (Callee.value (Operand.func 26)), args := #[(Operand.tmp 77), (Operand.tmp 79)], argTypes := #[22, 22] })) (g := none) hS (by kernel_rfl) (by kernel_rfl) (eff_fn (by kernel_rfl) rfl (by kernel_rfl) (scriniumref06_Join_ok kk2 _ l4 ([(⟨p1.f_At, p1.f_N⟩ : S_Run)]) v4 v7 (rds_of_row (C.okL 1 _ rfl)) (rds_of_row (C.okL 2 _ rfl)) t2 ht2)) ?_
                rintro v8 _ ⟨hw, hr1⟩ a hS
                have C := got_own C hw hr1
                refine wl_pures (j := 5) hS 1 [0, 8, 9] (m' := [(0, v_0), (8, v8), (9, .int .i64 x10)]) (by kernel_rfl) (by kernel_rfl) fun a hS => ?_
                refine wl_nil (by kernel_rfl) ?_
                refine q_then ?_
                refine c_seq (by kernel_rfl) ?_
                refine c_region (by kernel_rfl) ?_
                refine wl_pures (j := 3) hS 3 [81, 82, 83] (m' := [(81, v8), (82, v_0), (83, .int .i64 x10)]) (by kernel_rfl) (by kernel_rfl) fun a hS => ?_
                obtain ⟨hc1, hf⟩ := ite_some hf
                refine wl_val (d := (some 84)) (op := (Op.slice 22 (Operand.tmp 82) (some (Operand.tmp 83)) none none)) (g := none) hS (by kernel_rfl) (by kernel_rfl) (r_cut (h := p0.length) (l := x10.toNat) (v := v_0) (sz := 2) (rds_shp (C.okR 0 _ rfl)) (by kernel_rfl) (by kernel_rfl) (rfl) (lo_ok .i64 x10 (by omega) (by omega))) fun a hS => ?_
                have C := got_cut (ri := 0) (F := F_Run) (l := p0) (l' := (p0.drop x10.toNat)) (h := p0.length) (lo := x10.toNat) C rfl (cut_rds (C.okR 0 _ rfl) (by omega) (by omega)) (cut_addr _ _ _ _) (by omega) (by simp)
                obtain ⟨t3, ht3, hf⟩ := bind_some hf
                refine wl_eff (d := (some 85)) (op := (Op.call { callee := (Callee.value (Operand.func 26)), args := #[(Operand.tmp 81), (Operand.tmp 84)], argTypes := #[22, 22] })) (g := none) hS (by kernel_rfl) (by kernel_rfl) (eff_fn (by kernel_rfl) rfl (by kernel_rfl) (scriniumref06_Join_ok kk2 _ t2 (p0.drop x10.toNat) v8 (cutV v_0 x10.toNat p0.length 2) (rds_of_row (C.okL 3 _ rfl)) (C.okR 1 _ rfl) t3 ht3)) ?_
                rintro v9 _ ⟨hw, hr2⟩ a hS
                have C := got_own C hw hr2
                refine wl_pures (j := 7) hS 2 [4, 5] (m' := [(4, v9), (5, .bool true)]) (by kernel_rfl) (by kernel_rfl) fun a hS => ?_
                refine wl_nil (by kernel_rfl) ?_
                refine q_then ?_
                refine c_ret (by kernel_rfl) ?_
                refine q_ret hS (vs := [v9, .bool true]) (by kernel_rfl) ?_
                obtain rfl := Option.some.inj hf
                exact ⟨_, rfl, v9, rfl, C.fr, own_lies (e := 24) (ret_own (li := 4) C rfl rfl)⟩
            · refine c_drawsC [0, 1] [0] 14 C (by kernel_rfl) (by kernel_rfl) (by kernel_rfl) (N := 14) (by kernel_rfl) (by kernel_rfl) fun _ C => ?_
              refine dr_pures (fuel := 12) (l' := [1, 0]) hS (ctx_pick [0, 1] [0] C (by kernel_rfl) rfl rfl) [0, 1] [0, 3, 8, 9, 54, 55] (m' := [(0, v_0), (3, .pointer (some ⟨b2, 0, none⟩)), (8, v4), (9, .int .i64 x10), (54, .int .i64 x10), (55, v_0)]) (by kernel_rfl) (by kernel_rfl) (by kernel_rfl) fun a hS => ?_
              refine dr_take (fuel := 11) (j := 2) (v := .int .i64 (p0.length : Int)) (d := (some 56)) (op := (Op.call { callee := (Callee.builtin Builtin.len), args := #[(Operand.tmp 55)], argTypes := #[22] })) (g := none) hS (by kernel_rfl) (by kernel_rfl) (fun _ CS => r_len (n := p0.length) (v := v_0) (rds_shp (C.okR 0 _ rfl)) (by kernel_rfl) (by kernel_rfl)) (ctx_pick [0, 1] [0] C (by kernel_rfl) rfl rfl) fun a hS => ?_
              refine dr_pures (fuel := 9) (l' := [4, 3, 2, 1, 0]) hS (ctx_pick [0, 1] [0] C (by kernel_rfl) rfl rfl) [3, 4] [0, 3, 8, 9, 58] (m' := [(0, v_0), (3, .pointer (some ⟨b2, 0, none⟩)), (8, v4), (9, .int .i64 x10), (58, .bool (decide (x10 < (p0.length : Int))))]) (by kernel_rfl) (by kernel_rfl) (by kernel_rfl) fun a hS => ?_
              rcases Bool.eq_false_or_eq_true (decide (x10 < (p0.length : Int))) with hb | hb
              · rw [hb] at hS
                have hf := opt_t hb hf
                refine dr_pures (fuel := 6) (l' := [10, 6, 5, 4, 3, 2, 1, 0]) hS (ctx_pick [0, 1] [0] C (by kernel_rfl) rfl rfl) [5, 6, 10] [0, 3, 8, 9, 58, 59, 60, 64] (m' := [(0, v_0), (3, .pointer (some ⟨b2, 0, none⟩)), (8, v4), (9, .int .i64 x10), (58, .bool true), (59, v_0), (60, .int .i64 x10), (64, .pointer (some ⟨b2, 0, none⟩))]) (by kernel_rfl) (by kernel_rfl) (by kernel_rfl) fun a hS => ?_
                obtain ⟨hi5, hf⟩ := ite_some hf
                refine dr_take (fuel := 5) (j := 7) (v := .pointer (some (elemA v_0 (x10.toNat * 2)))) (d := (some 61)) (op := (Op.indexAddr 22 (Operand.tmp 59) (Operand.tmp 60))) (g := (some (4, true))) hS (by kernel_rfl) (by kernel_rfl) (fun _ CS => r_idx (i := x10) (k := .i64) (v := v_0) (sz := 2) (rds_shp (C.okR 0 _ rfl)) (by kernel_rfl) (by kernel_rfl) hi5.1 hi5.2 (by kernel_rfl)) (ctx_pick [0, 1] [0] C (by kernel_rfl) rfl rfl) fun a hS => ?_
                refine dr_pures (fuel := 4) (l' := [8, 7, 10, 6, 5, 4, 3, 2, 1, 0]) hS (ctx_pick [0, 1] [0] C (by kernel_rfl) rfl rfl) [8] [0, 3, 8, 9, 58, 62, 64] (m' := [(0, v_0), (3, .pointer (some ⟨b2, 0, none⟩)), (8, v4), (9, .int .i64 x10), (58, .bool true), (62, .pointer (some ((elemA v_0 (x10.toNat * 2)).add 0))), (64, .pointer (some ⟨b2, 0, none⟩))]) (by kernel_rfl) (by kernel_rfl) (by kernel_rfl) fun a hS => ?_
                refine dr_take (fuel := 3) (j := 9) (v := .int .i64 ((F_Run.at_ p0 x10).f_At)) (d := (some 63)) (op := (Op.load 3 (Operand.tmp 62))) (g := (some (4, true))) hS (by kernel_rfl) (by kernel_rfl) (fun _ CS => r_ldF F_Run (i := x10) (off := 0) (u := .int .i64 ((F_Run.at_ p0 x10).f_At)) (CS.okR 0 _ rfl) (by kernel_rfl) hi5.1 hi5.2 (by decide) (by kernel_rfl) (by kernel_rfl)) (ctx_pick [0, 1] [0] C (by kernel_rfl) rfl rfl) fun a hS => ?_
                refine dr_take (fuel := 2) (j := 11) (v := .int .i64 p1.f_At) (d := (some 65)) (op := (Op.load 3 (Operand.tmp 64))) (g := (some (4, true))) hS (by kernel_rfl) (by kernel_rfl) (fun _ CS => r_ldb (li := 0) (off := 0) (u := .int .i64 p1.f_At) CS rfl (by kernel_rfl) (by kernel_rfl) (by kernel_rfl)) (ctx_pick [0, 1] [0] C (by kernel_rfl) rfl rfl) fun a hS => ?_
                refine dr_pures (fuel := 0) (l' := [13, 12, 11, 9, 8, 7, 10, 6, 5, 4, 3, 2, 1, 0]) hS (ctx_pick [0, 1] [0] C (by kernel_rfl) rfl rfl) [12, 13] [0, 3, 8, 9, 67] (m' := [(0, v_0), (3, .pointer (some ⟨b2, 0, none⟩)), (8, v4), (9, .int .i64 x10), (67, .bool (decide (((F_Run.at_ p0 x10).f_At) < p1.f_At)))]) (by kernel_rfl) (by kernel_rfl) (by kernel_rfl) fun a hS => ?_
                refine dr_done (by kernel_rfl) ?_
                exact q_then ⟨(decide (((F_Run.at_ p0 x10).f_At) < p1.f_At)), hf, hS.keep [0, 3, 8, 9, 67] (by kernel_rfl), ctx_pick [0, 1] [0] C (by kernel_rfl) rfl rfl⟩
              · rw [hb] at hS
                have hf := opt_f hb hf
                refine dr_pures (fuel := 0) (l' := [13, 12, 11, 10, 9, 8, 7, 6, 5, 4, 3, 2, 1, 0]) hS (ctx_pick [0, 1] [0] C (by kernel_rfl) rfl rfl) [5, 6, 7, 8, 9, 10, 11, 12, 13] [0, 3, 8, 9, 67] (m' := [(0, v_0), (3, .pointer (some ⟨b2, 0, none⟩)), (8, v4), (9, .int .i64 x10), (67, .bool false)]) (by kernel_rfl) (by kernel_rfl) (by kernel_rfl) fun a hS => ?_
                refine dr_done (by kernel_rfl) ?_
                exact q_then ⟨false, hf, hS.keep [0, 3, 8, 9, 67] (by kernel_rfl), ctx_pick [0, 1] [0] C (by kernel_rfl) rfl rfl⟩
  · refine c_region (by kernel_rfl) ?_
    refine wl_pures (j := 1) hS 1 [0, 3, 6, 12] (m' := [(0, v_0), (3, .pointer (some ⟨b1, 0, none⟩)), (6, .bool t1), (12, v_0)]) (by kernel_rfl) (by kernel_rfl) fun a hS => ?_
    obtain ⟨t4, ht4, hf⟩ := bind_some hf
    refine wl_eff (d := (some 13)) (op := (Op.call { callee := (Callee.value (Operand.func 29)), args := #[(Operand.tmp 12)], argTypes := #[22] })) (g := none) hS (by kernel_rfl) (by kernel_rfl) (eff_fn (by kernel_rfl) rfl (by kernel_rfl) (scriniumref06_Check_ok k _ p0 v_0 (C.okR 0 _ rfl) t4 ht4)) ?_
    rintro _ _ ⟨rfl, hw⟩ a hS
    have C := ctx_still C hw
    refine wl_pures (j := 4) hS 2 [0, 3, 6, 15] (m' := [(0, v_0), (3, .pointer (some ⟨b1, 0, none⟩)), (6, .bool t1), (15, .bool (t4 != 0))]) (by kernel_rfl) (by kernel_rfl) fun a hS => ?_
    rcases Bool.eq_false_or_eq_true (t4 != 0) with hb | hb
    · rw [hb] at hS
      have hf := opt_t hb hf
      refine wl_pures (j := 7) hS 3 [0, 3, 18] (m' := [(0, v_0), (3, .pointer (some ⟨b1, 0, none⟩)), (18, .bool true)]) (by kernel_rfl) (by kernel_rfl) fun a hS => ?_
      refine wl_nil (by kernel_rfl) ?_
      exact q_then ⟨b1, true, hf, hS.keep [0, 3, 18] (by kernel_rfl), ctx_pick [0] [0] C (by kernel_rfl) rfl rfl⟩
    · rw [hb] at hS
      have hf := opt_f hb hf
      refine wl_pures (j := 7) hS 3 [0, 3, 18] (m' := [(0, v_0), (3, .pointer (some ⟨b1, 0, none⟩)), (18, .bool (!t1))]) (by kernel_rfl) (by kernel_rfl) fun a hS => ?_
      refine wl_nil (by kernel_rfl) ?_
      exact q_then ⟨b1, (!t1), hf, hS.keep [0, 3, 18] (by kernel_rfl), ctx_pick [0] [0] C (by kernel_rfl) rfl rfl⟩

def scriniumlaw06_free.j1 (x4 : Int) (LOOP1 : (List S_Run → Int → Option (List S_Run))) (l5 : List S_Run) : Option (List S_Run) := LOOP1 l5 (W64 (x4 + 1))
def scriniumlaw06_free.j2 (p0 : (List S_Run)) (kk1 : Nat) (l4 : List S_Run) (x4 : Int) (LOOP1 : (List S_Run → Int → Option (List S_Run))) (x5 : Bool) : Option (List S_Run) := (if x5 = true then (if 0 ≤ x4 ∧ x4 < (p0.length : Int) then (if 0 ≤ x4 ∧ x4 < (p0.length : Int) then ((scriniumref06_Give.f kk1 l4 (⟨(andK .i64 ((F_Run.at_ p0 x4).f_At) 1023), (W64 (1 + (andK .i64 ((F_Run.at_ p0 x4).f_N) 31)))⟩ : S_Run)).bind fun t1 => (if t1.2 = true then scriniumlaw06_free.j1 x4 LOOP1 t1.1 else scriniumlaw06_free.j1 x4 LOOP1 l4)) else none) else none) else (some l4))
def scriniumlaw06_free.l1 (p0 : (List S_Run)) : Nat → List S_Run → Int → Option (List S_Run)
  | 0, _, _ => none
  | kk1 + 1, l4, x4 => (if (decide (x4 < (p0.length : Int))) = true then scriniumlaw06_free.j2 p0 kk1 l4 x4 (scriniumlaw06_free.l1 p0 kk1) (decide (x4 < 20)) else scriniumlaw06_free.j2 p0 kk1 l4 x4 (scriniumlaw06_free.l1 p0 kk1) false)
def scriniumlaw06_free.f (k : Nat) (p0 : (List S_Run)) : Option (List S_Run) := scriniumlaw06_free.l1 p0 k [] 0
theorem scriniumlaw06_free_ok (k : Nat) (w0 : World) (p0 : (List S_Run)) (v_0 : Value) (h_0 : Rds v_0 p0.length 2 (p0.flatMap F_Run.cells) w0) (res : (List S_Run)) (hf : scriniumlaw06_free.f k p0 = some res) :
    Fn Try.prog 11 [v_0] w0 (fun v w' => Fr nob w0 w' ∧ Lies w0 (allDom [rdE v_0 p0.length 2 (p0.flatMap F_Run.cells)]) F_Run v res w') := by
  have C := ctx_start w0 [rdE v_0 p0.length 2 (p0.flatMap F_Run.cells)] (start1 h_0)
  generalize allDom [rdE v_0 p0.length 2 (p0.flatMap F_Run.cells)] = A0 at C
  refine f_enter (fn := Try.f11) (k := 40) rfl rfl rfl fun a hS => ?_
  have hS : Sl 41 [(0, v_0)] a := hS
  rw [scriniumlaw06_free.f] at hf
  refine c_seq (by kernel_rfl) ?_
  refine c_region (by kernel_rfl) ?_
  refine wl_pures (j := 1) hS 1 [0] (m' := [(0, v_0)]) (by kernel_rfl) (by kernel_rfl) fun a hS => ?_
  refine wl_nil (by kernel_rfl) ?_
  refine q_then ?_
  refine c_seq (by kernel_rfl) ?_
  refine c_region (by kernel_rfl) ?_
  refine wl_pures (j := 1) hS 1 [0, 3] (m' := [(0, v_0), (3, (.slice none 0 0))]) (by kernel_rfl) (by kernel_rfl) fun a hS => ?_
  refine wl_nil (by kernel_rfl) ?_
  refine q_then ?_
  refine c_seq (by kernel_rfl) ?_
  refine c_seq (by kernel_rfl) ?_
  refine c_region (by kernel_rfl) ?_
  refine wl_pures (j := 1) hS 1 [0, 3, 4] (m' := [(0, v_0), (3, (.slice none 0 0)), (4, .int .i64 0)]) (by kernel_rfl) (by kernel_rfl) fun a hS => ?_
  refine wl_nil (by kernel_rfl) ?_
  refine q_then ?_
  refine c_block (i := 0) (by kernel_rfl) ?_
  have C := ctx_nilrd 2 C
  refine c_loop (by kernel_rfl) (fun kk1 a w => ∃ l4 : List S_Run, ∃ v4 : Value, ∃ x4 : Int, scriniumlaw06_free.l1 p0 kk1 l4 x4 = some res ∧ Sl 41 [(0, v_0), (3, v4), (4, .int .i64 x4)] a ∧ Ctx w0 nob A0 [] [rdE v_0 p0.length 2 (p0.flatMap F_Run.cells), rdE v4 l4.length 2 (l4.flatMap F_Run.cells)] w) k ⟨[], (.slice none 0 0), 0, hf, hS.keep [0, 3, 4] (by kernel_rfl), ctx_pick [] [0, 1] C (by kernel_rfl) rfl rfl⟩ ?_
  rintro kk1 a w ⟨l4, v4, x4, hf, hS, C⟩
  cases kk1 with
  | zero => exact no_none hf
  | succ kk1 =>
    rw [scriniumlaw06_free.l1] at hf
    refine c_seq (by kernel_rfl) ?_
    refine c_join (by kernel_rfl) (fun a w => ∃ x5 : Bool, scriniumlaw06_free.j2 p0 kk1 l4 x4 (scriniumlaw06_free.l1 p0 kk1) x5 = some res ∧ Sl 41 [(0, v_0), (3, v4), (4, .int .i64 x4), (15, .bool x5)] a ∧ Ctx w0 nob A0 [] [rdE v_0 p0.length 2 (p0.flatMap F_Run.cells), rdE v4 l4.length 2 (l4.flatMap F_Run.cells)] w) ?_ ?_
    · rintro a w ⟨x5, hf, hS, C⟩
      rw [scriniumlaw06_free.j2] at hf
      refine c_if (b := x5) hS (by kernel_rfl) (by kernel_rfl) (fun hb => ?_) (fun hb => ?_)
      · have hf := opt_t hb hf
        refine c_skip (by kernel_rfl) ?_
        refine q_then ?_
        refine c_join (by kernel_rfl) (fun a w => ∃ l5 : List S_Run, ∃ v5 : Value, scriniumlaw06_free.j1 x4 (scriniumlaw06_free.l1 p0 kk1) l5 = some res ∧ Sl 41 [(0, v_0), (3, v5), (4, .int .i64 x4)] a ∧ Ctx w0 nob A0 [] [rdE v_0 p0.length 2 (p0.flatMap F_Run.cells), rdE v5 l5.length 2 (l5.flatMap F_Run.cells)] w) ?_ ?_
        · rintro a w ⟨l5, v5, hf, hS, C⟩
          rw [scriniumlaw06_free.j1] at hf
          refine c_region (by kernel_rfl) ?_
          refine wl_pures (j := 3) hS 3 [0, 3, 4] (m' := [(0, v_0), (3, v5), (4, .int .i64 (W64 (x4 + 1)))]) (by kernel_rfl) (by kernel_rfl) fun a hS => ?_
          refine wl_nil (by kernel_rfl) ?_
          exact q_then ⟨kk1, Nat.lt_succ_self kk1, l5, v5, (W64 (x4 + 1)), hf, hS.keep [0, 3, 4] (by kernel_rfl), ctx_pick [] [0, 1] C (by kernel_rfl) rfl rfl⟩
        · refine c_block (i := 1) (by kernel_rfl) ?_
          refine c_seq (by kernel_rfl) ?_
          refine c_drawsC [] [0, 1] 16 C (by kernel_rfl) (by kernel_rfl) (by kernel_rfl) (N := 16) (by kernel_rfl) (by kernel_rfl) fun _ C => ?_
          refine dr_pures (fuel := 12) (l' := [7, 6, 1, 0]) hS (ctx_pick [] [0, 1] C (by kernel_rfl) rfl rfl) [0, 1, 6, 7] [0, 3, 4, 18, 19, 24, 25] (m' := [(0, v_0), (3, v4), (4, .int .i64 x4), (18, v_0), (19, .int .i64 x4), (24, v_0), (25, .int .i64 x4)]) (by kernel_rfl) (by kernel_rfl) (by kernel_rfl) fun a hS => ?_
          obtain ⟨hi1, hf⟩ := ite_some hf
          refine dr_take (fuel := 11) (j := 2) (v := .pointer (some (elemA v_0 (x4.toNat * 2)))) (d := (some 20)) (op := (Op.indexAddr 22 (Operand.tmp 18) (Operand.tmp 19))) (g := none) hS (by kernel_rfl) (by kernel_rfl) (fun _ CS => r_idx (i := x4) (k := .i64) (v := v_0) (sz := 2) (rds_shp (C.okR 0 _ rfl)) (by kernel_rfl) (by kernel_rfl) hi1.1 hi1.2 (by kernel_rfl)) (ctx_pick [] [0, 1] C (by kernel_rfl) rfl rfl) fun a hS => ?_
          refine dr_pures (fuel := 10) (l' := [3, 2, 7, 6, 1, 0]) hS (ctx_pick [] [0, 1] C (by kernel_rfl) rfl rfl) [3] [0, 3, 4, 21, 24, 25] (m' := [(0, v_0), (3, v4), (4, .int .i64 x4), (21, .pointer (some ((elemA v_0 (x4.toNat * 2)).add 0))), (24, v_0), (25, .int .i64 x4)]) (by kernel_rfl) (by kernel_rfl) (by kernel_rfl) fun a hS => ?_
          refine dr_take (fuel := 9) (j := 4) (v := .int .i64 ((F_Run.at_ p0 x4).f_At)) (d := (some 22)) (op := (Op.load 3 (Operand.tmp 21))) (g := none) hS (by kernel_rfl) (by kernel_rfl) (fun _ CS => r_ldF F_Run (i := x4) (off := 0) (u := .int .i64 ((F_Run.at_ p0 x4).f_At)) (CS.okR 0 _ rfl) (by kernel_rfl) hi1.1 hi1.2 (by decide) (by kernel_rfl) (by kernel_rfl)) (ctx_pick [] [0, 1] C (by kernel_rfl) rfl rfl) fun a hS => ?_
          refine dr_pures (fuel := 8) (l' := [5, 4, 3, 2, 7, 6, 1, 0]) hS (ctx_pick [] [0, 1] C (by kernel_rfl) rfl rfl) [5] [0, 3, 4, 23, 24, 25] (m' := [(0, v_0), (3, v4), (4, .int .i64 x4), (23, .int .i64 (andK .i64 ((F_Run.at_ p0 x4).f_At) 1023)), (24, v_0), (25, .int .i64 x4)]) (by kernel_rfl) (by kernel_rfl) (by kernel_rfl) fun a hS => ?_
          obtain ⟨hi2, hf⟩ := ite_some hf
          refine dr_take (fuel := 7) (j := 8) (v := .pointer (some (elemA v_0 (x4.toNat * 2)))) (d := (some 26)) (op := (Op.indexAddr 22 (Operand.tmp 24) (Operand.tmp 25))) (g := none) hS (by kernel_rfl) (by kernel_rfl) (fun _ CS => r_idx (i := x4) (k := .i64) (v := v_0) (sz := 2) (rds_shp (C.okR 0 _ rfl)) (by kernel_rfl) (by kernel_rfl) hi2.1 hi2.2 (by kernel_rfl)) (ctx_pick [] [0, 1] C (by kernel_rfl) rfl rfl) fun a hS => ?_
          refine dr_pures (fuel := 6) (l' := [9, 8, 5, 4, 3, 2, 7, 6, 1, 0]) hS (ctx_pick [] [0, 1] C (by kernel_rfl) rfl rfl) [9] [0, 3, 4, 23, 27] (m' := [(0, v_0), (3, v4), (4, .int .i64 x4), (23, .int .i64 (andK .i64 ((F_Run.at_ p0 x4).f_At) 1023)), (27, .pointer (some ((elemA v_0 (x4.toNat * 2)).add 1)))]) (by kernel_rfl) (by kernel_rfl) (by kernel_rfl) fun a hS => ?_
          refine dr_take (fuel := 5) (j := 10) (v := .int .i64 ((F_Run.at_ p0 x4).f_N)) (d := (some 28)) (op := (Op.load 3 (Operand.tmp 27))) (g := none) hS (by kernel_rfl) (by kernel_rfl) (fun _ CS => r_ldF F_Run (i := x4) (off := 1) (u := .int .i64 ((F_Run.at_ p0 x4).f_N)) (CS.okR 0 _ rfl) (by kernel_rfl) hi2.1 hi2.2 (by decide) (by kernel_rfl) (by kernel_rfl)) (ctx_pick [] [0, 1] C (by kernel_rfl) rfl rfl) fun a hS => ?_
          refine dr_pures (fuel := 3) (l' := [12, 11, 10, 9, 8, 5, 4, 3, 2, 7, 6, 1, 0]) hS (ctx_pick [] [0, 1] C (by kernel_rfl) rfl rfl) [11, 12] [0, 3, 4, 23, 30] (m' := [(0, v_0), (3, v4), (4, .int .i64 x4), (23, .int .i64 (andK .i64 ((F_Run.at_ p0 x4).f_At) 1023)), (30, .int .i64 (W64 (1 + (andK .i64 ((F_Run.at_ p0 x4).f_N) 31))))]) (by kernel_rfl) (by kernel_rfl) (by kernel_rfl) fun a hS => ?_
          refine dr_take (fuel := 2) (j := 13) (v := .agg #[.int .i64 (andK .i64 ((F_Run.at_ p0 x4).f_At) 1023), .int .i64 (W64 (1 + (andK .i64 ((F_Run.at_ p0 x4).f_N) 31)))]) (d := (some 31)) (op := (Op.build 24 #[(0, (Operand.tmp 23)), (1, (Operand.tmp 30))])) (g := none) hS (by kernel_rfl) (by kernel_rfl) (fun _ CS => r_build (v := (.agg #[.int .i64 (andK .i64 ((F_Run.at_ p0 x4).f_At) 1023), .int .i64 (W64 (1 + (andK .i64 ((F_Run.at_ p0 x4).f_N) 31)))])) (by kernel_rfl)) (ctx_pick [] [0, 1] C (by kernel_rfl) rfl rfl) fun a hS => ?_
          refine dr_eff (fuel := 1) (j := 14) (d := (some 5)) (op := (Op.alloc 24)) (g := none) hS (by kernel_rfl) (by kernel_rfl) (by kernel_rfl) (eff_alloc C (cs := [.int .i64 0, .int .i64 0]) (by kernel_rfl)) ?_
          rintro _ _ ⟨b1, rfl, C⟩
          refine ⟨.inr (ctx_pick [] [0, 1] C (by kernel_rfl) rfl rfl), fun a hS => ?_⟩
          refine dr_eff (fuel := 0) (j := 15) (d := none) (op := (Op.store 24 (Operand.tmp 5) (Operand.tmp 31))) (g := none) hS (by kernel_rfl) (by kernel_rfl) (by kernel_rfl) (eff_stb (li := 0) (off := 0) (us := [.int .i64 (andK .i64 ((F_Run.at_ p0 x4).f_At) 1023), .int .i64 (W64 (1 + (andK .i64 ((F_Run.at_ p0 x4).f_N) 31)))]) (cs' := [.int .i64 (andK .i64 ((F_Run.at_ p0 x4).f_At) 1023), .int .i64 (W64 (1 + (andK .i64 ((F_Run.at_ p0 x4).f_N) 31)))]) C rfl (by kernel_rfl) (by kernel_rfl) (by kernel_rfl) (by simp) (by kernel_rfl) (by kernel_rfl)) ?_
          rintro _ _ C
          refine ⟨.inr (ctx_pick [] [0, 1] C (by kernel_rfl) rfl rfl), fun a hS => ?_⟩
          refine dr_done (by kernel_rfl) ?_
          refine q_then ?_
          refine c_seq (by kernel_rfl) ?_
          refine c_region (by kernel_rfl) ?_
          refine wl_pures (j := 1) hS 1 [0, 3, 4, 5, 33] (m' := [(0, v_0), (3, v4), (4, .int .i64 x4), (5, .pointer (some ⟨b1, 0, none⟩)), (33, v4)]) (by kernel_rfl) (by kernel_rfl) fun a hS => ?_
          refine wl_val (d := (some 34)) (op := (Op.load 24 (Operand.tmp 5))) (g := none) hS (by kernel_rfl) (by kernel_rfl) (r_ldbs (li := 0) (off := 0) (seg := [.int .i64 (andK .i64 ((F_Run.at_ p0 x4).f_At) 1023), .int .i64 (W64 (1 + (andK .i64 ((F_Run.at_ p0 x4).f_N) 31)))]) C rfl (by kernel_rfl) (by kernel_rfl) (by kernel_rfl)) fun a hS => ?_
          obtain ⟨t1, ht1, hf⟩ := bind_some hf
          refine wl_eff (d := (some 35)) (op := (Op.call { callee := (Callee.value (Operand.func 15)), args := #[(Operand.tmp 33), (Operand.tmp 34)], argTypes := #[22, 24] })) (g := none) hS (by kernel_rfl) (by kernel_rfl) (eff_fn (by kernel_rfl) rfl (by kernel_rfl) (scriniumref06_Give_ok kk1 _ l4 (⟨(andK .i64 ((F_Run.at_ p0 x4).f_At) 1023), (W64 (1 + (andK .i64 ((F_Run.at_ p0 x4).f_N) 31)))⟩ : S_Run) v4 (C.okR 1 _ rfl) t1 ht1)) ?_
          rintro _ _ ⟨v6, rfl, hw, hr1⟩ a hS
          have C := got_lies C hw hr1 (dom_one (j := 1) rfl)
          refine wl_pures (j := 8) hS 5 [0, 3, 4, 6, 7] (m' := [(0, v_0), (3, v4), (4, .int .i64 x4), (6, v6), (7, .bool t1.2)]) (by kernel_rfl) (by kernel_rfl) fun a hS => ?_
          refine wl_nil (by kernel_rfl) ?_
          refine q_then ?_
          refine c_seq (by kernel_rfl) ?_
          refine c_region (by kernel_rfl) ?_
          refine wl_pures (j := 1) hS 1 [0, 3, 4, 6, 38] (m' := [(0, v_0), (3, v4), (4, .int .i64 x4), (6, v6), (38, .bool t1.2)]) (by kernel_rfl) (by kernel_rfl) fun a hS => ?_
          refine wl_nil (by kernel_rfl) ?_
          refine q_then ?_
          refine c_if (b := t1.2) hS (by kernel_rfl) (by kernel_rfl) (fun hb => ?_) (fun hb => ?_)
          · have hf := opt_t hb hf
            refine c_region (by kernel_rfl) ?_
            refine wl_pures (j := 2) hS 2 [0, 3, 4] (m' := [(0, v_0), (3, v6), (4, .int .i64 x4)]) (by kernel_rfl) (by kernel_rfl) fun a hS => ?_
            refine wl_nil (by kernel_rfl) ?_
            refine q_in ?_
            exact q_then ⟨t1.1, v6, hf, hS.keep [0, 3, 4] (by kernel_rfl), ctx_pick [] [0, 2] C (by kernel_rfl) rfl rfl⟩
          · have hf := opt_f hb hf
            refine c_skip (by kernel_rfl) ?_
            refine q_in ?_
            exact q_then ⟨l4, v4, hf, hS.keep [0, 3, 4] (by kernel_rfl), ctx_pick [] [0, 1] C (by kernel_rfl) rfl rfl⟩
      · have hf := opt_f hb hf
        refine c_exit (i := 0) (by kernel_rfl) ?_
        refine q_thenx ?_
        refine q_thenx ?_
        refine q_inx ?_
        refine q_then ?_
        refine c_seq (by kernel_rfl) ?_
        refine c_region (by kernel_rfl) ?_
        refine wl_pures (j := 2) hS 2 [2] (m' := [(2, v4)]) (by kernel_rfl) (by kernel_rfl) fun a hS => ?_
        refine wl_nil (by kernel_rfl) ?_
        refine q_then ?_
        refine c_ret (by kernel_rfl) ?_
        refine q_ret hS (vs := [v4]) (by kernel_rfl) ?_
        obtain rfl := Option.some.inj hf
        exact ⟨_, rfl, C.fr, ret_lies (ri := 1) C rfl rfl⟩
    · refine c_region (by kernel_rfl) ?_
      refine wl_pures (j := 2) hS 2 [0, 3, 4, 8, 9] (m' := [(0, v_0), (3, v4), (4, .int .i64 x4), (8, .int .i64 x4), (9, v_0)]) (by kernel_rfl) (by kernel_rfl) fun a hS => ?_
      refine wl_val (d := (some 10)) (op := (Op.call { callee := (Callee.builtin Builtin.len), args := #[(Operand.tmp 9)], argTypes := #[22] })) (g := none) hS (by kernel_rfl) (by kernel_rfl) (r_len (n := p0.length) (v := v_0) (rds_shp (C.okR 0 _ rfl)) (by kernel_rfl) (by kernel_rfl)) fun a hS => ?_
      refine wl_pures (j := 5) hS 2 [0, 3, 4, 12] (m' := [(0, v_0), (3, v4), (4, .int .i64 x4), (12, .bool (decide (x4 < (p0.length : Int))))]) (by kernel_rfl) (by kernel_rfl) fun a hS => ?_
      rcases Bool.eq_false_or_eq_true (decide (x4 < (p0.length : Int))) with hb | hb
      · rw [hb] at hS
        have hf := opt_t hb hf
        refine wl_pures (j := 8) hS 3 [0, 3, 4, 15] (m' := [(0, v_0), (3, v4), (4, .int .i64 x4), (15, .bool (decide (x4 < 20)))]) (by kernel_rfl) (by kernel_rfl) fun a hS => ?_
        refine wl_nil (by kernel_rfl) ?_
        exact q_then ⟨(decide (x4 < 20)), hf, hS.keep [0, 3, 4, 15] (by kernel_rfl), ctx_pick [] [0, 1] C (by kernel_rfl) rfl rfl⟩
      · rw [hb] at hS
        have hf := opt_f hb hf
        refine wl_pures (j := 8) hS 3 [0, 3, 4, 15] (m' := [(0, v_0), (3, v4), (4, .int .i64 x4), (15, .bool false)]) (by kernel_rfl) (by kernel_rfl) fun a hS => ?_
        refine wl_nil (by kernel_rfl) ?_
        exact q_then ⟨false, hf, hS.keep [0, 3, 4, 15] (by kernel_rfl), ctx_pick [] [0, 1] C (by kernel_rfl) rfl rfl⟩

def scriniumref06_Total.j1 (x8 : Int) (LOOP1 : (Int → Int → Option Int)) (x9 : Int) : Option Int := (if (decide (x9 > 1125899906842624)) = true then (some 1125899906842624) else LOOP1 x9 (W64 (x8 + 1)))
def scriniumref06_Total.l1 (p0 : (List S_Run)) : Nat → Int → Int → Option Int
  | 0, _, _ => none
  | kk1 + 1, x7, x8 => (if (decide (x8 < (p0.length : Int))) = true then (if 0 ≤ x8 ∧ x8 < (p0.length : Int) then (if (decide (((F_Run.at_ p0 x8).f_N) > 1125899906842624)) = true then (some 1125899906842624) else (if 0 ≤ x8 ∧ x8 < (p0.length : Int) then (if (decide (((F_Run.at_ p0 x8).f_N) > 0)) = true then (if 0 ≤ x8 ∧ x8 < (p0.length : Int) then scriniumref06_Total.j1 x8 (scriniumref06_Total.l1 p0 kk1) (W64 (x7 + ((F_Run.at_ p0 x8).f_N))) else none) else scriniumref06_Total.j1 x8 (scriniumref06_Total.l1 p0 kk1) x7) else none)) else none) else (some x7))
def scriniumref06_Total.f (k : Nat) (p0 : (List S_Run)) : Option Int := scriniumref06_Total.l1 p0 k 0 0
theorem scriniumref06_Total_ok (k : Nat) (w0 : World) (p0 : (List S_Run)) (v_0 : Value) (h_0 : Rds v_0 p0.length 2 (p0.flatMap F_Run.cells) w0) (res : Int) (hf : scriniumref06_Total.f k p0 = some res) :
    Fn Try.prog 30 [v_0] w0 (fun v w' => v = .int .i64 res ∧ Fr nob w0 w') := by
  have C := ctx_start w0 [rdE v_0 p0.length 2 (p0.flatMap F_Run.cells)] (start1 h_0)
  generalize allDom [rdE v_0 p0.length 2 (p0.flatMap F_Run.cells)] = A0 at C
  refine f_enter (fn := Try.f30) (k := 32) rfl rfl rfl fun a hS => ?_
  have hS : Sl 33 [(0, v_0)] a := hS
  rw [scriniumref06_Total.f] at hf
  refine c_seq (by kernel_rfl) ?_
  refine c_region (by kernel_rfl) ?_
  refine wl_pures (j := 1) hS 1 [0] (m' := [(0, v_0)]) (by kernel_rfl) (by kernel_rfl) fun a hS => ?_
  refine wl_nil (by kernel_rfl) ?_
  refine q_then ?_
  refine c_seq (by kernel_rfl) ?_
  refine c_region (by kernel_rfl) ?_
  refine wl_pures (j := 1) hS 1 [0, 3] (m' := [(0, v_0), (3, .int .i64 0)]) (by kernel_rfl) (by kernel_rfl) fun a hS => ?_
  refine wl_nil (by kernel_rfl) ?_
  refine q_then ?_
  refine c_seq (by kernel_rfl) ?_
  refine c_seq (by kernel_rfl) ?_
  refine c_region (by kernel_rfl) ?_
  refine wl_pures (j := 1) hS 1 [0, 3, 4] (m' := [(0, v_0), (3, .int .i64 0), (4, .int .i64 0)]) (by kernel_rfl) (by kernel_rfl) fun a hS => ?_
  refine wl_nil (by kernel_rfl) ?_
  refine q_then ?_
  refine c_block (i := 0) (by kernel_rfl) ?_
  refine c_loop (by kernel_rfl) (fun kk1 a w => ∃ x7 : Int, ∃ x8 : Int, scriniumref06_Total.l1 p0 kk1 x7 x8 = some res ∧ Sl 33 [(0, v_0), (3, .int .i64 x7), (4, .int .i64 x8)] a ∧ Ctx w0 nob A0 [] [rdE v_0 p0.length 2 (p0.flatMap F_Run.cells)] w) k ⟨0, 0, hf, hS.keep [0, 3, 4] (by kernel_rfl), ctx_pick [] [0] C (by kernel_rfl) rfl rfl⟩ ?_
  rintro kk1 a w ⟨x7, x8, hf, hS, C⟩
  cases kk1 with
  | zero => exact no_none hf
  | succ kk1 =>
    rw [scriniumref06_Total.l1] at hf
    refine c_seq (by kernel_rfl) ?_
    refine c_seq (by kernel_rfl) ?_
    refine c_region (by kernel_rfl) ?_
    refine wl_pures (j := 2) hS 2 [0, 3, 4, 5, 6] (m' := [(0, v_0), (3, .int .i64 x7), (4, .int .i64 x8), (5, .int .i64 x8), (6, v_0)]) (by kernel_rfl) (by kernel_rfl) fun a hS => ?_
    refine wl_val (d := (some 7)) (op := (Op.call { callee := (Callee.builtin Builtin.len), args := #[(Operand.tmp 6)], argTypes := #[22] })) (g := none) hS (by kernel_rfl) (by kernel_rfl) (r_len (n := p0.length) (v := v_0) (rds_shp (C.okR 0 _ rfl)) (by kernel_rfl) (by kernel_rfl)) fun a hS => ?_
    refine wl_pures (j := 4) hS 1 [0, 3, 4, 8] (m' := [(0, v_0), (3, .int .i64 x7), (4, .int .i64 x8), (8, .bool (decide (x8 < (p0.length : Int))))]) (by kernel_rfl) (by kernel_rfl) fun a hS => ?_
    refine wl_nil (by kernel_rfl) ?_
    refine q_then ?_
    refine c_if (b := (decide (x8 < (p0.length : Int)))) hS (by kernel_rfl) (by kernel_rfl) (fun hb => ?_) (fun hb => ?_)
    · have hf := opt_t hb hf
      refine c_skip (by kernel_rfl) ?_
      refine q_then ?_
      refine c_seq (by kernel_rfl) ?_
      refine c_block (i := 1) (by kernel_rfl) ?_
      refine c_seq (by kernel_rfl) ?_
      refine c_seq (by kernel_rfl) ?_
      refine c_region (by kernel_rfl) ?_
      refine wl_pures (j := 2) hS 2 [0, 3, 4, 11, 12] (m' := [(0, v_0), (3, .int .i64 x7), (4, .int .i64 x8), (11, v_0), (12, .int .i64 x8)]) (by kernel_rfl) (by kernel_rfl) fun a hS => ?_
      obtain ⟨hi1, hf⟩ := ite_some hf
      refine wl_val (d := (some 13)) (op := (Op.indexAddr 22 (Operand.tmp 11) (Operand.tmp 12))) (g := none) hS (by kernel_rfl) (by kernel_rfl) (r_idx (i := x8) (k := .i64) (v := v_0) (sz := 2) (rds_shp (C.okR 0 _ rfl)) (by kernel_rfl) (by kernel_rfl) hi1.1 hi1.2 (by kernel_rfl)) fun a hS => ?_
      refine wl_pures (j := 4) hS 1 [0, 3, 4, 14] (m' := [(0, v_0), (3, .int .i64 x7), (4, .int .i64 x8), (14, .pointer (some ((elemA v_0 (x8.toNat * 2)).add 1)))]) (by kernel_rfl) (by kernel_rfl) fun a hS => ?_
      refine wl_val (d := (some 15)) (op := (Op.load 3 (Operand.tmp 14))) (g := none) hS (by kernel_rfl) (by kernel_rfl) (r_ldF F_Run (i := x8) (off := 1) (u := .int .i64 ((F_Run.at_ p0 x8).f_N)) (C.okR 0 _ rfl) (by kernel_rfl) hi1.1 hi1.2 (by decide) (by kernel_rfl) (by kernel_rfl)) fun a hS => ?_
      refine wl_pures (j := 6) hS 1 [0, 3, 4, 16] (m' := [(0, v_0), (3, .int .i64 x7), (4, .int .i64 x8), (16, .bool (decide (((F_Run.at_ p0 x8).f_N) > 1125899906842624)))]) (by kernel_rfl) (by kernel_rfl) fun a hS => ?_
      refine wl_nil (by kernel_rfl) ?_
      refine q_then ?_
      refine c_if (b := (decide (((F_Run.at_ p0 x8).f_N) > 1125899906842624))) hS (by kernel_rfl) (by kernel_rfl) (fun hb => ?_) (fun hb => ?_)
      · have hf := opt_t hb hf
        refine c_seq (by kernel_rfl) ?_
        refine c_region (by kernel_rfl) ?_
        refine wl_pures (j := 1) hS 1 [2] (m' := [(2, .int .i64 1125899906842624)]) (by kernel_rfl) (by kernel_rfl) fun a hS => ?_
        refine wl_nil (by kernel_rfl) ?_
        refine q_then ?_
        refine c_ret (by kernel_rfl) ?_
        refine q_thenr ?_
        refine q_inr ?_
        refine q_thenr ?_
        refine q_thenr ?_
        refine q_inr ?_
        refine q_thenr ?_
        refine q_ret hS (vs := [.int .i64 1125899906842624]) (by kernel_rfl) ?_
        obtain rfl := Option.some.inj hf
        exact ⟨_, rfl, rfl, C.fr⟩
      · have hf := opt_f hb hf
        refine c_skip (by kernel_rfl) ?_
        refine q_then ?_
        refine c_join (by kernel_rfl) (fun a w => ∃ x9 : Int, scriniumref06_Total.j1 x8 (scriniumref06_Total.l1 p0 kk1) x9 = some res ∧ Sl 33 [(0, v_0), (3, .int .i64 x9), (4, .int .i64 x8)] a ∧ Ctx w0 nob A0 [] [rdE v_0 p0.length 2 (p0.flatMap F_Run.cells)] w) ?_ ?_
        · rintro a w ⟨x9, hf, hS, C⟩
          rw [scriniumref06_Total.j1] at hf
          refine c_seq (by kernel_rfl) ?_
          refine c_region (by kernel_rfl) ?_
          refine wl_pures (j := 2) hS 2 [0, 3, 4, 31] (m' := [(0, v_0), (3, .int .i64 x9), (4, .int .i64 x8), (31, .bool (decide (x9 > 1125899906842624)))]) (by kernel_rfl) (by kernel_rfl) fun a hS => ?_
          refine wl_nil (by kernel_rfl) ?_
          refine q_then ?_
          refine c_if (b := (decide (x9 > 1125899906842624))) hS (by kernel_rfl) (by kernel_rfl) (fun hb => ?_) (fun hb => ?_)
          · have hf := opt_t hb hf
            refine c_seq (by kernel_rfl) ?_
            refine c_region (by kernel_rfl) ?_
            refine wl_pures (j := 1) hS 1 [2] (m' := [(2, .int .i64 1125899906842624)]) (by kernel_rfl) (by kernel_rfl) fun a hS => ?_
            refine wl_nil (by kernel_rfl) ?_
            refine q_then ?_
            refine c_ret (by kernel_rfl) ?_
            refine q_inr ?_
            refine q_thenr ?_
            refine q_thenr ?_
            refine q_inr ?_
            refine q_thenr ?_
            refine q_ret hS (vs := [.int .i64 1125899906842624]) (by kernel_rfl) ?_
            obtain rfl := Option.some.inj hf
            exact ⟨_, rfl, rfl, C.fr⟩
          · have hf := opt_f hb hf
            refine c_skip (by kernel_rfl) ?_
            refine q_in ?_
            refine q_then ?_
            refine c_region (by kernel_rfl) ?_
            refine wl_pures (j := 3) hS 3 [0, 3, 4] (m' := [(0, v_0), (3, .int .i64 x9), (4, .int .i64 (W64 (x8 + 1)))]) (by kernel_rfl) (by kernel_rfl) fun a hS => ?_
            refine wl_nil (by kernel_rfl) ?_
            exact q_then ⟨kk1, Nat.lt_succ_self kk1, x9, (W64 (x8 + 1)), hf, hS.keep [0, 3, 4] (by kernel_rfl), ctx_pick [] [0] C (by kernel_rfl) rfl rfl⟩
        · refine c_seq (by kernel_rfl) ?_
          refine c_region (by kernel_rfl) ?_
          refine wl_pures (j := 2) hS 2 [0, 3, 4, 17, 18] (m' := [(0, v_0), (3, .int .i64 x7), (4, .int .i64 x8), (17, v_0), (18, .int .i64 x8)]) (by kernel_rfl) (by kernel_rfl) fun a hS => ?_
          obtain ⟨hi2, hf⟩ := ite_some hf
          refine wl_val (d := (some 19)) (op := (Op.indexAddr 22 (Operand.tmp 17) (Operand.tmp 18))) (g := none) hS (by kernel_rfl) (by kernel_rfl) (r_idx (i := x8) (k := .i64) (v := v_0) (sz := 2) (rds_shp (C.okR 0 _ rfl)) (by kernel_rfl) (by kernel_rfl) hi2.1 hi2.2 (by kernel_rfl)) fun a hS => ?_
          refine wl_pures (j := 4) hS 1 [0, 3, 4, 20] (m' := [(0, v_0), (3, .int .i64 x7), (4, .int .i64 x8), (20, .pointer (some ((elemA v_0 (x8.toNat * 2)).add 1)))]) (by kernel_rfl) (by kernel_rfl) fun a hS => ?_
          refine wl_val (d := (some 21)) (op := (Op.load 3 (Operand.tmp 20))) (g := none) hS (by kernel_rfl) (by kernel_rfl) (r_ldF F_Run (i := x8) (off := 1) (u := .int .i64 ((F_Run.at_ p0 x8).f_N)) (C.okR 0 _ rfl) (by kernel_rfl) hi2.1 hi2.2 (by decide) (by kernel_rfl) (by kernel_rfl)) fun a hS => ?_
          refine wl_pures (j := 6) hS 1 [0, 3, 4, 22] (m' := [(0, v_0), (3, .int .i64 x7), (4, .int .i64 x8), (22, .bool (decide (((F_Run.at_ p0 x8).f_N) > 0)))]) (by kernel_rfl) (by kernel_rfl) fun a hS => ?_
          refine wl_nil (by kernel_rfl) ?_
          refine q_then ?_
          refine c_if (b := (decide (((F_Run.at_ p0 x8).f_N) > 0))) hS (by kernel_rfl) (by kernel_rfl) (fun hb => ?_) (fun hb => ?_)
          · have hf := opt_t hb hf
            refine c_region (by kernel_rfl) ?_
            refine wl_pures (j := 3) hS 3 [0, 3, 4, 23, 24, 25] (m' := [(0, v_0), (3, .int .i64 x7), (4, .int .i64 x8), (23, .int .i64 x7), (24, v_0), (25, .int .i64 x8)]) (by kernel_rfl) (by kernel_rfl) fun a hS => ?_
            obtain ⟨hi3, hf⟩ := ite_some hf
            refine wl_val (d := (some 26)) (op := (Op.indexAddr 22 (Operand.tmp 24) (Operand.tmp 25))) (g := none) hS (by kernel_rfl) (by kernel_rfl) (r_idx (i := x8) (k := .i64) (v := v_0) (sz := 2) (rds_shp (C.okR 0 _ rfl)) (by kernel_rfl) (by kernel_rfl) hi3.1 hi3.2 (by kernel_rfl)) fun a hS => ?_
            refine wl_pures (j := 5) hS 1 [0, 3, 4, 23, 27] (m' := [(0, v_0), (3, .int .i64 x7), (4, .int .i64 x8), (23, .int .i64 x7), (27, .pointer (some ((elemA v_0 (x8.toNat * 2)).add 1)))]) (by kernel_rfl) (by kernel_rfl) fun a hS => ?_
            refine wl_val (d := (some 28)) (op := (Op.load 3 (Operand.tmp 27))) (g := none) hS (by kernel_rfl) (by kernel_rfl) (r_ldF F_Run (i := x8) (off := 1) (u := .int .i64 ((F_Run.at_ p0 x8).f_N)) (C.okR 0 _ rfl) (by kernel_rfl) hi3.1 hi3.2 (by decide) (by kernel_rfl) (by kernel_rfl)) fun a hS => ?_
            refine wl_pures (j := 8) hS 2 [0, 3, 4] (m' := [(0, v_0), (3, .int .i64 (W64 (x7 + ((F_Run.at_ p0 x8).f_N)))), (4, .int .i64 x8)]) (by kernel_rfl) (by kernel_rfl) fun a hS => ?_
            refine wl_nil (by kernel_rfl) ?_
            exact q_then ⟨(W64 (x7 + ((F_Run.at_ p0 x8).f_N))), hf, hS.keep [0, 3, 4] (by kernel_rfl), ctx_pick [] [0] C (by kernel_rfl) rfl rfl⟩
          · have hf := opt_f hb hf
            refine c_skip (by kernel_rfl) ?_
            exact q_then ⟨x7, hf, hS.keep [0, 3, 4] (by kernel_rfl), ctx_pick [] [0] C (by kernel_rfl) rfl rfl⟩
    · have hf := opt_f hb hf
      refine c_exit (i := 0) (by kernel_rfl) ?_
      refine q_thenx ?_
      refine q_thenx ?_
      refine q_inx ?_
      refine q_then ?_
      refine c_seq (by kernel_rfl) ?_
      refine c_region (by kernel_rfl) ?_
      refine wl_pures (j := 2) hS 2 [2] (m' := [(2, .int .i64 x7)]) (by kernel_rfl) (by kernel_rfl) fun a hS => ?_
      refine wl_nil (by kernel_rfl) ?_
      refine q_then ?_
      refine c_ret (by kernel_rfl) ?_
      refine q_ret hS (vs := [.int .i64 x7]) (by kernel_rfl) ?_
      obtain rfl := Option.some.inj hf
      exact ⟨_, rfl, rfl, C.fr⟩

def scriniumref06_Rest.j1 (x13 : Int) (LOOP1 : (Int → Int → List S_Run → Int → Option (List S_Run))) (x14 : Int) (x15 : Int) (l5 : List S_Run) : Option (List S_Run) := LOOP1 x14 x15 l5 (W64 (x13 + 1))
def scriniumref06_Rest.j2 (p0 : (List S_Run)) (x11 : Int) (x12 : Int) (l4 : List S_Run) (x13 : Int) (LOOP1 : (Int → Int → List S_Run → Int → Option (List S_Run))) (x16 : Int) : Option (List S_Run) := (if (decide (x16 < 1)) = true then (some l4) else (if (l4.length + ([(⟨(W64 (((F_Run.at_ p0 x13).f_At) + x11)), x16⟩ : S_Run)]).length) * 16 ≤ 140737488355328 then scriniumref06_Rest.j1 x13 LOOP1 0 (W64 (x12 - x16)) (l4 ++ [(⟨(W64 (((F_Run.at_ p0 x13).f_At) + x11)), x16⟩ : S_Run)]) else none))
def scriniumref06_Rest.l1 (p0 : (List S_Run)) : Nat → Int → Int → List S_Run → Int → Option (List S_Run)
  | 0, _, _, _, _ => none
  | kk1 + 1, x11, x12, l4, x13 => (if (decide (x13 < (p0.length : Int))) = true then (if 0 ≤ x13 ∧ x13 < (p0.length : Int) then (if (decide (x11 ≥ ((F_Run.at_ p0 x13).f_N))) = true then scriniumref06_Rest.j1 x13 (scriniumref06_Rest.l1 p0 kk1) (W64 (x11 - ((F_Run.at_ p0 x13).f_N))) x12 l4 else (if (decide ((W64 (((F_Run.at_ p0 x13).f_N) - x11)) > x12)) = true then scriniumref06_Rest.j2 p0 x11 x12 l4 x13 (scriniumref06_Rest.l1 p0 kk1) x12 else scriniumref06_Rest.j2 p0 x11 x12 l4 x13 (scriniumref06_Rest.l1 p0 kk1) (W64 (((F_Run.at_ p0 x13).f_N) - x11)))) else none) else (some l4))
def scriniumref06_Rest.j3 (k : Nat) (p0 : (List S_Run)) (p2 : Int) (x1 : Int) : Option (List S_Run) := scriniumref06_Rest.l1 p0 k x1 p2 [] 0
def scriniumref06_Rest.f (k : Nat) (p0 : (List S_Run)) (p1 : Int) (p2 : Int) : Option (List S_Run) := (if (decide (p1 < 0)) = true then scriniumref06_Rest.j3 k p0 p2 0 else scriniumref06_Rest.j3 k p0 p2 p1)
theorem scriniumref06_Rest_ok (k : Nat) (w0 : World) (p0 : (List S_Run)) (p1 : Int) (p2 : Int) (v_0 : Value) (h_0 : Rds v_0 p0.length 2 (p0.flatMap F_Run.cells) w0) (res : (List S_Run)) (hf : scriniumref06_Rest.f k p0 p1 p2 = some res) :
    Fn Try.prog 24 [v_0, .int .i64 p1, .int .i64 p2] w0 (fun v w' => Fr nob w0 w' ∧ Own w0 F_Run 24 v res w') := by
  have C := ctx_start w0 [rdE v_0 p0.length 2 (p0.flatMap F_Run.cells)] (start1 h_0)
  generalize allDom [rdE v_0 p0.length 2 (p0.flatMap F_Run.cells)] = A0 at C
  refine f_enter (fn := Try.f24) (k := 56) rfl rfl rfl fun a hS => ?_
  have hS : Sl 59 [(0, v_0), (1, .int .i64 p1), (2, .int .i64 p2)] a := hS
  rw [scriniumref06_Rest.f] at hf
  refine c_seq (by kernel_rfl) ?_
  refine c_region (by kernel_rfl) ?_
  refine wl_pures (j := 1) hS 1 [0, 1, 2] (m' := [(0, v_0), (1, .int .i64 p1), (2, .int .i64 p2)]) (by kernel_rfl) (by kernel_rfl) fun a hS => ?_
  refine wl_nil (by kernel_rfl) ?_
  refine q_then ?_
  refine c_join (by kernel_rfl) (fun a w => ∃ x1 : Int, scriniumref06_Rest.j3 k p0 p2 x1 = some res ∧ Sl 59 [(0, v_0), (1, .int .i64 x1), (2, .int .i64 p2)] a ∧ Ctx w0 nob A0 [] [rdE v_0 p0.length 2 (p0.flatMap F_Run.cells)] w) ?_ ?_
  · rintro a w ⟨x1, hf, hS, C⟩
    rw [scriniumref06_Rest.j3] at hf
    refine c_seq (by kernel_rfl) ?_
    refine c_region (by kernel_rfl) ?_
    refine wl_pures (j := 1) hS 1 [0, 1, 2, 7] (m' := [(0, v_0), (1, .int .i64 x1), (2, .int .i64 p2), (7, (.slice none 0 0))]) (by kernel_rfl) (by kernel_rfl) fun a hS => ?_
    refine wl_nil (by kernel_rfl) ?_
    refine q_then ?_
    refine c_seq (by kernel_rfl) ?_
    refine c_seq (by kernel_rfl) ?_
    refine c_region (by kernel_rfl) ?_
    refine wl_pures (j := 1) hS 1 [0, 1, 2, 7, 8] (m' := [(0, v_0), (1, .int .i64 x1), (2, .int .i64 p2), (7, (.slice none 0 0)), (8, .int .i64 0)]) (by kernel_rfl) (by kernel_rfl) fun a hS => ?_
    refine wl_nil (by kernel_rfl) ?_
    refine q_then ?_
    refine c_block (i := 0) (by kernel_rfl) ?_
    have C := ctx_nilrow 24 2 C
    refine c_loop (by kernel_rfl) (fun kk1 a w => ∃ x11 : Int, ∃ x12 : Int, ∃ l4 : List S_Run, ∃ v4 : Value, ∃ x13 : Int, scriniumref06_Rest.l1 p0 kk1 x11 x12 l4 x13 = some res ∧ Sl 59 [(0, v_0), (1, .int .i64 x11), (2, .int .i64 x12), (7, v4), (8, .int .i64 x13)] a ∧ Ctx w0 nob A0 [rowE v4 24 2 l4.length (l4.flatMap F_Run.cells)] [rdE v_0 p0.length 2 (p0.flatMap F_Run.cells)] w) k ⟨x1, p2, [], (.slice none 0 0), 0, hf, hS.keep [0, 1, 2, 7, 8] (by kernel_rfl), ctx_pick [0] [0] C (by kernel_rfl) rfl rfl⟩ ?_
    rintro kk1 a w ⟨x11, x12, l4, v4, x13, hf, hS, C⟩
    cases kk1 with
    | zero => exact no_none hf
    | succ kk1 =>
      rw [scriniumref06_Rest.l1] at hf
      refine c_seq (by kernel_rfl) ?_
      refine c_seq (by kernel_rfl) ?_
      refine c_region (by kernel_rfl) ?_
      refine wl_pures (j := 2) hS 2 [0, 1, 2, 7, 8, 12, 13] (m' := [(0, v_0), (1, .int .i64 x11), (2, .int .i64 x12), (7, v4), (8, .int .i64 x13), (12, .int .i64 x13), (13, v_0)]) (by kernel_rfl) (by kernel_rfl) fun a hS => ?_
      refine wl_val (d := (some 14)) (op := (Op.call { callee := (Callee.builtin Builtin.len), args := #[(Operand.tmp 13)], argTypes := #[22] })) (g := none) hS (by kernel_rfl) (by kernel_rfl) (r_len (n := p0.length) (v := v_0) (rds_shp (C.okR 0 _ rfl)) (by kernel_rfl) (by kernel_rfl)) fun a hS => ?_
      refine wl_pures (j := 4) hS 1 [0, 1, 2, 7, 8, 15] (m' := [(0, v_0), (1, .int .i64 x11), (2, .int .i64 x12), (7, v4), (8, .int .i64 x13), (15, .bool (decide (x13 < (p0.length : Int))))]) (by kernel_rfl) (by kernel_rfl) fun a hS => ?_
      refine wl_nil (by kernel_rfl) ?_
      refine q_then ?_
      refine c_if (b := (decide (x13 < (p0.length : Int)))) hS (by kernel_rfl) (by kernel_rfl) (fun hb => ?_) (fun hb => ?_)
      · have hf := opt_t hb hf
        refine c_skip (by kernel_rfl) ?_
        refine q_then ?_
        refine c_join (by kernel_rfl) (fun a w => ∃ x14 : Int, ∃ x15 : Int, ∃ l5 : List S_Run, ∃ v5 : Value, scriniumref06_Rest.j1 x13 (scriniumref06_Rest.l1 p0 kk1) x14 x15 l5 = some res ∧ Sl 59 [(0, v_0), (1, .int .i64 x14), (2, .int .i64 x15), (7, v5), (8, .int .i64 x13)] a ∧ Ctx w0 nob A0 [rowE v5 24 2 l5.length (l5.flatMap F_Run.cells)] [rdE v_0 p0.length 2 (p0.flatMap F_Run.cells)] w) ?_ ?_
        · rintro a w ⟨x14, x15, l5, v5, hf, hS, C⟩
          rw [scriniumref06_Rest.j1] at hf
          refine c_region (by kernel_rfl) ?_
          refine wl_pures (j := 3) hS 3 [0, 1, 2, 7, 8] (m' := [(0, v_0), (1, .int .i64 x14), (2, .int .i64 x15), (7, v5), (8, .int .i64 (W64 (x13 + 1)))]) (by kernel_rfl) (by kernel_rfl) fun a hS => ?_
          refine wl_nil (by kernel_rfl) ?_
          exact q_then ⟨kk1, Nat.lt_succ_self kk1, x14, x15, l5, v5, (W64 (x13 + 1)), hf, hS.keep [0, 1, 2, 7, 8] (by kernel_rfl), ctx_pick [0] [0] C (by kernel_rfl) rfl rfl⟩
        · refine c_block (i := 1) (by kernel_rfl) ?_
          refine c_seq (by kernel_rfl) ?_
          refine c_region (by kernel_rfl) ?_
          refine wl_pures (j := 2) hS 2 [0, 1, 2, 7, 8, 18, 19] (m' := [(0, v_0), (1, .int .i64 x11), (2, .int .i64 x12), (7, v4), (8, .int .i64 x13), (18, v_0), (19, .int .i64 x13)]) (by kernel_rfl) (by kernel_rfl) fun a hS => ?_
          obtain ⟨hi1, hf⟩ := ite_some hf
          refine wl_val (d := (some 20)) (op := (Op.indexAddr 22 (Operand.tmp 18) (Operand.tmp 19))) (g := none) hS (by kernel_rfl) (by kernel_rfl) (r_idx (i := x13) (k := .i64) (v := v_0) (sz := 2) (rds_shp (C.okR 0 _ rfl)) (by kernel_rfl) (by kernel_rfl) hi1.1 hi1.2 (by kernel_rfl)) fun a hS => ?_
          refine wl_val (d := (some 21)) (op := (Op.load 24 (Operand.tmp 20))) (g := none) hS (by kernel_rfl) (by kernel_rfl) (r_ldFs F_Run (i := x13) (seg := [.int .i64 ((F_Run.at_ p0 x13).f_At), .int .i64 ((F_Run.at_ p0 x13).f_N)]) (C.okR 0 _ rfl) (by kernel_rfl) hi1.1 hi1.2 (by kernel_rfl) (by kernel_rfl)) fun a hS => ?_
          refine wl_eff (d := (some 9)) (op := (Op.alloc 24)) (g := none) hS (by kernel_rfl) (by kernel_rfl) (eff_alloc C (cs := [.int .i64 0, .int .i64 0]) (by kernel_rfl)) ?_
          rintro _ _ ⟨b1, rfl, C⟩ a hS
          refine wl_eff (d := none) (op := (Op.store 24 (Operand.tmp 9) (Operand.tmp 21))) (g := none) hS (by kernel_rfl) (by kernel_rfl) (eff_stb (li := 1) (off := 0) (us := [.int .i64 ((F_Run.at_ p0 x13).f_At), .int .i64 ((F_Run.at_ p0 x13).f_N)]) (cs' := [.int .i64 ((F_Run.at_ p0 x13).f_At), .int .i64 ((F_Run.at_ p0 x13).f_N)]) C rfl (by kernel_rfl) (by kernel_rfl) (by kernel_rfl) (by simp) (by kernel_rfl) (by kernel_rfl)) ?_
          rintro _ _ C a hS
          refine wl_nil (by kernel_rfl) ?_
          refine q_then ?_
          refine c_seq (by kernel_rfl) ?_
          refine c_seq (by kernel_rfl) ?_
          refine c_region (by kernel_rfl) ?_
          refine wl_pures (j := 2) hS 2 [0, 1, 2, 7, 8, 9, 22, 23] (m' := [(0, v_0), (1, .int .i64 x11), (2, .int .i64 x12), (7, v4), (8, .int .i64 x13), (9, .pointer (some ⟨b1, 0, none⟩)), (22, .int .i64 x11), (23, .pointer (some ⟨b1, 1, none⟩))]) (by kernel_rfl) (by kernel_rfl) fun a hS => ?_
          refine wl_val (d := (some 24)) (op := (Op.load 3 (Operand.tmp 23))) (g := none) hS (by kernel_rfl) (by kernel_rfl) (r_ldb (li := 1) (off := 1) (u := .int .i64 ((F_Run.at_ p0 x13).f_N)) C rfl (by kernel_rfl) (by kernel_rfl) (by kernel_rfl)) fun a hS => ?_
          refine wl_pures (j := 4) hS 1 [0, 1, 2, 7, 8, 9, 25] (m' := [(0, v_0), (1, .int .i64 x11), (2, .int .i64 x12), (7, v4), (8, .int .i64 x13), (9, .pointer (some ⟨b1, 0, none⟩)), (25, .bool (decide (x11 ≥ ((F_Run.at_ p0 x13).f_N))))]) (by kernel_rfl) (by kernel_rfl) fun a hS => ?_
          refine wl_nil (by kernel_rfl) ?_
          refine q_then ?_
          refine c_if (b := (decide (x11 ≥ ((F_Run.at_ p0 x13).f_N)))) hS (by kernel_rfl) (by kernel_rfl) (fun hb => ?_) (fun hb => ?_)
          · have hf := opt_t hb hf
            refine c_seq (by kernel_rfl) ?_
            refine c_region (by kernel_rfl) ?_
            refine wl_pures (j := 2) hS 2 [0, 1, 2, 7, 8, 26, 27] (m' := [(0, v_0), (1, .int .i64 x11), (2, .int .i64 x12), (7, v4), (8, .int .i64 x13), (26, .int .i64 x11), (27, .pointer (some ⟨b1, 1, none⟩))]) (by kernel_rfl) (by kernel_rfl) fun a hS => ?_
            refine wl_val (d := (some 28)) (op := (Op.load 3 (Operand.tmp 27))) (g := none) hS (by kernel_rfl) (by kernel_rfl) (r_ldb (li := 1) (off := 1) (u := .int .i64 ((F_Run.at_ p0 x13).f_N)) C rfl (by kernel_rfl) (by kernel_rfl) (by kernel_rfl)) fun a hS => ?_
            refine wl_pures (j := 5) hS 2 [0, 1, 2, 7, 8] (m' := [(0, v_0), (1, .int .i64 (W64 (x11 - ((F_Run.at_ p0 x13).f_N)))), (2, .int .i64 x12), (7, v4), (8, .int .i64 x13)]) (by kernel_rfl) (by kernel_rfl) fun a hS => ?_
            refine wl_nil (by kernel_rfl) ?_
            refine q_then ?_
            refine c_exit (i := 1) (by kernel_rfl) ?_
            refine q_thenx ?_
            refine q_inx ?_
            exact q_then ⟨(W64 (x11 - ((F_Run.at_ p0 x13).f_N))), x12, l4, v4, hf, hS.keep [0, 1, 2, 7, 8] (by kernel_rfl), ctx_pick [0] [0] C (by kernel_rfl) rfl rfl⟩
          · have hf := opt_f hb hf
            refine c_skip (by kernel_rfl) ?_
            refine q_then ?_
            refine c_seq (by kernel_rfl) ?_
            refine c_region (by kernel_rfl) ?_
            refine wl_pures (j := 1) hS 1 [0, 1, 2, 7, 8, 9, 30] (m' := [(0, v_0), (1, .int .i64 x11), (2, .int .i64 x12), (7, v4), (8, .int .i64 x13), (9, .pointer (some ⟨b1, 0, none⟩)), (30, .pointer (some ⟨b1, 0, none⟩))]) (by kernel_rfl) (by kernel_rfl) fun a hS => ?_
            refine wl_val (d := (some 31)) (op := (Op.load 3 (Operand.tmp 30))) (g := none) hS (by kernel_rfl) (by kernel_rfl) (r_ldb (li := 1) (off := 0) (u := .int .i64 ((F_Run.at_ p0 x13).f_At)) C rfl (by kernel_rfl) (by kernel_rfl) (by kernel_rfl)) fun a hS => ?_
            refine wl_pures (j := 5) hS 3 [0, 1, 2, 7, 8, 9, 33, 34] (m' := [(0, v_0), (1, .int .i64 x11), (2, .int .i64 x12), (7, v4), (8, .int .i64 x13), (9, .pointer (some ⟨b1, 0, none⟩)), (33, .int .i64 (W64 (((F_Run.at_ p0 x13).f_At) + x11))), (34, .pointer (some ⟨b1, 0, none⟩))]) (by kernel_rfl) (by kernel_rfl) fun a hS => ?_
            refine wl_eff (d := none) (op := (Op.store 3 (Operand.tmp 34) (Operand.tmp 33))) (g := none) hS (by kernel_rfl) (by kernel_rfl) (eff_stb (li := 1) (off := 0) (us := [.int .i64 (W64 (((F_Run.at_ p0 x13).f_At) + x11))]) (cs' := [.int .i64 (W64 (((F_Run.at_ p0 x13).f_At) + x11)), .int .i64 ((F_Run.at_ p0 x13).f_N)]) C rfl (by kernel_rfl) (by kernel_rfl) (by kernel_rfl) (by simp) (by kernel_rfl) (by kernel_rfl)) ?_
            rintro _ _ C a hS
            refine wl_nil (by kernel_rfl) ?_
            refine q_then ?_
            refine c_seq (by kernel_rfl) ?_
            refine c_region (by kernel_rfl) ?_
            refine wl_pures (j := 1) hS 1 [0, 1, 2, 7, 8, 9, 35] (m' := [(0, v_0), (1, .int .i64 x11), (2, .int .i64 x12), (7, v4), (8, .int .i64 x13), (9, .pointer (some ⟨b1, 0, none⟩)), (35, .pointer (some ⟨b1, 1, none⟩))]) (by kernel_rfl) (by kernel_rfl) fun a hS => ?_
            refine wl_val (d := (some 36)) (op := (Op.load 3 (Operand.tmp 35))) (g := none) hS (by kernel_rfl) (by kernel_rfl) (r_ldb (li := 1) (off := 1) (u := .int .i64 ((F_Run.at_ p0 x13).f_N)) C rfl (by kernel_rfl) (by kernel_rfl) (by kernel_rfl)) fun a hS => ?_
            refine wl_pures (j := 5) hS 3 [0, 2, 7, 8, 9, 38, 39] (m' := [(0, v_0), (2, .int .i64 x12), (7, v4), (8, .int .i64 x13), (9, .pointer (some ⟨b1, 0, none⟩)), (38, .int .i64 (W64 (((F_Run.at_ p0 x13).f_N) - x11))), (39, .pointer (some ⟨b1, 1, none⟩))]) (by kernel_rfl) (by kernel_rfl) fun a hS => ?_
            refine wl_eff (d := none) (op := (Op.store 3 (Operand.tmp 39) (Operand.tmp 38))) (g := none) hS (by kernel_rfl) (by kernel_rfl) (eff_stb (li := 1) (off := 1) (us := [.int .i64 (W64 (((F_Run.at_ p0 x13).f_N) - x11))]) (cs' := [.int .i64 (W64 (((F_Run.at_ p0 x13).f_At) + x11)), .int .i64 (W64 (((F_Run.at_ p0 x13).f_N) - x11))]) C rfl (by kernel_rfl) (by kernel_rfl) (by kernel_rfl) (by simp) (by kernel_rfl) (by kernel_rfl)) ?_
            rintro _ _ C a hS
            refine wl_nil (by kernel_rfl) ?_
            refine q_then ?_
            refine c_seq (by kernel_rfl) ?_
            refine c_region (by kernel_rfl) ?_
            refine wl_pures (j := 1) hS 1 [0, 1, 2, 7, 8, 9] (m' := [(0, v_0), (1, .int .i64 0), (2, .int .i64 x12), (7, v4), (8, .int .i64 x13), (9, .pointer (some ⟨b1, 0, none⟩))]) (by kernel_rfl) (by kernel_rfl) fun a hS => ?_
            refine wl_nil (by kernel_rfl) ?_
            refine q_then ?_
            refine c_join (by kernel_rfl) (fun a w => ∃ b2 : Nat, ∃ x16 : Int, scriniumref06_Rest.j2 p0 x11 x12 l4 x13 (scriniumref06_Rest.l1 p0 kk1) x16 = some res ∧ Sl 59 [(0, v_0), (1, .int .i64 0), (2, .int .i64 x12), (7, v4), (8, .int .i64 x13), (9, .pointer (some ⟨b2, 0, none⟩))] a ∧ Ctx w0 nob A0 [rowE v4 24 2 l4.length (l4.flatMap F_Run.cells), boxE b2 24 [.int .i64 (W64 (((F_Run.at_ p0 x13).f_At) + x11)), .int .i64 x16]] [rdE v_0 p0.length 2 (p0.flatMap F_Run.cells)] w) ?_ ?_
            · rintro a w ⟨b2, x16, hf, hS, C⟩
              rw [scriniumref06_Rest.j2] at hf
              refine c_seq (by kernel_rfl) ?_
              refine c_seq (by kernel_rfl) ?_
              refine c_region (by kernel_rfl) ?_
              refine wl_pures (j := 1) hS 1 [0, 1, 2, 7, 8, 9, 46] (m' := [(0, v_0), (1, .int .i64 0), (2, .int .i64 x12), (7, v4), (8, .int .i64 x13), (9, .pointer (some ⟨b2, 0, none⟩)), (46, .pointer (some ⟨b2, 1, none⟩))]) (by kernel_rfl) (by kernel_rfl) fun a hS => ?_
              refine wl_val (d := (some 47)) (op := (Op.load 3 (Operand.tmp 46))) (g := none) hS (by kernel_rfl) (by kernel_rfl) (r_ldb (li := 1) (off := 1) (u := .int .i64 x16) C rfl (by kernel_rfl) (by kernel_rfl) (by kernel_rfl)) fun a hS => ?_
              refine wl_pures (j := 3) hS 1 [0, 1, 2, 7, 8, 9, 48] (m' := [(0, v_0), (1, .int .i64 0), (2, .int .i64 x12), (7, v4), (8, .int .i64 x13), (9, .pointer (some ⟨b2, 0, none⟩)), (48, .bool (decide (x16 < 1)))]) (by kernel_rfl) (by kernel_rfl) fun a hS => ?_
              refine wl_nil (by kernel_rfl) ?_
              refine q_then ?_
              refine c_if (b := (decide (x16 < 1))) hS (by kernel_rfl) (by kernel_rfl) (fun hb => ?_) (fun hb => ?_)
              · have hf := opt_t hb hf
                refine c_seq (by kernel_rfl) ?_
                refine c_region (by kernel_rfl) ?_
                refine wl_pures (j := 2) hS 2 [6] (m' := [(6, v4)]) (by kernel_rfl) (by kernel_rfl) fun a hS => ?_
                refine wl_nil (by kernel_rfl) ?_
                refine q_then ?_
                refine c_ret (by kernel_rfl) ?_
                refine q_thenr ?_
                refine q_inr ?_
                refine q_thenr ?_
                refine q_thenr ?_
                refine q_inr ?_
                refine q_thenr ?_
                refine q_ret hS (vs := [v4]) (by kernel_rfl) ?_
                obtain rfl := Option.some.inj hf
                exact ⟨_, rfl, C.fr, ret_own (li := 0) C rfl rfl⟩
              · have hf := opt_f hb hf
                refine c_skip (by kernel_rfl) ?_
                refine q_then ?_
                refine c_seq (by kernel_rfl) ?_
                refine c_region (by kernel_rfl) ?_
                refine wl_pures (j := 1) hS 1 [0, 1, 2, 7, 8, 9, 50] (m' := [(0, v_0), (1, .int .i64 0), (2, .int .i64 x12), (7, v4), (8, .int .i64 x13), (9, .pointer (some ⟨b2, 0, none⟩)), (50, v4)]) (by kernel_rfl) (by kernel_rfl) fun a hS => ?_
                refine wl_val (d := (some 51)) (op := (Op.load 24 (Operand.tmp 9))) (g := none) hS (by kernel_rfl) (by kernel_rfl) (r_ldbs (li := 1) (off := 0) (seg := [.int .i64 (W64 (((F_Run.at_ p0 x13).f_At) + x11)), .int .i64 x16]) C rfl (by kernel_rfl) (by kernel_rfl) (by kernel_rfl)) fun a hS => ?_
                refine wl_eff (d := (some 52)) (op := (Op.buildSlice 22 1 #[(0, (Operand.tmp 51))])) (g := none) hS (by kernel_rfl) (by kernel_rfl) (eff_slit (e := 24) (sz := 2) (cs := [.int .i64 (W64 (((F_Run.at_ p0 x13).f_At) + x11)), .int .i64 x16]) C (by kernel_rfl) (by kernel_rfl) (by decide)) ?_
                rintro v6 _ ⟨-, C⟩ a hS
                have C := ctx_relist (li := 2) (F := F_Run) (l := [(⟨(W64 (((F_Run.at_ p0 x13).f_At) + x11)), x16⟩ : S_Run)]) C rfl rfl rfl
                obtain ⟨hl1, hf⟩ := ite_some hf
                refine wl_eff (d := (some 53)) (op := (Op.call { callee := (Callee.builtin Builtin.append), args := #[(Operand.tmp 50), (Operand.tmp 52)], argTypes := #[22, 22] })) (g := none) hS (by kernel_rfl) (by kernel_rfl) (eff_append (li := 0) (n := l4.length) (m := ([(⟨(W64 (((F_Run.at_ p0 x13).f_At) + x11)), x16⟩ : S_Run)]).length) (sz := 2) (bytes := 16) (z := (.agg #[.int .i64 0, .int .i64 0])) C rfl (by kernel_rfl) (by kernel_rfl) (rds_of_row (C.okL 2 _ rfl)) (all_one (flat_all _ _)) (by kernel_rfl) rfl (by decide) hl1 (by decide)) ?_
                rintro v7 _ C a hS
                have C := ctx_relist (li := 0) (F := F_Run) (l := (l4 ++ [(⟨(W64 (((F_Run.at_ p0 x13).f_At) + x11)), x16⟩ : S_Run)])) C rfl (by simp only [List.length_append, List.length_set]) List.flatMap_append.symm
                refine wl_pures (j := 5) hS 1 [0, 1, 2, 7, 8, 9] (m' := [(0, v_0), (1, .int .i64 0), (2, .int .i64 x12), (7, v7), (8, .int .i64 x13), (9, .pointer (some ⟨b2, 0, none⟩))]) (by kernel_rfl) (by kernel_rfl) fun a hS => ?_
                refine wl_nil (by kernel_rfl) ?_
                refine q_then ?_
                refine c_region (by kernel_rfl) ?_
                refine wl_pures (j := 2) hS 2 [0, 1, 2, 7, 8, 54, 55] (m' := [(0, v_0), (1, .int .i64 0), (2, .int .i64 x12), (7, v7), (8, .int .i64 x13), (54, .int .i64 x12), (55, .pointer (some ⟨b2, 1, none⟩))]) (by kernel_rfl) (by kernel_rfl) fun a hS => ?_
                refine wl_val (d := (some 56)) (op := (Op.load 3 (Operand.tmp 55))) (g := none) hS (by kernel_rfl) (by kernel_rfl) (r_ldb (li := 1) (off := 1) (u := .int .i64 x16) C rfl (by kernel_rfl) (by kernel_rfl) (by kernel_rfl)) fun a hS => ?_
                refine wl_pures (j := 5) hS 2 [0, 1, 2, 7, 8] (m' := [(0, v_0), (1, .int .i64 0), (2, .int .i64 (W64 (x12 - x16))), (7, v7), (8, .int .i64 x13)]) (by kernel_rfl) (by kernel_rfl) fun a hS => ?_
                refine wl_nil (by kernel_rfl) ?_
                refine q_in ?_
                exact q_then ⟨0, (W64 (x12 - x16)), (l4 ++ [(⟨(W64 (((F_Run.at_ p0 x13).f_At) + x11)), x16⟩ : S_Run)]), v7, hf, hS.keep [0, 1, 2, 7, 8] (by kernel_rfl), ctx_pick [0] [0] C (by kernel_rfl) rfl rfl⟩
            · refine c_seq (by kernel_rfl) ?_
              refine c_region (by kernel_rfl) ?_
              refine wl_pures (j := 1) hS 1 [0, 1, 2, 7, 8, 9, 40] (m' := [(0, v_0), (1, .int .i64 0), (2, .int .i64 x12), (7, v4), (8, .int .i64 x13), (9, .pointer (some ⟨b1, 0, none⟩)), (40, .pointer (some ⟨b1, 1, none⟩))]) (by kernel_rfl) (by kernel_rfl) fun a hS => ?_
              refine wl_val (d := (some 41)) (op := (Op.load 3 (Operand.tmp 40))) (g := none) hS (by kernel_rfl) (by kernel_rfl) (r_ldb (li := 1) (off := 1) (u := .int .i64 (W64 (((F_Run.at_ p0 x13).f_N) - x11))) C rfl (by kernel_rfl) (by kernel_rfl) (by kernel_rfl)) fun a hS => ?_
              refine wl_pures (j := 4) hS 2 [0, 1, 2, 7, 8, 9, 43] (m' := [(0, v_0), (1, .int .i64 0), (2, .int .i64 x12), (7, v4), (8, .int .i64 x13), (9, .pointer (some ⟨b1, 0, none⟩)), (43, .bool (decide ((W64 (((F_Run.at_ p0 x13).f_N) - x11)) > x12)))]) (by kernel_rfl) (by kernel_rfl) fun a hS => ?_
              refine wl_nil (by kernel_rfl) ?_
              refine q_then ?_
              refine c_if (b := (decide ((W64 (((F_Run.at_ p0 x13).f_N) - x11)) > x12))) hS (by kernel_rfl) (by kernel_rfl) (fun hb => ?_) (fun hb => ?_)
              · have hf := opt_t hb hf
                refine c_region (by kernel_rfl) ?_
                refine wl_pures (j := 2) hS 2 [0, 1, 2, 7, 8, 9, 44, 45] (m' := [(0, v_0), (1, .int .i64 0), (2, .int .i64 x12), (7, v4), (8, .int .i64 x13), (9, .pointer (some ⟨b1, 0, none⟩)), (44, .int .i64 x12), (45, .pointer (some ⟨b1, 1, none⟩))]) (by kernel_rfl) (by kernel_rfl) fun a hS => ?_
                refine wl_eff (d := none) (op := (Op.store 3 (Operand.tmp 45) (Operand.tmp 44))) (g := none) hS (by kernel_rfl) (by kernel_rfl) (eff_stb (li := 1) (off := 1) (us := [.int .i64 x12]) (cs' := [.int .i64 (W64 (((F_Run.at_ p0 x13).f_At) + x11)), .int .i64 x12]) C rfl (by kernel_rfl) (by kernel_rfl) (by kernel_rfl) (by simp) (by kernel_rfl) (by kernel_rfl)) ?_
                rintro _ _ C a hS
                refine wl_nil (by kernel_rfl) ?_
                exact q_then ⟨b1, x12, hf, hS.keep [0, 1, 2, 7, 8, 9] (by kernel_rfl), ctx_pick [0, 1] [0] C (by kernel_rfl) rfl rfl⟩
              · have hf := opt_f hb hf
                refine c_skip (by kernel_rfl) ?_
                exact q_then ⟨b1, (W64 (((F_Run.at_ p0 x13).f_N) - x11)), hf, hS.keep [0, 1, 2, 7, 8, 9] (by kernel_rfl), ctx_pick [0, 1] [0] C (by kernel_rfl) rfl rfl⟩
      · have hf := opt_f hb hf
        refine c_exit (i := 0) (by kernel_rfl) ?_
        refine q_thenx ?_
        refine q_thenx ?_
        refine q_inx ?_
        refine q_then ?_
        refine c_seq (by kernel_rfl) ?_
        refine c_region (by kernel_rfl) ?_
        refine wl_pures (j := 2) hS 2 [6] (m' := [(6, v4)]) (by kernel_rfl) (by kernel_rfl) fun a hS => ?_
        refine wl_nil (by kernel_rfl) ?_
        refine q_then ?_
        refine c_ret (by kernel_rfl) ?_
        refine q_ret hS (vs := [v4]) (by kernel_rfl) ?_
        obtain rfl := Option.some.inj hf
        exact ⟨_, rfl, C.fr, ret_own (li := 0) C rfl rfl⟩
  · refine c_seq (by kernel_rfl) ?_
    refine c_region (by kernel_rfl) ?_
    refine wl_pures (j := 2) hS 2 [0, 1, 2, 11] (m' := [(0, v_0), (1, .int .i64 p1), (2, .int .i64 p2), (11, .bool (decide (p1 < 0)))]) (by kernel_rfl) (by kernel_rfl) fun a hS => ?_
    refine wl_nil (by kernel_rfl) ?_
    refine q_then ?_
    refine c_if (b := (decide (p1 < 0))) hS (by kernel_rfl) (by kernel_rfl) (fun hb => ?_) (fun hb => ?_)
    · have hf := opt_t hb hf
      refine c_region (by kernel_rfl) ?_
      refine wl_pures (j := 1) hS 1 [0, 1, 2] (m' := [(0, v_0), (1, .int .i64 0), (2, .int .i64 p2)]) (by kernel_rfl) (by kernel_rfl) fun a hS => ?_
      refine wl_nil (by kernel_rfl) ?_
      exact q_then ⟨0, hf, hS.keep [0, 1, 2] (by kernel_rfl), ctx_pick [] [0] C (by kernel_rfl) rfl rfl⟩
    · have hf := opt_f hb hf
      refine c_skip (by kernel_rfl) ?_
      exact q_then ⟨p1, hf, hS.keep [0, 1, 2] (by kernel_rfl), ctx_pick [] [0] C (by kernel_rfl) rfl rfl⟩

def scriniumref06_Cut.j1 (k : Nat) (p0 : (List S_Run)) (x1 : Int) : Option ((List S_Run) × (List S_Run)) := ((scriniumref06_Rest.f k p0 0 x1).bind fun t1 => ((scriniumref06_Rest.f k p0 x1 1125899906842624).bind fun t2 => (some (t1, t2))))
def scriniumref06_Cut.f (k : Nat) (p0 : (List S_Run)) (p1 : Int) : Option ((List S_Run) × (List S_Run)) := (if (decide (p1 < 0)) = true then scriniumref06_Cut.j1 k p0 0 else scriniumref06_Cut.j1 k p0 p1)
theorem scriniumref06_Cut_ok (k : Nat) (w0 : World) (p0 : (List S_Run)) (p1 : Int) (v_0 : Value) (h_0 : Rds v_0 p0.length 2 (p0.flatMap F_Run.cells) w0) (res : ((List S_Run) × (List S_Run))) (hf : scriniumref06_Cut.f k p0 p1 = some res) :
    Fn Try.prog 28 [v_0, .int .i64 p1] w0 (fun v w' => ∃ u0 : Value, ∃ u1 : Value, v = .tuple #[u0, u1] ∧ Fr nob w0 w' ∧ Lies w0 nob F_Run u0 res.1 w' ∧ Lies w0 nob F_Run u1 res.2 w') := by
  have C := ctx_start w0 [rdE v_0 p0.length 2 (p0.flatMap F_Run.cells)] (start1 h_0)
  generalize allDom [rdE v_0 p0.length 2 (p0.flatMap F_Run.cells)] = A0 at C
  refine f_enter (fn := Try.f28) (k := 12) rfl rfl rfl fun a hS => ?_
  have hS : Sl 14 [(0, v_0), (1, .int .i64 p1)] a := hS
  rw [scriniumref06_Cut.f] at hf
  refine c_seq (by kernel_rfl) ?_
  refine c_region (by kernel_rfl) ?_
  refine wl_pures (j := 2) hS 2 [0, 1] (m' := [(0, v_0), (1, .int .i64 p1)]) (by kernel_rfl) (by kernel_rfl) fun a hS => ?_
  refine wl_nil (by kernel_rfl) ?_
  refine q_then ?_
  refine c_join (by kernel_rfl) (fun a w => ∃ x1 : Int, scriniumref06_Cut.j1 k p0 x1 = some res ∧ Sl 14 [(0, v_0), (1, .int .i64 x1)] a ∧ Ctx w0 nob A0 [] [rdE v_0 p0.length 2 (p0.flatMap F_Run.cells)] w) ?_ ?_
  · rintro a w ⟨x1, hf, hS, C⟩
    rw [scriniumref06_Cut.j1] at hf
    refine c_seq (by kernel_rfl) ?_
    refine c_region (by kernel_rfl) ?_
    refine wl_pures (j := 2) hS 2 [0, 1, 8, 9] (m' := [(0, v_0), (1, .int .i64 x1), (8, v_0), (9, .int .i64 x1)]) (by kernel_rfl) (by kernel_rfl) fun a hS => ?_
    obtain ⟨t1, ht1, hf⟩ := bind_some hf
    refine wl_eff (d := (some 10)) (op := (Op.call { callee := (Callee.value (Operand.func 24)), args := #[(Operand.tmp 8), (Operand.const (Value.int IntKind.i64 0)), (Operand.tmp 9)], argTypes := #[22, 3, 3] })) (g := none) hS (by kernel_rfl) (by kernel_rfl) (eff_fn (by kernel_rfl) rfl (by kernel_rfl) (scriniumref06_Rest_ok k _ p0 0 x1 v_0 (C.okR 0 _ rfl) t1 ht1)) ?_
    rintro v1 _ ⟨hw, hr1⟩ a hS
    have C := got_own C hw hr1
    refine wl_pures (j := 5) hS 2 [10, 11, 12] (m' := [(10, v1), (11, v_0), (12, .int .i64 x1)]) (by kernel_rfl) (by kernel_rfl) fun a hS => ?_
    obtain ⟨t2, ht2, hf⟩ := bind_some hf
    refine wl_eff (d := (some 13)) (op := (Op.call { callee := (Callee.value (Operand.func 24)), args := #[(Operand.tmp 11), (Operand.tmp 12), (Operand.const (Value.int IntKind.i64 1125899906842624))], argTypes := #[22, 3, 3] })) (g := none) hS (by kernel_rfl) (by kernel_rfl) (eff_fn (by kernel_rfl) rfl (by kernel_rfl) (scriniumref06_Rest_ok k _ p0 x1 1125899906842624 v_0 (C.okR 0 _ rfl) t2 ht2)) ?_
    rintro v2 _ ⟨hw, hr2⟩ a hS
    have C := got_own C hw hr2
    refine wl_pures (j := 8) hS 2 [4, 5] (m' := [(4, v1), (5, v2)]) (by kernel_rfl) (by kernel_rfl) fun a hS => ?_
    refine wl_nil (by kernel_rfl) ?_
    refine q_then ?_
    refine c_ret (by kernel_rfl) ?_
    refine q_ret hS (vs := [v1, v2]) (by kernel_rfl) ?_
    obtain rfl := Option.some.inj hf
    exact ⟨_, rfl, v1, v2, rfl, C.fr, own_lies (e := 24) (ret_own (li := 0) C rfl rfl), own_lies (e := 24) (ret_own (li := 1) C rfl rfl)⟩
  · refine c_seq (by kernel_rfl) ?_
    refine c_region (by kernel_rfl) ?_
    refine wl_pures (j := 2) hS 2 [0, 1, 7] (m' := [(0, v_0), (1, .int .i64 p1), (7, .bool (decide (p1 < 0)))]) (by kernel_rfl) (by kernel_rfl) fun a hS => ?_
    refine wl_nil (by kernel_rfl) ?_
    refine q_then ?_
    refine c_if (b := (decide (p1 < 0))) hS (by kernel_rfl) (by kernel_rfl) (fun hb => ?_) (fun hb => ?_)
    · have hf := opt_t hb hf
      refine c_region (by kernel_rfl) ?_
      refine wl_pures (j := 1) hS 1 [0, 1] (m' := [(0, v_0), (1, .int .i64 0)]) (by kernel_rfl) (by kernel_rfl) fun a hS => ?_
      refine wl_nil (by kernel_rfl) ?_
      exact q_then ⟨0, hf, hS.keep [0, 1] (by kernel_rfl), ctx_pick [] [0] C (by kernel_rfl) rfl rfl⟩
    · have hf := opt_f hb hf
      refine c_skip (by kernel_rfl) ?_
      exact q_then ⟨p1, hf, hS.keep [0, 1] (by kernel_rfl), ctx_pick [] [0] C (by kernel_rfl) rfl rfl⟩

def scriniumref06_Take.j1 (k : Nat) (p0 : (List S_Run)) (p1 : Int) (x1 : Bool) : Option ((List S_Run) × (List S_Run) × Bool) := (if x1 = true then (some ([], p0, false)) else ((scriniumref06_Cut.f k p0 p1).bind fun t1 => (some (t1.1, t1.2, true))))
def scriniumref06_Take.f (k : Nat) (p0 : (List S_Run)) (p1 : Int) : Option ((List S_Run) × (List S_Run) × Bool) := ((scriniumref06_Check.f k p0).bind fun t2 => (if (t2 != 0) = true then scriniumref06_Take.j1 k p0 p1 true else (if (decide (p1 < 0)) = true then scriniumref06_Take.j1 k p0 p1 true else ((scriniumref06_Total.f k p0).bind fun t3 => scriniumref06_Take.j1 k p0 p1 (decide (t3 < p1))))))
theorem scriniumref06_Take_ok (k : Nat) (w0 : World) (p0 : (List S_Run)) (p1 : Int) (v_0 : Value) (h_0 : Rds v_0 p0.length 2 (p0.flatMap F_Run.cells) w0) (res : ((List S_Run) × (List S_Run) × Bool)) (hf : scriniumref06_Take.f k p0 p1 = some res) :
    Fn Try.prog 13 [v_0, .int .i64 p1] w0 (fun v w' => ∃ u0 : Value, ∃ u1 : Value, v = .tuple #[u0, u1, .bool res.2.2] ∧ Fr nob w0 w' ∧ Lies w0 (allDom [rdE v_0 p0.length 2 (p0.flatMap F_Run.cells)]) F_Run u0 res.1 w' ∧ Lies w0 (allDom [rdE v_0 p0.length 2 (p0.flatMap F_Run.cells)]) F_Run u1 res.2.1 w') := by
  have C := ctx_start w0 [rdE v_0 p0.length 2 (p0.flatMap F_Run.cells)] (start1 h_0)
  generalize allDom [rdE v_0 p0.length 2 (p0.flatMap F_Run.cells)] = A0 at C
  refine f_enter (fn := Try.f13) (k := 29) rfl rfl rfl fun a hS => ?_
  have hS : Sl 31 [(0, v_0), (1, .int .i64 p1)] a := hS
  rw [scriniumref06_Take.f] at hf
  refine c_seq (by kernel_rfl) ?_
  refine c_region (by kernel_rfl) ?_
  refine wl_pures (j := 3) hS 3 [0, 1] (m' := [(0, v_0), (1, .int .i64 p1)]) (by kernel_rfl) (by kernel_rfl) fun a hS => ?_
  refine wl_nil (by kernel_rfl) ?_
  refine q_then ?_
  refine c_seq (by kernel_rfl) ?_
  refine c_join (by kernel_rfl) (fun a w => ∃ x1 : Bool, scriniumref06_Take.j1 k p0 p1 x1 = some res ∧ Sl 31 [(0, v_0), (1, .int .i64 p1), (21, .bool x1)] a ∧ Ctx w0 nob A0 [] [rdE v_0 p0.length 2 (p0.flatMap F_Run.cells)] w) ?_ ?_
  · rintro a w ⟨x1, hf, hS, C⟩
    rw [scriniumref06_Take.j1] at hf
    refine c_if (b := x1) hS (by kernel_rfl) (by kernel_rfl) (fun hb => ?_) (fun hb => ?_)
    · have hf := opt_t hb hf
      refine c_seq (by kernel_rfl) ?_
      refine c_region (by kernel_rfl) ?_
      refine wl_pures (j := 4) hS 4 [4, 5, 6] (m' := [(4, (.slice none 0 0)), (5, v_0), (6, .bool false)]) (by kernel_rfl) (by kernel_rfl) fun a hS => ?_
      refine wl_nil (by kernel_rfl) ?_
      refine q_then ?_
      refine c_ret (by kernel_rfl) ?_
      refine q_thenr ?_
      refine q_ret hS (vs := [(.slice none 0 0), v_0, .bool false]) (by kernel_rfl) ?_
      obtain rfl := Option.some.inj hf
      exact ⟨_, rfl, (.slice none 0 0), v_0, rfl, C.fr, own_lies (e := 24) (ret_nil _ _), ret_lies (ri := 0) C rfl rfl⟩
    · have hf := opt_f hb hf
      refine c_skip (by kernel_rfl) ?_
      refine q_then ?_
      refine c_seq (by kernel_rfl) ?_
      refine c_region (by kernel_rfl) ?_
      refine wl_pures (j := 2) hS 2 [24, 25] (m' := [(24, v_0), (25, .int .i64 p1)]) (by kernel_rfl) (by kernel_rfl) fun a hS => ?_
      obtain ⟨t1, ht1, hf⟩ := bind_some hf
      refine wl_eff (d := (some 26)) (op := (Op.call { callee := (Callee.value (Operand.func 28)), args := #[(Operand.tmp 24), (Operand.tmp 25)], argTypes := #[22, 3] })) (g := none) hS (by kernel_rfl) (by kernel_rfl) (eff_fn (by kernel_rfl) rfl (by kernel_rfl) (scriniumref06_Cut_ok k _ p0 p1 v_0 (C.okR 0 _ rfl) t1 ht1)) ?_
      rintro _ _ ⟨v1, v2, rfl, hw, hr1, hr2⟩ a hS
      have CC := C
      have C := got_lies C hw hr1 (fun _ h => h.elim)
      have C := got_more CC C hw hr2 (fun _ h => h.elim)
      refine wl_pures (j := 8) hS 5 [7, 8] (m' := [(7, v1), (8, v2)]) (by kernel_rfl) (by kernel_rfl) fun a hS => ?_
      refine wl_nil (by kernel_rfl) ?_
      refine q_then ?_
      refine c_seq (by kernel_rfl) ?_
      refine c_region (by kernel_rfl) ?_
      refine wl_pures (j := 5) hS 5 [4, 5, 6] (m' := [(4, v1), (5, v2), (6, .bool true)]) (by kernel_rfl) (by kernel_rfl) fun a hS => ?_
      refine wl_nil (by kernel_rfl) ?_
      refine q_then ?_
      refine c_ret (by kernel_rfl) ?_
      refine q_ret hS (vs := [v1, v2, .bool true]) (by kernel_rfl) ?_
      obtain rfl := Option.some.inj hf
      exact ⟨_, rfl, v1, v2, rfl, C.fr, ret_lies (ri := 1) C rfl rfl, ret_lies (ri := 2) C rfl rfl⟩
  · refine c_region (by kernel_rfl) ?_
    refine wl_pures (j := 1) hS 1 [0, 1, 9] (m' := [(0, v_0), (1, .int .i64 p1), (9, v_0)]) (by kernel_rfl) (by kernel_rfl) fun a hS => ?_
    obtain ⟨t2, ht2, hf⟩ := bind_some hf
    refine wl_eff (d := (some 10)) (op := (Op.call { callee := (Callee.value (Operand.func 29)), args := #[(Operand.tmp 9)], argTypes := #[22] })) (g := none) hS (by kernel_rfl) (by kernel_rfl) (eff_fn (by kernel_rfl) rfl (by kernel_rfl) (scriniumref06_Check_ok k _ p0 v_0 (C.okR 0 _ rfl) t2 ht2)) ?_
    rintro _ _ ⟨rfl, hw⟩ a hS
    have C := ctx_still C hw
    refine wl_pures (j := 4) hS 2 [0, 1, 12] (m' := [(0, v_0), (1, .int .i64 p1), (12, .bool (t2 != 0))]) (by kernel_rfl) (by kernel_rfl) fun a hS => ?_
    rcases Bool.eq_false_or_eq_true (t2 != 0) with hb | hb
    · rw [hb] at hS
      have hf := opt_t hb hf
      refine wl_pures (j := 13) hS 9 [0, 1, 21] (m' := [(0, v_0), (1, .int .i64 p1), (21, .bool true)]) (by kernel_rfl) (by kernel_rfl) fun a hS => ?_
      refine wl_nil (by kernel_rfl) ?_
      exact q_then ⟨true, hf, hS.keep [0, 1, 21] (by kernel_rfl), ctx_pick [] [0] C (by kernel_rfl) rfl rfl⟩
    · rw [hb] at hS
      have hf := opt_f hb hf
      refine wl_pures (j := 8) hS 4 [0, 1, 16] (m' := [(0, v_0), (1, .int .i64 p1), (16, .bool (decide (p1 < 0)))]) (by kernel_rfl) (by kernel_rfl) fun a hS => ?_
      rcases Bool.eq_false_or_eq_true (decide (p1 < 0)) with hb | hb
      · rw [hb] at hS
        have hf := opt_t hb hf
        refine wl_pures (j := 13) hS 5 [0, 1, 21] (m' := [(0, v_0), (1, .int .i64 p1), (21, .bool true)]) (by kernel_rfl) (by kernel_rfl) fun a hS => ?_
        refine wl_nil (by kernel_rfl) ?_
        exact q_then ⟨true, hf, hS.keep [0, 1, 21] (by kernel_rfl), ctx_pick [] [0] C (by kernel_rfl) rfl rfl⟩
      · rw [hb] at hS
        have hf := opt_f hb hf
        refine wl_pures (j := 9) hS 1 [0, 1, 16, 17] (m' := [(0, v_0), (1, .int .i64 p1), (16, .bool false), (17, v_0)]) (by kernel_rfl) (by kernel_rfl) fun a hS => ?_
        obtain ⟨t3, ht3, hf⟩ := bind_some hf
        refine wl_eff (d := (some 18)) (op := (Op.call { callee := (Callee.value (Operand.func 30)), args := #[(Operand.tmp 17)], argTypes := #[22] })) (g := (some (7, false))) hS (by kernel_rfl) (by kernel_rfl) (eff_fn (by kernel_rfl) rfl (by kernel_rfl) (scriniumref06_Total_ok k _ p0 v_0 (C.okR 0 _ rfl) t3 ht3)) ?_
        rintro _ _ ⟨rfl, hw⟩ a hS
        have C := ctx_still C hw
        refine wl_pures (j := 13) hS 3 [0, 1, 21] (m' := [(0, v_0), (1, .int .i64 p1), (21, .bool (decide (t3 < p1)))]) (by kernel_rfl) (by kernel_rfl) fun a hS => ?_
        refine wl_nil (by kernel_rfl) ?_
        exact q_then ⟨(decide (t3 < p1)), hf, hS.keep [0, 1, 21] (by kernel_rfl), ctx_pick [] [0] C (by kernel_rfl) rfl rfl⟩

def scriniumref06_Same.l1 (p0 : (List S_Run)) (p1 : (List S_Run)) : Nat → Int → Option Bool
  | 0, _ => none
  | kk1 + 1, x4 => (if (decide (x4 < (p0.length : Int))) = true then (if 0 ≤ x4 ∧ x4 < (p0.length : Int) then (if 0 ≤ x4 ∧ x4 < (p1.length : Int) then (if (!((((F_Run.at_ p0 x4).f_At) == ((F_Run.at_ p1 x4).f_At)) && ((((F_Run.at_ p0 x4).f_N) == ((F_Run.at_ p1 x4).f_N)) && true))) = true then (some false) else (scriniumref06_Same.l1 p0 p1 kk1) (W64 (x4 + 1))) else none) else none) else (some true))
def scriniumref06_Same.f (k : Nat) (p0 : (List S_Run)) (p1 : (List S_Run)) : Option Bool := (if ((p0.length : Int) != (p1.length : Int)) = true then (some false) else scriniumref06_Same.l1 p0 p1 k 0)
theorem scriniumref06_Same_ok (k : Nat) (w0 : World) (p0 : (List S_Run)) (p1 : (List S_Run)) (v_0 : Value) (v_1 : Value) (h_0 : Rds v_0 p0.length 2 (p0.flatMap F_Run.cells) w0) (h_1 : Rds v_1 p1.length 2 (p1.flatMap F_Run.cells) w0) (res : Bool) (hf : scriniumref06_Same.f k p0 p1 = some res) :
    Fn Try.prog 16 [v_0, v_1] w0 (fun v w' => v = .bool res ∧ Fr nob w0 w') := by
  have C := ctx_start w0 [rdE v_0 p0.length 2 (p0.flatMap F_Run.cells), rdE v_1 p1.length 2 (p1.flatMap F_Run.cells)] (start2 h_0 h_1)
  generalize allDom [rdE v_0 p0.length 2 (p0.flatMap F_Run.cells), rdE v_1 p1.length 2 (p1.flatMap F_Run.cells)] = A0 at C
  refine f_enter (fn := Try.f16) (k := 24) rfl rfl rfl fun a hS => ?_
  have hS : Sl 26 [(0, v_0), (1, v_1)] a := hS
  rw [scriniumref06_Same.f] at hf
  refine c_seq (by kernel_rfl) ?_
  refine c_region (by kernel_rfl) ?_
  refine wl_pures (j := 1) hS 1 [0, 1] (m' := [(0, v_0), (1, v_1)]) (by kernel_rfl) (by kernel_rfl) fun a hS => ?_
  refine wl_nil (by kernel_rfl) ?_
  refine q_then ?_
  refine c_seq (by kernel_rfl) ?_
  refine c_seq (by kernel_rfl) ?_
  refine c_region (by kernel_rfl) ?_
  refine wl_pures (j := 1) hS 1 [0, 1, 6] (m' := [(0, v_0), (1, v_1), (6, v_0)]) (by kernel_rfl) (by kernel_rfl) fun a hS => ?_
  refine wl_val (d := (some 7)) (op := (Op.call { callee := (Callee.builtin Builtin.len), args := #[(Operand.tmp 6)], argTypes := #[22] })) (g := none) hS (by kernel_rfl) (by kernel_rfl) (r_len (n := p0.length) (v := v_0) (rds_shp (C.okR 0 _ rfl)) (by kernel_rfl) (by kernel_rfl)) fun a hS => ?_
  refine wl_pures (j := 3) hS 1 [0, 1, 7, 8] (m' := [(0, v_0), (1, v_1), (7, .int .i64 (p0.length : Int)), (8, v_1)]) (by kernel_rfl) (by kernel_rfl) fun a hS => ?_
  refine wl_val (d := (some 9)) (op := (Op.call { callee := (Callee.builtin Builtin.len), args := #[(Operand.tmp 8)], argTypes := #[22] })) (g := none) hS (by kernel_rfl) (by kernel_rfl) (r_len (n := p1.length) (v := v_1) (rds_shp (C.okR 1 _ rfl)) (by kernel_rfl) (by kernel_rfl)) fun a hS => ?_
  refine wl_pures (j := 5) hS 1 [0, 1, 10] (m' := [(0, v_0), (1, v_1), (10, .bool ((p0.length : Int) != (p1.length : Int)))]) (by kernel_rfl) (by kernel_rfl) fun a hS => ?_
  refine wl_nil (by kernel_rfl) ?_
  refine q_then ?_
  refine c_if (b := ((p0.length : Int) != (p1.length : Int))) hS (by kernel_rfl) (by kernel_rfl) (fun hb => ?_) (fun hb => ?_)
  · have hf := opt_t hb hf
    refine c_seq (by kernel_rfl) ?_
    refine c_region (by kernel_rfl) ?_
    refine wl_pures (j := 1) hS 1 [4] (m' := [(4, .bool false)]) (by kernel_rfl) (by kernel_rfl) fun a hS => ?_
    refine wl_nil (by kernel_rfl) ?_
    refine q_then ?_
    refine c_ret (by kernel_rfl) ?_
    refine q_thenr ?_
    refine q_ret hS (vs := [.bool false]) (by kernel_rfl) ?_
    obtain rfl := Option.some.inj hf
    exact ⟨_, rfl, rfl, C.fr⟩
  · have hf := opt_f hb hf
    refine c_skip (by kernel_rfl) ?_
    refine q_then ?_
    refine c_seq (by kernel_rfl) ?_
    refine c_seq (by kernel_rfl) ?_
    refine c_region (by kernel_rfl) ?_
    refine wl_pures (j := 1) hS 1 [0, 1, 5] (m' := [(0, v_0), (1, v_1), (5, .int .i64 0)]) (by kernel_rfl) (by kernel_rfl) fun a hS => ?_
    refine wl_nil (by kernel_rfl) ?_
    refine q_then ?_
    refine c_block (i := 0) (by kernel_rfl) ?_
    refine c_loop (by kernel_rfl) (fun kk1 a w => ∃ x4 : Int, scriniumref06_Same.l1 p0 p1 kk1 x4 = some res ∧ Sl 26 [(0, v_0), (1, v_1), (5, .int .i64 x4)] a ∧ Ctx w0 nob A0 [] [rdE v_0 p0.length 2 (p0.flatMap F_Run.cells), rdE v_1 p1.length 2 (p1.flatMap F_Run.cells)] w) k ⟨0, hf, hS.keep [0, 1, 5] (by kernel_rfl), ctx_pick [] [0, 1] C (by kernel_rfl) rfl rfl⟩ ?_
    rintro kk1 a w ⟨x4, hf, hS, C⟩
    cases kk1 with
    | zero => exact no_none hf
    | succ kk1 =>
      rw [scriniumref06_Same.l1] at hf
      refine c_seq (by kernel_rfl) ?_
      refine c_seq (by kernel_rfl) ?_
      refine c_region (by kernel_rfl) ?_
      refine wl_pures (j := 2) hS 2 [0, 1, 5, 11, 12] (m' := [(0, v_0), (1, v_1), (5, .int .i64 x4), (11, .int .i64 x4), (12, v_0)]) (by kernel_rfl) (by kernel_rfl) fun a hS => ?_
      refine wl_val (d := (some 13)) (op := (Op.call { callee := (Callee.builtin Builtin.len), args := #[(Operand.tmp 12)], argTypes := #[22] })) (g := none) hS (by kernel_rfl) (by kernel_rfl) (r_len (n := p0.length) (v := v_0) (rds_shp (C.okR 0 _ rfl)) (by kernel_rfl) (by kernel_rfl)) fun a hS => ?_
      refine wl_pures (j := 4) hS 1 [0, 1, 5, 14] (m' := [(0, v_0), (1, v_1), (5, .int .i64 x4), (14, .bool (decide (x4 < (p0.length : Int))))]) (by kernel_rfl) (by kernel_rfl) fun a hS => ?_
      refine wl_nil (by kernel_rfl) ?_
      refine q_then ?_
      refine c_if (b := (decide (x4 < (p0.length : Int)))) hS (by kernel_rfl) (by kernel_rfl) (fun hb => ?_) (fun hb => ?_)
      · have hf := opt_t hb hf
        refine c_skip (by kernel_rfl) ?_
        refine q_then ?_
        refine c_seq (by kernel_rfl) ?_
        refine c_block (i := 1) (by kernel_rfl) ?_
        refine c_seq (by kernel_rfl) ?_
        refine c_drawsC [] [0, 1] 9 C (by kernel_rfl) (by kernel_rfl) (by kernel_rfl) (N := 9) (by kernel_rfl) (by kernel_rfl) fun _ C => ?_
        refine dr_pures (fuel := 5) (l' := [5, 4, 1, 0]) hS (ctx_pick [] [0, 1] C (by kernel_rfl) rfl rfl) [0, 1, 4, 5] [0, 1, 5, 17, 18, 21, 22] (m' := [(0, v_0), (1, v_1), (5, .int .i64 x4), (17, v_0), (18, .int .i64 x4), (21, v_1), (22, .int .i64 x4)]) (by kernel_rfl) (by kernel_rfl) (by kernel_rfl) fun a hS => ?_
        obtain ⟨hi1, hf⟩ := ite_some hf
        refine dr_take (fuel := 4) (j := 2) (v := .pointer (some (elemA v_0 (x4.toNat * 2)))) (d := (some 19)) (op := (Op.indexAddr 22 (Operand.tmp 17) (Operand.tmp 18))) (g := none) hS (by kernel_rfl) (by kernel_rfl) (fun _ CS => r_idx (i := x4) (k := .i64) (v := v_0) (sz := 2) (rds_shp (C.okR 0 _ rfl)) (by kernel_rfl) (by kernel_rfl) hi1.1 hi1.2 (by kernel_rfl)) (ctx_pick [] [0, 1] C (by kernel_rfl) rfl rfl) fun a hS => ?_
        refine dr_take (fuel := 3) (j := 3) (v := .agg #[.int .i64 ((F_Run.at_ p0 x4).f_At), .int .i64 ((F_Run.at_ p0 x4).f_N)]) (d := (some 20)) (op := (Op.load 24 (Operand.tmp 19))) (g := none) hS (by kernel_rfl) (by kernel_rfl) (fun _ CS => r_ldFs F_Run (i := x4) (seg := [.int .i64 ((F_Run.at_ p0 x4).f_At), .int .i64 ((F_Run.at_ p0 x4).f_N)]) (CS.okR 0 _ rfl) (by kernel_rfl) hi1.1 hi1.2 (by kernel_rfl) (by kernel_rfl)) (ctx_pick [] [0, 1] C (by kernel_rfl) rfl rfl) fun a hS => ?_
        obtain ⟨hi2, hf⟩ := ite_some hf
        refine dr_take (fuel := 2) (j := 6) (v := .pointer (some (elemA v_1 (x4.toNat * 2)))) (d := (some 23)) (op := (Op.indexAddr 22 (Operand.tmp 21) (Operand.tmp 22))) (g := none) hS (by kernel_rfl) (by kernel_rfl) (fun _ CS => r_idx (i := x4) (k := .i64) (v := v_1) (sz := 2) (rds_shp (C.okR 1 _ rfl)) (by kernel_rfl) (by kernel_rfl) hi2.1 hi2.2 (by kernel_rfl)) (ctx_pick [] [0, 1] C (by kernel_rfl) rfl rfl) fun a hS => ?_
        refine dr_take (fuel := 1) (j := 7) (v := .agg #[.int .i64 ((F_Run.at_ p1 x4).f_At), .int .i64 ((F_Run.at_ p1 x4).f_N)]) (d := (some 24)) (op := (Op.load 24 (Operand.tmp 23))) (g := none) hS (by kernel_rfl) (by kernel_rfl) (fun _ CS => r_ldFs F_Run (i := x4) (seg := [.int .i64 ((F_Run.at_ p1 x4).f_At), .int .i64 ((F_Run.at_ p1 x4).f_N)]) (CS.okR 1 _ rfl) (by kernel_rfl) hi2.1 hi2.2 (by kernel_rfl) (by kernel_rfl)) (ctx_pick [] [0, 1] C (by kernel_rfl) rfl rfl) fun a hS => ?_
        refine dr_take (fuel := 0) (j := 8) (v := .bool (!((((F_Run.at_ p0 x4).f_At) == ((F_Run.at_ p1 x4).f_At)) && ((((F_Run.at_ p0 x4).f_N) == ((F_Run.at_ p1 x4).f_N)) && true)))) (d := (some 25)) (op := (Op.binOp BinOp.neq 24 (Operand.tmp 20) (Operand.tmp 24) 24)) (g := none) hS (by kernel_rfl) (by kernel_rfl) (fun _ CS => r_eqst (xs := [.int .i64 ((F_Run.at_ p0 x4).f_At), .int .i64 ((F_Run.at_ p0 x4).f_N)]) (ys := [.int .i64 ((F_Run.at_ p1 x4).f_At), .int .i64 ((F_Run.at_ p1 x4).f_N)]) (r := ((((F_Run.at_ p0 x4).f_At) == ((F_Run.at_ p1 x4).f_At)) && ((((F_Run.at_ p0 x4).f_N) == ((F_Run.at_ p1 x4).f_N)) && true))) (by kernel_rfl) (by kernel_rfl) (by kernel_rfl) (by kernel_rfl)) (ctx_pick [] [0, 1] C (by kernel_rfl) rfl rfl) fun a hS => ?_
        refine dr_done (by kernel_rfl) ?_
        refine q_then ?_
        refine c_if (b := (!((((F_Run.at_ p0 x4).f_At) == ((F_Run.at_ p1 x4).f_At)) && ((((F_Run.at_ p0 x4).f_N) == ((F_Run.at_ p1 x4).f_N)) && true)))) hS (by kernel_rfl) (by kernel_rfl) (fun hb => ?_) (fun hb => ?_)
        · have hf := opt_t hb hf
          refine c_seq (by kernel_rfl) ?_
          refine c_region (by kernel_rfl) ?_
          refine wl_pures (j := 1) hS 1 [4] (m' := [(4, .bool false)]) (by kernel_rfl) (by kernel_rfl) fun a hS => ?_
          refine wl_nil (by kernel_rfl) ?_
          refine q_then ?_
          refine c_ret (by kernel_rfl) ?_
          refine q_inr ?_
          refine q_thenr ?_
          refine q_thenr ?_
          refine q_inr ?_
          refine q_thenr ?_
          refine q_ret hS (vs := [.bool false]) (by kernel_rfl) ?_
          obtain rfl := Option.some.inj hf
          exact ⟨_, rfl, rfl, C.fr⟩
        · have hf := opt_f hb hf
          refine c_skip (by kernel_rfl) ?_
          refine q_in ?_
          refine q_then ?_
          refine c_region (by kernel_rfl) ?_
          refine wl_pures (j := 3) hS 3 [0, 1, 5] (m' := [(0, v_0), (1, v_1), (5, .int .i64 (W64 (x4 + 1)))]) (by kernel_rfl) (by kernel_rfl) fun a hS => ?_
          refine wl_nil (by kernel_rfl) ?_
          exact q_then ⟨kk1, Nat.lt_succ_self kk1, (W64 (x4 + 1)), hf, hS.keep [0, 1, 5] (by kernel_rfl), ctx_pick [] [0, 1] C (by kernel_rfl) rfl rfl⟩
      · have hf := opt_f hb hf
        refine c_exit (i := 0) (by kernel_rfl) ?_
        refine q_thenx ?_
        refine q_thenx ?_
        refine q_inx ?_
        refine q_then ?_
        refine c_seq (by kernel_rfl) ?_
        refine c_region (by kernel_rfl) ?_
        refine wl_pures (j := 1) hS 1 [4] (m' := [(4, .bool true)]) (by kernel_rfl) (by kernel_rfl) fun a hS => ?_
        refine wl_nil (by kernel_rfl) ?_
        refine q_then ?_
        refine c_ret (by kernel_rfl) ?_
        refine q_ret hS (vs := [.bool true]) (by kernel_rfl) ?_
        obtain rfl := Option.some.inj hf
        exact ⟨_, rfl, rfl, C.fr⟩

def scriniumlaw06_ExtentChanges.j1 (x8 : Bool) (x9 : Int) (LOOP1 : (Bool → Int → Option Bool)) (x10 : Bool) : Option Bool := (if x10 = true then (some false) else LOOP1 x8 (W64 (x9 + 1)))
def scriniumlaw06_ExtentChanges.j2 (p1 : Int) (p2 : S_Run) (kk1 : Nat) (x8 : Bool) (x9 : Int) (LOOP1 : (Bool → Int → Option Bool)) (l1 : List S_Run) : Option Bool := (if (0 + l1.length) * 16 ≤ 140737488355328 then ((extent_Take.f kk1 l1 p1).bind fun t3 => ((scriniumref06_Take.f kk1 l1 p1).bind fun t4 => ((extent_Give.f kk1 l1 (⟨p2.f_At, p2.f_N⟩ : S_Run)).bind fun t5 => ((scriniumref06_Give.f kk1 l1 (⟨p2.f_At, p2.f_N⟩ : S_Run)).bind fun t6 => ((scriniumref06_Same.f kk1 t3.1 t4.1).bind fun t7 => ((scriniumref06_Same.f kk1 t3.2.1 t4.2.1).bind fun t8 => ((scriniumref06_Same.f kk1 t5.1 t6.1).bind fun t9 => ((scriniumref06_Same.f kk1 l1 l1).bind fun t10 => (if (!t7) = true then scriniumlaw06_ExtentChanges.j1 x8 x9 LOOP1 true else (if (!t8) = true then scriniumlaw06_ExtentChanges.j1 x8 x9 LOOP1 true else (if (!t9) = true then scriniumlaw06_ExtentChanges.j1 x8 x9 LOOP1 true else (if (!t10) = true then scriniumlaw06_ExtentChanges.j1 x8 x9 LOOP1 true else (if (!(t3.2.2 == t4.2.2)) = true then scriniumlaw06_ExtentChanges.j1 x8 x9 LOOP1 true else scriniumlaw06_ExtentChanges.j1 x8 x9 LOOP1 (!(t5.2 == t6.2))))))))))))))) else none)
def scriniumlaw06_ExtentChanges.l1 (p0 : (List S_Run)) (p1 : Int) (p2 : S_Run) : Nat → Bool → Int → Option Bool
  | 0, _, _ => none
  | kk1 + 1, x8, x9 => (if (decide (x9 < 2)) = true then ((scriniumlaw06_few.f kk1 p0).bind fun t2 => (if (x9 == 1) = true then ((scriniumlaw06_free.f kk1 p0).bind fun t11 => scriniumlaw06_ExtentChanges.j2 p1 p2 kk1 x8 x9 (scriniumlaw06_ExtentChanges.l1 p0 p1 p2 kk1) t11) else scriniumlaw06_ExtentChanges.j2 p1 p2 kk1 x8 x9 (scriniumlaw06_ExtentChanges.l1 p0 p1 p2 kk1) t2)) else (some x8))
def scriniumlaw06_ExtentChanges.f (k : Nat) (p0 : (List S_Run)) (p1 : Int) (p2 : S_Run) : Option Bool := ((scriniumlaw06_awake.f k).bind fun t1 => scriniumlaw06_ExtentChanges.l1 p0 p1 p2 k t1 0)
theorem scriniumlaw06_ExtentChanges_ok (k : Nat) (w0 : World) (p0 : (List S_Run)) (p1 : Int) (p2 : S_Run) (v_0 : Value) (h_0 : Rds v_0 p0.length 2 (p0.flatMap F_Run.cells) w0) (res : Bool) (hf : scriniumlaw06_ExtentChanges.f k p0 p1 p2 = some res) :
    Fn Try.prog 3 [v_0, .int .i64 p1, .agg #[.int .i64 p2.f_At, .int .i64 p2.f_N]] w0 (fun v w' => v = .bool res ∧ Fr nob w0 w') := by
  have C := ctx_start w0 [rdE v_0 p0.length 2 (p0.flatMap F_Run.cells)] (start1 h_0)
  generalize allDom [rdE v_0 p0.length 2 (p0.flatMap F_Run.cells)] = A0 at C
  refine f_enter (fn := Try.f3) (k := 99) rfl rfl rfl fun a hS => ?_
  have hS : Sl 102 [(0, v_0), (1, .int .i64 p1), (2, .agg #[.int .i64 p2.f_At, .int .i64 p2.f_N])] a := hS
  rw [scriniumlaw06_ExtentChanges.f] at hf
  refine c_seq (by kernel_rfl) ?_
  refine c_region (by kernel_rfl) ?_
  refine wl_eff (d := (some 5)) (op := (Op.box 24 (Operand.tmp 2))) (g := none) hS (by kernel_rfl) (by kernel_rfl) (eff_box C (cs := [.int .i64 p2.f_At, .int .i64 p2.f_N]) (by kernel_rfl)) ?_
  rintro _ _ ⟨b1, rfl, C⟩ a hS
  refine wl_pures (j := 2) hS 1 [0, 1, 5] (m' := [(0, v_0), (1, .int .i64 p1), (5, .pointer (some ⟨b1, 0, none⟩))]) (by kernel_rfl) (by kernel_rfl) fun a hS => ?_
  refine wl_nil (by kernel_rfl) ?_
  refine q_then ?_
  refine c_seq (by kernel_rfl) ?_
  refine c_region (by kernel_rfl) ?_
  obtain ⟨t1, ht1, hf⟩ := bind_some hf
  refine wl_eff (d := (some 25)) (op := (Op.call { callee := (Callee.value (Operand.func 9)), args := #[], argTypes := #[] })) (g := none) hS (by kernel_rfl) (by kernel_rfl) (eff_fn (by kernel_rfl) rfl (by kernel_rfl) (scriniumlaw06_awake_ok k _ t1 ht1)) ?_
  rintro _ _ ⟨rfl, hw⟩ a hS
  have C := ctx_still C hw
  refine wl_pures (j := 2) hS 1 [0, 1, 5, 7] (m' := [(0, v_0), (1, .int .i64 p1), (5, .pointer (some ⟨b1, 0, none⟩)), (7, .bool t1)]) (by kernel_rfl) (by kernel_rfl) fun a hS => ?_
  refine wl_nil (by kernel_rfl) ?_
  refine q_then ?_
  refine c_seq (by kernel_rfl) ?_
  refine c_seq (by kernel_rfl) ?_
  refine c_region (by kernel_rfl) ?_
  refine wl_pures (j := 1) hS 1 [0, 1, 5, 7, 8] (m' := [(0, v_0), (1, .int .i64 p1), (5, .pointer (some ⟨b1, 0, none⟩)), (7, .bool t1), (8, .int .i64 0)]) (by kernel_rfl) (by kernel_rfl) fun a hS => ?_
  refine wl_nil (by kernel_rfl) ?_
  refine q_then ?_
  refine c_block (i := 0) (by kernel_rfl) ?_
  refine c_loop (by kernel_rfl) (fun kk1 a w => ∃ b6 : Nat, ∃ x8 : Bool, ∃ x9 : Int, scriniumlaw06_ExtentChanges.l1 p0 p1 p2 kk1 x8 x9 = some res ∧ Sl 102 [(0, v_0), (1, .int .i64 p1), (5, .pointer (some ⟨b6, 0, none⟩)), (7, .bool x8), (8, .int .i64 x9)] a ∧ Ctx w0 nob A0 [boxE b6 24 [.int .i64 p2.f_At, .int .i64 p2.f_N]] [rdE v_0 p0.length 2 (p0.flatMap F_Run.cells)] w) k ⟨b1, t1, 0, hf, hS.keep [0, 1, 5, 7, 8] (by kernel_rfl), ctx_pick [0] [0] C (by kernel_rfl) rfl rfl⟩ ?_
  rintro kk1 a w ⟨b6, x8, x9, hf, hS, C⟩
  cases kk1 with
  | zero => exact no_none hf
  | succ kk1 =>
    rw [scriniumlaw06_ExtentChanges.l1] at hf
    refine c_seq (by kernel_rfl) ?_
    refine c_seq (by kernel_rfl) ?_
    refine c_region (by kernel_rfl) ?_
    refine wl_pures (j := 2) hS 2 [0, 1, 5, 7, 8, 27] (m' := [(0, v_0), (1, .int .i64 p1), (5, .pointer (some ⟨b6, 0, none⟩)), (7, .bool x8), (8, .int .i64 x9), (27, .bool (decide (x9 < 2)))]) (by kernel_rfl) (by kernel_rfl) fun a hS => ?_
    refine wl_nil (by kernel_rfl) ?_
    refine q_then ?_
    refine c_if (b := (decide (x9 < 2))) hS (by kernel_rfl) (by kernel_rfl) (fun hb => ?_) (fun hb => ?_)
    · have hf := opt_t hb hf
      refine c_skip (by kernel_rfl) ?_
      refine q_then ?_
      refine c_seq (by kernel_rfl) ?_
      refine c_block (i := 1) (by kernel_rfl) ?_
      refine c_seq (by kernel_rfl) ?_
      refine c_region (by kernel_rfl) ?_
      refine wl_pures (j := 1) hS 1 [0, 1, 5, 7, 8, 30] (m' := [(0, v_0), (1, .int .i64 p1), (5, .pointer (some ⟨b6, 0, none⟩)), (7, .bool x8), (8, .int .i64 x9), (30, v_0)]) (by kernel_rfl) (by kernel_rfl) fun a hS => ?_
      obtain ⟨t2, ht2, hf⟩ := bind_some hf
      refine wl_eff (d := (some 31)) (op := (Op.call { callee := (Callee.value (Operand.func 10)), args := #[(Operand.tmp 30)], argTypes := #[22] })) (g := none) hS (by kernel_rfl) (by kernel_rfl) (eff_fn (by kernel_rfl) rfl (by kernel_rfl) (scriniumlaw06_few_ok kk1 _ p0 v_0 (C.okR 0 _ rfl) t2 ht2)) ?_
      rintro v1 _ ⟨hw, hr1⟩ a hS
      have C := got_lies C hw hr1 (dom_one (j := 0) rfl)
      refine wl_pures (j := 3) hS 1 [0, 1, 5, 7, 8, 9] (m' := [(0, v_0), (1, .int .i64 p1), (5, .pointer (some ⟨b6, 0, none⟩)), (7, .bool x8), (8, .int .i64 x9), (9, v1)]) (by kernel_rfl) (by kernel_rfl) fun a hS => ?_
      refine wl_nil (by kernel_rfl) ?_
      refine q_then ?_
      refine c_join (by kernel_rfl) (fun a w => ∃ l1 : List S_Run, ∃ v2 : Value, scriniumlaw06_ExtentChanges.j2 p1 p2 kk1 x8 x9 (scriniumlaw06_ExtentChanges.l1 p0 p1 p2 kk1) l1 = some res ∧ Sl 102 [(0, v_0), (1, .int .i64 p1), (5, .pointer (some ⟨b6, 0, none⟩)), (7, .bool x8), (8, .int .i64 x9), (9, v2)] a ∧ Ctx w0 nob A0 [boxE b6 24 [.int .i64 p2.f_At, .int .i64 p2.f_N]] [rdE v_0 p0.length 2 (p0.flatMap F_Run.cells), rdE v2 l1.length 2 (l1.flatMap F_Run.cells)] w) ?_ ?_
      · rintro a w ⟨l1, v2, hf, hS, C⟩
        rw [scriniumlaw06_ExtentChanges.j2] at hf
        refine c_seq (by kernel_rfl) ?_
        refine c_region (by kernel_rfl) ?_
        refine wl_pures (j := 1) hS 1 [0, 1, 5, 7, 8, 9, 10] (m' := [(0, v_0), (1, .int .i64 p1), (5, .pointer (some ⟨b6, 0, none⟩)), (7, .bool x8), (8, .int .i64 x9), (9, v2), (10, (.slice none 0 0))]) (by kernel_rfl) (by kernel_rfl) fun a hS => ?_
        refine wl_nil (by kernel_rfl) ?_
        refine q_then ?_
        refine c_seq (by kernel_rfl) ?_
        refine c_region (by kernel_rfl) ?_
        refine wl_pures (j := 2) hS 2 [0, 1, 5, 7, 8, 9, 10, 36, 37] (m' := [(0, v_0), (1, .int .i64 p1), (5, .pointer (some ⟨b6, 0, none⟩)), (7, .bool x8), (8, .int .i64 x9), (9, v2), (10, (.slice none 0 0)), (36, (.slice none 0 0)), (37, v2)]) (by kernel_rfl) (by kernel_rfl) fun a hS => ?_
        obtain ⟨hl1, hf⟩ := ite_some hf
        refine wl_eff (d := (some 38)) (op := (Op.call { callee := (Callee.builtin Builtin.append), args := #[(Operand.tmp 36), (Operand.tmp 37)], argTypes := #[22, 22] })) (g := none) hS (by kernel_rfl) (by kernel_rfl) (eff_append (li := 1) (n := 0) (m := l1.length) (sz := 2) (bytes := 16) (z := (.agg #[.int .i64 0, .int .i64 0])) (ctx_nilrow 24 2 C) rfl (by kernel_rfl) (by kernel_rfl) ((ctx_nilrow 24 2 C).okR 1 _ rfl) (all_one (flat_all _ _)) (by kernel_rfl) rfl (by decide) hl1 (by decide)) ?_
        rintro v3 _ C a hS
        have C := ctx_relist (li := 1) (F := F_Run) (l := l1) C rfl (Nat.zero_add _) (List.nil_append _)
        refine wl_pures (j := 4) hS 1 [0, 1, 5, 7, 8, 9, 10] (m' := [(0, v_0), (1, .int .i64 p1), (5, .pointer (some ⟨b6, 0, none⟩)), (7, .bool x8), (8, .int .i64 x9), (9, v2), (10, v3)]) (by kernel_rfl) (by kernel_rfl) fun a hS => ?_
        refine wl_nil (by kernel_rfl) ?_
        refine q_then ?_
        refine c_seq (by kernel_rfl) ?_
        refine c_region (by kernel_rfl) ?_
        refine wl_pures (j := 2) hS 2 [0, 1, 5, 7, 8, 9, 10, 40, 41] (m' := [(0, v_0), (1, .int .i64 p1), (5, .pointer (some ⟨b6, 0, none⟩)), (7, .bool x8), (8, .int .i64 x9), (9, v2), (10, v3), (40, v2), (41, .int .i64 p1)]) (by kernel_rfl) (by kernel_rfl) fun a hS => ?_
        obtain ⟨t3, ht3, hf⟩ := bind_some hf
        refine wl_eff (d := (some 42)) (op := (Op.call { callee := (Callee.value (Operand.func 12)), args := #[(Operand.tmp 40), (Operand.tmp 41)], argTypes := #[22, 3] })) (g := none) hS (by kernel_rfl) (by kernel_rfl) (eff_fn (by kernel_rfl) rfl (by kernel_rfl) (extent_Take_ok kk1 _ l1 p1 v2 (C.okR 1 _ rfl) t3 ht3)) ?_
        rintro _ _ ⟨v4, v5, rfl, hw, hr2, hr3⟩ a hS
        have CC := C
        have C := got_lies C hw hr2 (dom_one (j := 1) rfl)
        have C := got_more CC C hw hr3 (dom_one (j := 1) rfl)
        refine wl_pures (j := 10) hS 7 [0, 1, 5, 7, 8, 9, 10, 11, 12, 13] (m' := [(0, v_0), (1, .int .i64 p1), (5, .pointer (some ⟨b6, 0, none⟩)), (7, .bool x8), (8, .int .i64 x9), (9, v2), (10, v3), (11, v4), (12, v5), (13, .bool t3.2.2)]) (by kernel_rfl) (by kernel_rfl) fun a hS => ?_
        refine wl_nil (by kernel_rfl) ?_
        refine q_then ?_
        refine c_seq (by kernel_rfl) ?_
        refine c_region (by kernel_rfl) ?_
        refine wl_pures (j := 2) hS 2 [0, 1, 5, 7, 8, 9, 10, 11, 12, 13, 47, 48] (m' := [(0, v_0), (1, .int .i64 p1), (5, .pointer (some ⟨b6, 0, none⟩)), (7, .bool x8), (8, .int .i64 x9), (9, v2), (10, v3), (11, v4), (12, v5), (13, .bool t3.2.2), (47, v2), (48, .int .i64 p1)]) (by kernel_rfl) (by kernel_rfl) fun a hS => ?_
        obtain ⟨t4, ht4, hf⟩ := bind_some hf
        refine wl_eff (d := (some 49)) (op := (Op.call { callee := (Callee.value (Operand.func 13)), args := #[(Operand.tmp 47), (Operand.tmp 48)], argTypes := #[22, 3] })) (g := none) hS (by kernel_rfl) (by kernel_rfl) (eff_fn (by kernel_rfl) rfl (by kernel_rfl) (scriniumref06_Take_ok kk1 _ l1 p1 v2 (C.okR 1 _ rfl) t4 ht4)) ?_
        rintro _ _ ⟨v6, v7, rfl, hw, hr4, hr5⟩ a hS
        have CC := C
        have C := got_lies C hw hr4 (dom_one (j := 1) rfl)
        have C := got_more CC C hw hr5 (dom_one (j := 1) rfl)
        refine wl_pures (j := 10) hS 7 [0, 1, 5, 7, 8, 9, 10, 11, 12, 13, 14, 15, 16] (m' := [(0, v_0), (1, .int .i64 p1), (5, .pointer (some ⟨b6, 0, none⟩)), (7, .bool x8), (8, .int .i64 x9), (9, v2), (10, v3), (11, v4), (12, v5), (13, .bool t3.2.2), (14, v6), (15, v7), (16, .bool t4.2.2)]) (by kernel_rfl) (by kernel_rfl) fun a hS => ?_
        refine wl_nil (by kernel_rfl) ?_
        refine q_then ?_
        refine c_seq (by kernel_rfl) ?_
        refine c_region (by kernel_rfl) ?_
        refine wl_pures (j := 1) hS 1 [0, 1, 5, 7, 8, 9, 10, 11, 12, 13, 14, 15, 16, 54] (m' := [(0, v_0), (1, .int .i64 p1), (5, .pointer (some ⟨b6, 0, none⟩)), (7, .bool x8), (8, .int .i64 x9), (9, v2), (10, v3), (11, v4), (12, v5), (13, .bool t3.2.2), (14, v6), (15, v7), (16, .bool t4.2.2), (54, v2)]) (by kernel_rfl) (by kernel_rfl) fun a hS => ?_
        refine wl_val (d := (some 55)) (op := (Op.load 24 (Operand.tmp 5))) (g := none) hS (by kernel_rfl) (by kernel_rfl) (r_ldbs (li := 0) (off := 0) (seg := [.int .i64 p2.f_At, .int .i64 p2.f_N]) C rfl (by kernel_rfl) (by kernel_rfl) (by kernel_rfl)) fun a hS => ?_
        obtain ⟨t5, ht5, hf⟩ := bind_some hf
        refine wl_eff (d := (some 56)) (op := (Op.call { callee := (Callee.value (Operand.func 14)), args := #[(Operand.tmp 54), (Operand.tmp 55)], argTypes := #[22, 24] })) (g := none) hS (by kernel_rfl) (by kernel_rfl) (eff_fn (by kernel_rfl) rfl (by kernel_rfl) (extent_Give_ok kk1 _ l1 (⟨p2.f_At, p2.f_N⟩ : S_Run) v2 (C.okR 1 _ rfl) t5 ht5)) ?_
        rintro _ _ ⟨v8, rfl, hw, hr6⟩ a hS
        have C := got_lies C hw hr6 (dom_one (j := 1) rfl)
        refine wl_pures (j := 8) hS 5 [0, 1, 5, 7, 8, 9, 10, 11, 12, 13, 14, 15, 16, 17, 18] (m' := [(0, v_0), (1, .int .i64 p1), (5, .pointer (some ⟨b6, 0, none⟩)), (7, .bool x8), (8, .int .i64 x9), (9, v2), (10, v3), (11, v4), (12, v5), (13, .bool t3.2.2), (14, v6), (15, v7), (16, .bool t4.2.2), (17, v8), (18, .bool t5.2)]) (by kernel_rfl) (by kernel_rfl) fun a hS => ?_
        refine wl_nil (by kernel_rfl) ?_
        refine q_then ?_
        refine c_seq (by kernel_rfl) ?_
        refine c_region (by kernel_rfl) ?_
        refine wl_pures (j := 1) hS 1 [0, 1, 5, 7, 8, 9, 10, 11, 12, 13, 14, 15, 16, 17, 18, 60] (m' := [(0, v_0), (1, .int .i64 p1), (5, .pointer (some ⟨b6, 0, none⟩)), (7, .bool x8), (8, .int .i64 x9), (9, v2), (10, v3), (11, v4), (12, v5), (13, .bool t3.2.2), (14, v6), (15, v7), (16, .bool t4.2.2), (17, v8), (18, .bool t5.2), (60, v2)]) (by kernel_rfl) (by kernel_rfl) fun a hS => ?_
        refine wl_val (d := (some 61)) (op := (Op.load 24 (Operand.tmp 5))) (g := none) hS (by kernel_rfl) (by kernel_rfl) (r_ldbs (li := 0) (off := 0) (seg := [.int .i64 p2.f_At, .int .i64 p2.f_N]) C rfl (by kernel_rfl) (by kernel_rfl) (by kernel_rfl)) fun a hS => ?_
        obtain ⟨t6, ht6, hf⟩ := bind_some hf
        refine wl_eff (d := (some 62)) (op := (Op.call { callee := (Callee.value (Operand.func 15)), args := #[(Operand.tmp 60), (Operand.tmp 61)], argTypes := #[22, 24] })) (g := none) hS (by kernel_rfl) (by kernel_rfl) (eff_fn (by kernel_rfl) rfl (by kernel_rfl) (scriniumref06_Give_ok kk1 _ l1 (⟨p2.f_At, p2.f_N⟩ : S_Run) v2 (C.okR 1 _ rfl) t6 ht6)) ?_
        rintro _ _ ⟨v9, rfl, hw, hr7⟩ a hS
        have C := got_lies C hw hr7 (dom_one (j := 1) rfl)
        refine wl_pures (j := 8) hS 5 [0, 1, 5, 7, 8, 9, 10, 11, 12, 13, 14, 15, 16, 17, 18, 19, 20] (m' := [(0, v_0), (1, .int .i64 p1), (5, .pointer (some ⟨b6, 0, none⟩)), (7, .bool x8), (8, .int .i64 x9), (9, v2), (10, v3), (11, v4), (12, v5), (13, .bool t3.2.2), (14, v6), (15, v7), (16, .bool t4.2.2), (17, v8), (18, .bool t5.2), (19, v9), (20, .bool t6.2)]) (by kernel_rfl) (by kernel_rfl) fun a hS => ?_
        refine wl_nil (by kernel_rfl) ?_
        refine q_then ?_
        refine c_seq (by kernel_rfl) ?_
        refine c_region (by kernel_rfl) ?_
        refine wl_pures (j := 2) hS 2 [0, 1, 5, 7, 8, 9, 10, 12, 13, 15, 16, 17, 18, 19, 20, 65, 66] (m' := [(0, v_0), (1, .int .i64 p1), (5, .pointer (some ⟨b6, 0, none⟩)), (7, .bool x8), (8, .int .i64 x9), (9, v2), (10, v3), (12, v5), (13, .bool t3.2.2), (15, v7), (16, .bool t4.2.2), (17, v8), (18, .bool t5.2), (19, v9), (20, .bool t6.2), (65, v4), (66, v6)]) (by kernel_rfl) (by kernel_rfl) fun a hS => ?_
        obtain ⟨t7, ht7, hf⟩ := bind_some hf
        refine wl_eff (d := (some 67)) (op := (Op.call { callee := (Callee.value (Operand.func 16)), args := #[(Operand.tmp 65), (Operand.tmp 66)], argTypes := #[22, 22] })) (g := none) hS (by kernel_rfl) (by kernel_rfl) (eff_fn (by kernel_rfl) rfl (by kernel_rfl) (scriniumref06_Same_ok kk1 _ t3.1 t4.1 v4 v6 (C.okR 2 _ rfl) (C.okR 4 _ rfl) t7 ht7)) ?_
        rintro _ _ ⟨rfl, hw⟩ a hS
        have C := ctx_still C hw
        refine wl_pures (j := 4) hS 1 [0, 1, 5, 7, 8, 9, 10, 12, 13, 15, 16, 17, 18, 19, 20, 21] (m' := [(0, v_0), (1, .int .i64 p1), (5, .pointer (some ⟨b6, 0, none⟩)), (7, .bool x8), (8, .int .i64 x9), (9, v2), (10, v3), (12, v5), (13, .bool t3.2.2), (15, v7), (16, .bool t4.2.2), (17, v8), (18, .bool t5.2), (19, v9), (20, .bool t6.2), (21, .bool t7)]) (by kernel_rfl) (by kernel_rfl) fun a hS => ?_
        refine wl_nil (by kernel_rfl) ?_
        refine q_then ?_
        refine c_seq (by kernel_rfl) ?_
        refine c_region (by kernel_rfl) ?_
        refine wl_pures (j := 2) hS 2 [0, 1, 5, 7, 8, 9, 10, 13, 16, 17, 18, 19, 20, 21, 68, 69] (m' := [(0, v_0), (1, .int .i64 p1), (5, .pointer (some ⟨b6, 0, none⟩)), (7, .bool x8), (8, .int .i64 x9), (9, v2), (10, v3), (13, .bool t3.2.2), (16, .bool t4.2.2), (17, v8), (18, .bool t5.2), (19, v9), (20, .bool t6.2), (21, .bool t7), (68, v5), (69, v7)]) (by kernel_rfl) (by kernel_rfl) fun a hS => ?_
        obtain ⟨t8, ht8, hf⟩ := bind_some hf
        refine wl_eff (d := (some 70)) (op := (Op.call { callee := (Callee.value (Operand.func 16)), args := #[(Operand.tmp 68), (Operand.tmp 69)], argTypes := #[22, 22] })) (g := none) hS (by kernel_rfl) (by kernel_rfl) (eff_fn (by kernel_rfl) rfl (by kernel_rfl) (scriniumref06_Same_ok kk1 _ t3.2.1 t4.2.1 v5 v7 (C.okR 3 _ rfl) (C.okR 5 _ rfl) t8 ht8)) ?_
        rintro _ _ ⟨rfl, hw⟩ a hS
        have C := ctx_still C hw
        refine wl_pures (j := 4) hS 1 [0, 1, 5, 7, 8, 9, 10, 13, 16, 17, 18, 19, 20, 21, 22] (m' := [(0, v_0), (1, .int .i64 p1), (5, .pointer (some ⟨b6, 0, none⟩)), (7, .bool x8), (8, .int .i64 x9), (9, v2), (10, v3), (13, .bool t3.2.2), (16, .bool t4.2.2), (17, v8), (18, .bool t5.2), (19, v9), (20, .bool t6.2), (21, .bool t7), (22, .bool t8)]) (by kernel_rfl) (by kernel_rfl) fun a hS => ?_
        refine wl_nil (by kernel_rfl) ?_
        refine q_then ?_
        refine c_seq (by kernel_rfl) ?_
        refine c_region (by kernel_rfl) ?_
        refine wl_pures (j := 2) hS 2 [0, 1, 5, 7, 8, 9, 10, 13, 16, 18, 20, 21, 22, 71, 72] (m' := [(0, v_0), (1, .int .i64 p1), (5, .pointer (some ⟨b6, 0, none⟩)), (7, .bool x8), (8, .int .i64 x9), (9, v2), (10, v3), (13, .bool t3.2.2), (16, .bool t4.2.2), (18, .bool t5.2), (20, .bool t6.2), (21, .bool t7), (22, .bool t8), (71, v8), (72, v9)]) (by kernel_rfl) (by kernel_rfl) fun a hS => ?_
        obtain ⟨t9, ht9, hf⟩ := bind_some hf
        refine wl_eff (d := (some 73)) (op := (Op.call { callee := (Callee.value (Operand.func 16)), args := #[(Operand.tmp 71), (Operand.tmp 72)], argTypes := #[22, 22] })) (g := none) hS (by kernel_rfl) (by kernel_rfl) (eff_fn (by kernel_rfl) rfl (by kernel_rfl) (scriniumref06_Same_ok kk1 _ t5.1 t6.1 v8 v9 (C.okR 6 _ rfl) (C.okR 7 _ rfl) t9 ht9)) ?_
        rintro _ _ ⟨rfl, hw⟩ a hS
        have C := ctx_still C hw
        refine wl_pures (j := 4) hS 1 [0, 1, 5, 7, 8, 9, 10, 13, 16, 18, 20, 21, 22, 23] (m' := [(0, v_0), (1, .int .i64 p1), (5, .pointer (some ⟨b6, 0, none⟩)), (7, .bool x8), (8, .int .i64 x9), (9, v2), (10, v3), (13, .bool t3.2.2), (16, .bool t4.2.2), (18, .bool t5.2), (20, .bool t6.2), (21, .bool t7), (22, .bool t8), (23, .bool t9)]) (by kernel_rfl) (by kernel_rfl) fun a hS => ?_
        refine wl_nil (by kernel_rfl) ?_
        refine q_then ?_
        refine c_seq (by kernel_rfl) ?_
        refine c_region (by kernel_rfl) ?_
        refine wl_pures (j := 2) hS 2 [0, 1, 5, 7, 8, 13, 16, 18, 20, 21, 22, 23, 74, 75] (m' := [(0, v_0), (1, .int .i64 p1), (5, .pointer (some ⟨b6, 0, none⟩)), (7, .bool x8), (8, .int .i64 x9), (13, .bool t3.2.2), (16, .bool t4.2.2), (18, .bool t5.2), (20, .bool t6.2), (21, .bool t7), (22, .bool t8), (23, .bool t9), (74, v2), (75, v3)]) (by kernel_rfl) (by kernel_rfl) fun a hS => ?_
        obtain ⟨t10, ht10, hf⟩ := bind_some hf
        refine wl_eff (d := (some 76)) (op := (Op.call { callee := (Callee.value (Operand.func 16)), args := #[(Operand.tmp 74), (Operand.tmp 75)], argTypes := #[22, 22] })) (g := none) hS (by kernel_rfl) (by kernel_rfl) (eff_fn (by kernel_rfl) rfl (by kernel_rfl) (scriniumref06_Same_ok kk1 _ l1 l1 v2 v3 (C.okR 1 _ rfl) (rds_of_row (C.okL 1 _ rfl)) t10 ht10)) ?_
        rintro _ _ ⟨rfl, hw⟩ a hS
        have C := ctx_still C hw
        refine wl_pures (j := 4) hS 1 [0, 1, 5, 7, 8, 13, 16, 18, 20, 21, 22, 23, 24] (m' := [(0, v_0), (1, .int .i64 p1), (5, .pointer (some ⟨b6, 0, none⟩)), (7, .bool x8), (8, .int .i64 x9), (13, .bool t3.2.2), (16, .bool t4.2.2), (18, .bool t5.2), (20, .bool t6.2), (21, .bool t7), (22, .bool t8), (23, .bool t9), (24, .bool t10)]) (by kernel_rfl) (by kernel_rfl) fun a hS => ?_
        refine wl_nil (by kernel_rfl) ?_
        refine q_then ?_
        refine c_join (by kernel_rfl) (fun a w => ∃ x10 : Bool, scriniumlaw06_ExtentChanges.j1 x8 x9 (scriniumlaw06_ExtentChanges.l1 p0 p1 p2 kk1) x10 = some res ∧ Sl 102 [(0, v_0), (1, .int .i64 p1), (5, .pointer (some ⟨b6, 0, none⟩)), (7, .bool x8), (8, .int .i64 x9), (100, .bool x10)] a ∧ Ctx w0 nob A0 [boxE b6 24 [.int .i64 p2.f_At, .int .i64 p2.f_N]] [rdE v_0 p0.length 2 (p0.flatMap F_Run.cells)] w) ?_ ?_
        · rintro a w ⟨x10, hf, hS, C⟩
          rw [scriniumlaw06_ExtentChanges.j1] at hf
          refine c_if (b := x10) hS (by kernel_rfl) (by kernel_rfl) (fun hb => ?_) (fun hb => ?_)
          · have hf := opt_t hb hf
            refine c_seq (by kernel_rfl) ?_
            refine c_region (by kernel_rfl) ?_
            refine wl_pures (j := 1) hS 1 [6] (m' := [(6, .bool false)]) (by kernel_rfl) (by kernel_rfl) fun a hS => ?_
            refine wl_nil (by kernel_rfl) ?_
            refine q_then ?_
            refine c_ret (by kernel_rfl) ?_
            refine q_inr ?_
            refine q_thenr ?_
            refine q_thenr ?_
            refine q_inr ?_
            refine q_thenr ?_
            refine q_ret hS (vs := [.bool false]) (by kernel_rfl) ?_
            obtain rfl := Option.some.inj hf
            exact ⟨_, rfl, rfl, C.fr⟩
          · have hf := opt_f hb hf
            refine c_skip (by kernel_rfl) ?_
            refine q_in ?_
            refine q_then ?_
            refine c_region (by kernel_rfl) ?_
            refine wl_pures (j := 3) hS 3 [0, 1, 5, 7, 8] (m' := [(0, v_0), (1, .int .i64 p1), (5, .pointer (some ⟨b6, 0, none⟩)), (7, .bool x8), (8, .int .i64 (W64 (x9 + 1)))]) (by kernel_rfl) (by kernel_rfl) fun a hS => ?_
            refine wl_nil (by kernel_rfl) ?_
            exact q_then ⟨kk1, Nat.lt_succ_self kk1, b6, x8, (W64 (x9 + 1)), hf, hS.keep [0, 1, 5, 7, 8] (by kernel_rfl), ctx_pick [0] [0] C (by kernel_rfl) rfl rfl⟩
        · refine c_region (by kernel_rfl) ?_
          refine wl_pures (j := 3) hS 3 [0, 1, 5, 7, 8, 13, 16, 18, 20, 22, 23, 24, 79] (m' := [(0, v_0), (1, .int .i64 p1), (5, .pointer (some ⟨b6, 0, none⟩)), (7, .bool x8), (8, .int .i64 x9), (13, .bool t3.2.2), (16, .bool t4.2.2), (18, .bool t5.2), (20, .bool t6.2), (22, .bool t8), (23, .bool t9), (24, .bool t10), (79, .bool (!t7))]) (by kernel_rfl) (by kernel_rfl) fun a hS => ?_
          rcases Bool.eq_false_or_eq_true (!t7) with hb | hb
          · rw [hb] at hS
            have hf := opt_t hb hf
            refine wl_pures (j := 24) hS 21 [0, 1, 5, 7, 8, 100] (m' := [(0, v_0), (1, .int .i64 p1), (5, .pointer (some ⟨b6, 0, none⟩)), (7, .bool x8), (8, .int .i64 x9), (100, .bool true)]) (by kernel_rfl) (by kernel_rfl) fun a hS => ?_
            refine wl_nil (by kernel_rfl) ?_
            exact q_then ⟨true, hf, hS.keep [0, 1, 5, 7, 8, 100] (by kernel_rfl), ctx_pick [0] [0] C (by kernel_rfl) rfl rfl⟩
          · rw [hb] at hS
            have hf := opt_f hb hf
            refine wl_pures (j := 7) hS 4 [0, 1, 5, 7, 8, 13, 16, 18, 20, 23, 24, 83] (m' := [(0, v_0), (1, .int .i64 p1), (5, .pointer (some ⟨b6, 0, none⟩)), (7, .bool x8), (8, .int .i64 x9), (13, .bool t3.2.2), (16, .bool t4.2.2), (18, .bool t5.2), (20, .bool t6.2), (23, .bool t9), (24, .bool t10), (83, .bool (!t8))]) (by kernel_rfl) (by kernel_rfl) fun a hS => ?_
            rcases Bool.eq_false_or_eq_true (!t8) with hb | hb
            · rw [hb] at hS
              have hf := opt_t hb hf
              refine wl_pures (j := 24) hS 17 [0, 1, 5, 7, 8, 100] (m' := [(0, v_0), (1, .int .i64 p1), (5, .pointer (some ⟨b6, 0, none⟩)), (7, .bool x8), (8, .int .i64 x9), (100, .bool true)]) (by kernel_rfl) (by kernel_rfl) fun a hS => ?_
              refine wl_nil (by kernel_rfl) ?_
              exact q_then ⟨true, hf, hS.keep [0, 1, 5, 7, 8, 100] (by kernel_rfl), ctx_pick [0] [0] C (by kernel_rfl) rfl rfl⟩
            · rw [hb] at hS
              have hf := opt_f hb hf
              refine wl_pures (j := 11) hS 4 [0, 1, 5, 7, 8, 13, 16, 18, 20, 24, 87] (m' := [(0, v_0), (1, .int .i64 p1), (5, .pointer (some ⟨b6, 0, none⟩)), (7, .bool x8), (8, .int .i64 x9), (13, .bool t3.2.2), (16, .bool t4.2.2), (18, .bool t5.2), (20, .bool t6.2), (24, .bool t10), (87, .bool (!t9))]) (by kernel_rfl) (by kernel_rfl) fun a hS => ?_
              rcases Bool.eq_false_or_eq_true (!t9) with hb | hb
              · rw [hb] at hS
                have hf := opt_t hb hf
                refine wl_pures (j := 24) hS 13 [0, 1, 5, 7, 8, 100] (m' := [(0, v_0), (1, .int .i64 p1), (5, .pointer (some ⟨b6, 0, none⟩)), (7, .bool x8), (8, .int .i64 x9), (100, .bool true)]) (by kernel_rfl) (by kernel_rfl) fun a hS => ?_
                refine wl_nil (by kernel_rfl) ?_
                exact q_then ⟨true, hf, hS.keep [0, 1, 5, 7, 8, 100] (by kernel_rfl), ctx_pick [0] [0] C (by kernel_rfl) rfl rfl⟩
              · rw [hb] at hS
                have hf := opt_f hb hf
                refine wl_pures (j := 15) hS 4 [0, 1, 5, 7, 8, 13, 16, 18, 20, 91] (m' := [(0, v_0), (1, .int .i64 p1), (5, .pointer (some ⟨b6, 0, none⟩)), (7, .bool x8), (8, .int .i64 x9), (13, .bool t3.2.2), (16, .bool t4.2.2), (18, .bool t5.2), (20, .bool t6.2), (91, .bool (!t10))]) (by kernel_rfl) (by kernel_rfl) fun a hS => ?_
                rcases Bool.eq_false_or_eq_true (!t10) with hb | hb
                · rw [hb] at hS
                  have hf := opt_t hb hf
                  refine wl_pures (j := 24) hS 9 [0, 1, 5, 7, 8, 100] (m' := [(0, v_0), (1, .int .i64 p1), (5, .pointer (some ⟨b6, 0, none⟩)), (7, .bool x8), (8, .int .i64 x9), (100, .bool true)]) (by kernel_rfl) (by kernel_rfl) fun a hS => ?_
                  refine wl_nil (by kernel_rfl) ?_
                  exact q_then ⟨true, hf, hS.keep [0, 1, 5, 7, 8, 100] (by kernel_rfl), ctx_pick [0] [0] C (by kernel_rfl) rfl rfl⟩
                · rw [hb] at hS
                  have hf := opt_f hb hf
                  refine wl_pures (j := 20) hS 5 [0, 1, 5, 7, 8, 18, 20, 96] (m' := [(0, v_0), (1, .int .i64 p1), (5, .pointer (some ⟨b6, 0, none⟩)), (7, .bool x8), (8, .int .i64 x9), (18, .bool t5.2), (20, .bool t6.2), (96, .bool (!(t3.2.2 == t4.2.2)))]) (by kernel_rfl) (by kernel_rfl) fun a hS => ?_
                  rcases Bool.eq_false_or_eq_true (!(t3.2.2 == t4.2.2)) with hb | hb
                  · rw [hb] at hS
                    have hf := opt_t hb hf
                    refine wl_pures (j := 24) hS 4 [0, 1, 5, 7, 8, 100] (m' := [(0, v_0), (1, .int .i64 p1), (5, .pointer (some ⟨b6, 0, none⟩)), (7, .bool x8), (8, .int .i64 x9), (100, .bool true)]) (by kernel_rfl) (by kernel_rfl) fun a hS => ?_
                    refine wl_nil (by kernel_rfl) ?_
                    exact q_then ⟨true, hf, hS.keep [0, 1, 5, 7, 8, 100] (by kernel_rfl), ctx_pick [0] [0] C (by kernel_rfl) rfl rfl⟩
                  · rw [hb] at hS
                    have hf := opt_f hb hf
                    refine wl_pures (j := 24) hS 4 [0, 1, 5, 7, 8, 100] (m' := [(0, v_0), (1, .int .i64 p1), (5, .pointer (some ⟨b6, 0, none⟩)), (7, .bool x8), (8, .int .i64 x9), (100, .bool (!(t5.2 == t6.2)))]) (by kernel_rfl) (by kernel_rfl) fun a hS => ?_
                    refine wl_nil (by kernel_rfl) ?_
                    exact q_then ⟨(!(t5.2 == t6.2)), hf, hS.keep [0, 1, 5, 7, 8, 100] (by kernel_rfl), ctx_pick [0] [0] C (by kernel_rfl) rfl rfl⟩
      · refine c_seq (by kernel_rfl) ?_
        refine c_region (by kernel_rfl) ?_
        refine wl_pures (j := 2) hS 2 [0, 1, 5, 7, 8, 9, 33] (m' := [(0, v_0), (1, .int .i64 p1), (5, .pointer (some ⟨b6, 0, none⟩)), (7, .bool x8), (8, .int .i64 x9), (9, v1), (33, .bool (x9 == 1))]) (by kernel_rfl) (by kernel_rfl) fun a hS => ?_
        refine wl_nil (by kernel_rfl) ?_
        refine q_then ?_
        refine c_if (b := (x9 == 1)) hS (by kernel_rfl) (by kernel_rfl) (fun hb => ?_) (fun hb => ?_)
        · have hf := opt_t hb hf
          refine c_region (by kernel_rfl) ?_
          refine wl_pures (j := 1) hS 1 [0, 1, 5, 7, 8, 9, 34] (m' := [(0, v_0), (1, .int .i64 p1), (5, .pointer (some ⟨b6, 0, none⟩)), (7, .bool x8), (8, .int .i64 x9), (9, v1), (34, v_0)]) (by kernel_rfl) (by kernel_rfl) fun a hS => ?_
          obtain ⟨t11, ht11, hf⟩ := bind_some hf
          refine wl_eff (d := (some 35)) (op := (Op.call { callee := (Callee.value (Operand.func 11)), args := #[(Operand.tmp 34)], argTypes := #[22] })) (g := none) hS (by kernel_rfl) (by kernel_rfl) (eff_fn (by kernel_rfl) rfl (by kernel_rfl) (scriniumlaw06_free_ok kk1 _ p0 v_0 (C.okR 0 _ rfl) t11 ht11)) ?_
          rintro v10 _ ⟨hw, hr8⟩ a hS
          have C := got_lies C hw hr8 (dom_one (j := 0) rfl)
          refine wl_pures (j := 3) hS 1 [0, 1, 5, 7, 8, 9] (m' := [(0, v_0), (1, .int .i64 p1), (5, .pointer (some ⟨b6, 0, none⟩)), (7, .bool x8), (8, .int .i64 x9), (9, v10)]) (by kernel_rfl) (by kernel_rfl) fun a hS => ?_
          refine wl_nil (by kernel_rfl) ?_
          exact q_then ⟨t11, v10, hf, hS.keep [0, 1, 5, 7, 8, 9] (by kernel_rfl), ctx_pick [0] [0, 2] C (by kernel_rfl) rfl rfl⟩
        · have hf := opt_f hb hf
          refine c_skip (by kernel_rfl) ?_
          exact q_then ⟨t2, v1, hf, hS.keep [0, 1, 5, 7, 8, 9] (by kernel_rfl), ctx_pick [0] [0, 1] C (by kernel_rfl) rfl rfl⟩
    · have hf := opt_f hb hf
      refine c_exit (i := 0) (by kernel_rfl) ?_
      refine q_thenx ?_
      refine q_thenx ?_
      refine q_inx ?_
      refine q_then ?_
      refine c_seq (by kernel_rfl) ?_
      refine c_region (by kernel_rfl) ?_
      refine wl_pures (j := 2) hS 2 [6] (m' := [(6, .bool x8)]) (by kernel_rfl) (by kernel_rfl) fun a hS => ?_
      refine wl_nil (by kernel_rfl) ?_
      refine q_then ?_
      refine c_ret (by kernel_rfl) ?_
      refine q_ret hS (vs := [.bool x8]) (by kernel_rfl) ?_
      obtain rfl := Option.some.inj hf
      exact ⟨_, rfl, rfl, C.fr⟩

def scriniumlaw06_file.j1 (p0 : (List S_Run)) (l4 : List S_Run) (x4 : Int) (LOOP1 : (List S_Run → Int → Option (List S_Run))) (x5 : Bool) : Option (List S_Run) := (if x5 = true then (if 0 ≤ x4 ∧ x4 < (p0.length : Int) then (if 0 ≤ x4 ∧ x4 < (p0.length : Int) then (if (l4.length + ([(⟨(andK .i64 ((F_Run.at_ p0 x4).f_At) 1023), (W64 (1 + (andK .i64 ((F_Run.at_ p0 x4).f_N) 31)))⟩ : S_Run)]).length) * 16 ≤ 140737488355328 then LOOP1 (l4 ++ [(⟨(andK .i64 ((F_Run.at_ p0 x4).f_At) 1023), (W64 (1 + (andK .i64 ((F_Run.at_ p0 x4).f_N) 31)))⟩ : S_Run)]) (W64 (x4 + 1)) else none) else none) else none) else (some l4))
def scriniumlaw06_file.l1 (p0 : (List S_Run)) : Nat → List S_Run → Int → Option (List S_Run)
  | 0, _, _ => none
  | kk1 + 1, l4, x4 => (if (decide (x4 < (p0.length : Int))) = true then scriniumlaw06_file.j1 p0 l4 x4 (scriniumlaw06_file.l1 p0 kk1) (decide (x4 < 12)) else scriniumlaw06_file.j1 p0 l4 x4 (scriniumlaw06_file.l1 p0 kk1) false)
def scriniumlaw06_file.f (k : Nat) (p0 : (List S_Run)) : Option (List S_Run) := scriniumlaw06_file.l1 p0 k [] 0
theorem scriniumlaw06_file_ok (k : Nat) (w0 : World) (p0 : (List S_Run)) (v_0 : Value) (h_0 : Rds v_0 p0.length 2 (p0.flatMap F_Run.cells) w0) (res : (List S_Run)) (hf : scriniumlaw06_file.f k p0 = some res) :
    Fn Try.prog 18 [v_0] w0 (fun v w' => Fr nob w0 w' ∧ Own w0 F_Run 24 v res w') := by
  have C := ctx_start w0 [rdE v_0 p0.length 2 (p0.flatMap F_Run.cells)] (start1 h_0)
  generalize allDom [rdE v_0 p0.length 2 (p0.flatMap F_Run.cells)] = A0 at C
  refine f_enter (fn := Try.f18) (k := 32) rfl rfl rfl fun a hS => ?_
  have hS : Sl 33 [(0, v_0)] a := hS
  rw [scriniumlaw06_file.f] at hf
  refine c_seq (by kernel_rfl) ?_
  refine c_region (by kernel_rfl) ?_
  refine wl_pures (j := 1) hS 1 [0] (m' := [(0, v_0)]) (by kernel_rfl) (by kernel_rfl) fun a hS => ?_
  refine wl_nil (by kernel_rfl) ?_
  refine q_then ?_
  refine c_seq (by kernel_rfl) ?_
  refine c_region (by kernel_rfl) ?_
  refine wl_pures (j := 1) hS 1 [0, 3] (m' := [(0, v_0), (3, (.slice none 0 0))]) (by kernel_rfl) (by kernel_rfl) fun a hS => ?_
  refine wl_nil (by kernel_rfl) ?_
  refine q_then ?_
  refine c_seq (by kernel_rfl) ?_
  refine c_seq (by kernel_rfl) ?_
  refine c_region (by kernel_rfl) ?_
  refine wl_pures (j := 1) hS 1 [0, 3, 4] (m' := [(0, v_0), (3, (.slice none 0 0)), (4, .int .i64 0)]) (by kernel_rfl) (by kernel_rfl) fun a hS => ?_
  refine wl_nil (by kernel_rfl) ?_
  refine q_then ?_
  refine c_block (i := 0) (by kernel_rfl) ?_
  have C := ctx_nilrow 24 2 C
  refine c_loop (by kernel_rfl) (fun kk1 a w => ∃ l4 : List S_Run, ∃ v4 : Value, ∃ x4 : Int, scriniumlaw06_file.l1 p0 kk1 l4 x4 = some res ∧ Sl 33 [(0, v_0), (3, v4), (4, .int .i64 x4)] a ∧ Ctx w0 nob A0 [rowE v4 24 2 l4.length (l4.flatMap F_Run.cells)] [rdE v_0 p0.length 2 (p0.flatMap F_Run.cells)] w) k ⟨[], (.slice none 0 0), 0, hf, hS.keep [0, 3, 4] (by kernel_rfl), ctx_pick [0] [0] C (by kernel_rfl) rfl rfl⟩ ?_
  rintro kk1 a w ⟨l4, v4, x4, hf, hS, C⟩
  cases kk1 with
  | zero => exact no_none hf
  | succ kk1 =>
    rw [scriniumlaw06_file.l1] at hf
    refine c_seq (by kernel_rfl) ?_
    refine c_join (by kernel_rfl) (fun a w => ∃ x5 : Bool, scriniumlaw06_file.j1 p0 l4 x4 (scriniumlaw06_file.l1 p0 kk1) x5 = some res ∧ Sl 33 [(0, v_0), (3, v4), (4, .int .i64 x4), (12, .bool x5)] a ∧ Ctx w0 nob A0 [rowE v4 24 2 l4.length (l4.flatMap F_Run.cells)] [rdE v_0 p0.length 2 (p0.flatMap F_Run.cells)] w) ?_ ?_
    · rintro a w ⟨x5, hf, hS, C⟩
      rw [scriniumlaw06_file.j1] at hf
      refine c_if (b := x5) hS (by kernel_rfl) (by kernel_rfl) (fun hb => ?_) (fun hb => ?_)
      · have hf := opt_t hb hf
        refine c_skip (by kernel_rfl) ?_
        refine q_then ?_
        refine c_seq (by kernel_rfl) ?_
        refine c_block (i := 1) (by kernel_rfl) ?_
        refine c_drawsC [1000] [0] 18 C (by kernel_rfl) (by kernel_rfl) (by kernel_rfl) (N := 18) (by kernel_rfl) (by kernel_rfl) fun _ C => ?_
        refine dr_pures (fuel := 13) (l' := [8, 7, 2, 1, 0]) hS (ctx_pick [1000] [0] C (by kernel_rfl) rfl rfl) [0, 1, 2, 7, 8] [0, 3, 4, 15, 16, 17, 22, 23] (m' := [(0, v_0), (3, v4), (4, .int .i64 x4), (15, v4), (16, v_0), (17, .int .i64 x4), (22, v_0), (23, .int .i64 x4)]) (by kernel_rfl) (by kernel_rfl) (by kernel_rfl) fun a hS => ?_
        obtain ⟨hi1, hf⟩ := ite_some hf
        refine dr_take (fuel := 12) (j := 3) (v := .pointer (some (elemA v_0 (x4.toNat * 2)))) (d := (some 18)) (op := (Op.indexAddr 22 (Operand.tmp 16) (Operand.tmp 17))) (g := none) hS (by kernel_rfl) (by kernel_rfl) (fun _ CS => r_idx (i := x4) (k := .i64) (v := v_0) (sz := 2) (rds_shp (C.okR 0 _ rfl)) (by kernel_rfl) (by kernel_rfl) hi1.1 hi1.2 (by kernel_rfl)) (ctx_pick [1000] [0] C (by kernel_rfl) rfl rfl) fun a hS => ?_
        refine dr_pures (fuel := 11) (l' := [4, 3, 8, 7, 2, 1, 0]) hS (ctx_pick [1000] [0] C (by kernel_rfl) rfl rfl) [4] [0, 3, 4, 15, 19, 22, 23] (m' := [(0, v_0), (3, v4), (4, .int .i64 x4), (15, v4), (19, .pointer (some ((elemA v_0 (x4.toNat * 2)).add 0))), (22, v_0), (23, .int .i64 x4)]) (by kernel_rfl) (by kernel_rfl) (by kernel_rfl) fun a hS => ?_
        refine dr_take (fuel := 10) (j := 5) (v := .int .i64 ((F_Run.at_ p0 x4).f_At)) (d := (some 20)) (op := (Op.load 3 (Operand.tmp 19))) (g := none) hS (by kernel_rfl) (by kernel_rfl) (fun _ CS => r_ldF F_Run (i := x4) (off := 0) (u := .int .i64 ((F_Run.at_ p0 x4).f_At)) (CS.okR 0 _ rfl) (by kernel_rfl) hi1.1 hi1.2 (by decide) (by kernel_rfl) (by kernel_rfl)) (ctx_pick [1000] [0] C (by kernel_rfl) rfl rfl) fun a hS => ?_
        refine dr_pures (fuel := 9) (l' := [6, 5, 4, 3, 8, 7, 2, 1, 0]) hS (ctx_pick [1000] [0] C (by kernel_rfl) rfl rfl) [6] [0, 3, 4, 15, 21, 22, 23] (m' := [(0, v_0), (3, v4), (4, .int .i64 x4), (15, v4), (21, .int .i64 (andK .i64 ((F_Run.at_ p0 x4).f_At) 1023)), (22, v_0), (23, .int .i64 x4)]) (by kernel_rfl) (by kernel_rfl) (by kernel_rfl) fun a hS => ?_
        obtain ⟨hi2, hf⟩ := ite_some hf
        refine dr_take (fuel := 8) (j := 9) (v := .pointer (some (elemA v_0 (x4.toNat * 2)))) (d := (some 24)) (op := (Op.indexAddr 22 (Operand.tmp 22) (Operand.tmp 23))) (g := none) hS (by kernel_rfl) (by kernel_rfl) (fun _ CS => r_idx (i := x4) (k := .i64) (v := v_0) (sz := 2) (rds_shp (C.okR 0 _ rfl)) (by kernel_rfl) (by kernel_rfl) hi2.1 hi2.2 (by kernel_rfl)) (ctx_pick [1000] [0] C (by kernel_rfl) rfl rfl) fun a hS => ?_
        refine dr_pures (fuel := 7) (l' := [10, 9, 6, 5, 4, 3, 8, 7, 2, 1, 0]) hS (ctx_pick [1000] [0] C (by kernel_rfl) rfl rfl) [10] [0, 3, 4, 15, 21, 25] (m' := [(0, v_0), (3, v4), (4, .int .i64 x4), (15, v4), (21, .int .i64 (andK .i64 ((F_Run.at_ p0 x4).f_At) 1023)), (25, .pointer (some ((elemA v_0 (x4.toNat * 2)).add 1)))]) (by kernel_rfl) (by kernel_rfl) (by kernel_rfl) fun a hS => ?_
        refine dr_take (fuel := 6) (j := 11) (v := .int .i64 ((F_Run.at_ p0 x4).f_N)) (d := (some 26)) (op := (Op.load 3 (Operand.tmp 25))) (g := none) hS (by kernel_rfl) (by kernel_rfl) (fun _ CS => r_ldF F_Run (i := x4) (off := 1) (u := .int .i64 ((F_Run.at_ p0 x4).f_N)) (CS.okR 0 _ rfl) (by kernel_rfl) hi2.1 hi2.2 (by decide) (by kernel_rfl) (by kernel_rfl)) (ctx_pick [1000] [0] C (by kernel_rfl) rfl rfl) fun a hS => ?_
        refine dr_pures (fuel := 4) (l' := [13, 12, 11, 10, 9, 6, 5, 4, 3, 8, 7, 2, 1, 0]) hS (ctx_pick [1000] [0] C (by kernel_rfl) rfl rfl) [12, 13] [0, 3, 4, 15, 21, 28] (m' := [(0, v_0), (3, v4), (4, .int .i64 x4), (15, v4), (21, .int .i64 (andK .i64 ((F_Run.at_ p0 x4).f_At) 1023)), (28, .int .i64 (W64 (1 + (andK .i64 ((F_Run.at_ p0 x4).f_N) 31))))]) (by kernel_rfl) (by kernel_rfl) (by kernel_rfl) fun a hS => ?_
        refine dr_take (fuel := 3) (j := 14) (v := .agg #[.int .i64 (andK .i64 ((F_Run.at_ p0 x4).f_At) 1023), .int .i64 (W64 (1 + (andK .i64 ((F_Run.at_ p0 x4).f_N) 31)))]) (d := (some 29)) (op := (Op.build 24 #[(0, (Operand.tmp 21)), (1, (Operand.tmp 28))])) (g := none) hS (by kernel_rfl) (by kernel_rfl) (fun _ CS => r_build (v := (.agg #[.int .i64 (andK .i64 ((F_Run.at_ p0 x4).f_At) 1023), .int .i64 (W64 (1 + (andK .i64 ((F_Run.at_ p0 x4).f_N) 31)))])) (by kernel_rfl)) (ctx_pick [1000] [0] C (by kernel_rfl) rfl rfl) fun a hS => ?_
        refine dr_eff (fuel := 2) (j := 15) (d := (some 30)) (op := (Op.buildSlice 22 1 #[(0, (Operand.tmp 29))])) (g := none) hS (by kernel_rfl) (by kernel_rfl) (by kernel_rfl) (eff_slit (e := 24) (sz := 2) (cs := [.int .i64 (andK .i64 ((F_Run.at_ p0 x4).f_At) 1023), .int .i64 (W64 (1 + (andK .i64 ((F_Run.at_ p0 x4).f_N) 31)))]) C (by kernel_rfl) (by kernel_rfl) (by decide)) ?_
        rintro v5 _ ⟨-, C⟩
        have C := ctx_relist (li := 1) (F := F_Run) (l := [(⟨(andK .i64 ((F_Run.at_ p0 x4).f_At) 1023), (W64 (1 + (andK .i64 ((F_Run.at_ p0 x4).f_N) 31)))⟩ : S_Run)]) C rfl rfl rfl
        refine ⟨.inr (ctx_pick [1000] [0] C (by kernel_rfl) rfl rfl), fun a hS => ?_⟩
        obtain ⟨hl1, hf⟩ := ite_some hf
        refine dr_eff (fuel := 1) (j := 16) (d := (some 31)) (op := (Op.call { callee := (Callee.builtin Builtin.append), args := #[(Operand.tmp 15), (Operand.tmp 30)], argTypes := #[22, 22] })) (g := none) hS (by kernel_rfl) (by kernel_rfl) (by kernel_rfl) (eff_append (li := 0) (n := l4.length) (m := ([(⟨(andK .i64 ((F_Run.at_ p0 x4).f_At) 1023), (W64 (1 + (andK .i64 ((F_Run.at_ p0 x4).f_N) 31)))⟩ : S_Run)]).length) (sz := 2) (bytes := 16) (z := (.agg #[.int .i64 0, .int .i64 0])) C rfl (by kernel_rfl) (by kernel_rfl) (rds_of_row (C.okL 1 _ rfl)) (all_one (flat_all _ _)) (by kernel_rfl) rfl (by decide) hl1 (by decide)) ?_
        rintro v6 _ C
        have C := ctx_relist (li := 0) (F := F_Run) (l := (l4 ++ [(⟨(andK .i64 ((F_Run.at_ p0 x4).f_At) 1023), (W64 (1 + (andK .i64 ((F_Run.at_ p0 x4).f_N) 31)))⟩ : S_Run)])) C rfl (by simp only [List.length_append, List.length_set]) List.flatMap_append.symm
        refine ⟨.inr (ctx_pick [1000] [0] C (by kernel_rfl) rfl rfl), fun a hS => ?_⟩
        refine dr_pures (fuel := 0) (l' := [17, 16, 15, 14, 13, 12, 11, 10, 9, 6, 5, 4, 3, 8, 7, 2, 1, 0]) hS (ctx_pick [1000] [0] C (by kernel_rfl) rfl rfl) [17] [0, 3, 4] (m' := [(0, v_0), (3, v6), (4, .int .i64 x4)]) (by kernel_rfl) (by kernel_rfl) (by kernel_rfl) fun a hS => ?_
        refine dr_done (by kernel_rfl) ?_
        refine q_in ?_
        refine q_then ?_
        refine c_region (by kernel_rfl) ?_
        refine wl_pures (j := 3) hS 3 [0, 3, 4] (m' := [(0, v_0), (3, v6), (4, .int .i64 (W64 (x4 + 1)))]) (by kernel_rfl) (by kernel_rfl) fun a hS => ?_
        refine wl_nil (by kernel_rfl) ?_
        exact q_then ⟨kk1, Nat.lt_succ_self kk1, (l4 ++ [(⟨(andK .i64 ((F_Run.at_ p0 x4).f_At) 1023), (W64 (1 + (andK .i64 ((F_Run.at_ p0 x4).f_N) 31)))⟩ : S_Run)]), v6, (W64 (x4 + 1)), hf, hS.keep [0, 3, 4] (by kernel_rfl), ctx_pick [0] [0] C (by kernel_rfl) rfl rfl⟩
      · have hf := opt_f hb hf
        refine c_exit (i := 0) (by kernel_rfl) ?_
        refine q_thenx ?_
        refine q_thenx ?_
        refine q_inx ?_
        refine q_then ?_
        refine c_seq (by kernel_rfl) ?_
        refine c_region (by kernel_rfl) ?_
        refine wl_pures (j := 2) hS 2 [2] (m' := [(2, v4)]) (by kernel_rfl) (by kernel_rfl) fun a hS => ?_
        refine wl_nil (by kernel_rfl) ?_
        refine q_then ?_
        refine c_ret (by kernel_rfl) ?_
        refine q_ret hS (vs := [v4]) (by kernel_rfl) ?_
        obtain rfl := Option.some.inj hf
        exact ⟨_, rfl, C.fr, ret_own (li := 0) C rfl rfl⟩
    · refine c_region (by kernel_rfl) ?_
      refine wl_pures (j := 2) hS 2 [0, 3, 4, 5, 6] (m' := [(0, v_0), (3, v4), (4, .int .i64 x4), (5, .int .i64 x4), (6, v_0)]) (by kernel_rfl) (by kernel_rfl) fun a hS => ?_
      refine wl_val (d := (some 7)) (op := (Op.call { callee := (Callee.builtin Builtin.len), args := #[(Operand.tmp 6)], argTypes := #[22] })) (g := none) hS (by kernel_rfl) (by kernel_rfl) (r_len (n := p0.length) (v := v_0) (rds_shp (C.okR 0 _ rfl)) (by kernel_rfl) (by kernel_rfl)) fun a hS => ?_
      refine wl_pures (j := 5) hS 2 [0, 3, 4, 9] (m' := [(0, v_0), (3, v4), (4, .int .i64 x4), (9, .bool (decide (x4 < (p0.length : Int))))]) (by kernel_rfl) (by kernel_rfl) fun a hS => ?_
      rcases Bool.eq_false_or_eq_true (decide (x4 < (p0.length : Int))) with hb | hb
      · rw [hb] at hS
        have hf := opt_t hb hf
        refine wl_pures (j := 8) hS 3 [0, 3, 4, 12] (m' := [(0, v_0), (3, v4), (4, .int .i64 x4), (12, .bool (decide (x4 < 12)))]) (by kernel_rfl) (by kernel_rfl) fun a hS => ?_
        refine wl_nil (by kernel_rfl) ?_
        exact q_then ⟨(decide (x4 < 12)), hf, hS.keep [0, 3, 4, 12] (by kernel_rfl), ctx_pick [0] [0] C (by kernel_rfl) rfl rfl⟩
      · rw [hb] at hS
        have hf := opt_f hb hf
        refine wl_pures (j := 8) hS 3 [0, 3, 4, 12] (m' := [(0, v_0), (3, v4), (4, .int .i64 x4), (12, .bool false)]) (by kernel_rfl) (by kernel_rfl) fun a hS => ?_
        refine wl_nil (by kernel_rfl) ?_
        exact q_then ⟨false, hf, hS.keep [0, 3, 4, 12] (by kernel_rfl), ctx_pick [0] [0] C (by kernel_rfl) rfl rfl⟩

def slices_ContainsFunc_api_Run.f (k : Nat) (p0 : (List S_Run)) (p1 : (S_Run → Option Bool)) : Option Bool := ((slices_IndexFunc_api_Run.f k p0 p1).bind fun t1 => (some (decide (t1 ≥ 0))))
theorem slices_ContainsFunc_api_Run_ok (k : Nat) (w0 : World) (p0 : (List S_Run)) (p1 : (S_Run → Option Bool)) (v_0 : Value) (v_1 : Value) (h_0 : Rds v_0 p0.length 2 (p0.flatMap F_Run.cells) w0) (h_1 : ∀ w', Fr nob w0 w' → ∀ (y0 : S_Run) (r : Bool), p1 y0 = some r → Fv Try.prog v_1 [.agg #[.int .i64 y0.f_At, .int .i64 y0.f_N]] w' (fun v w'' => v = .bool r ∧ Fr nob w' w'')) (res : Bool) (hf : slices_ContainsFunc_api_Run.f k p0 p1 = some res) :
    Fn Try.prog 36 [v_0, v_1] w0 (fun v w' => v = .bool res ∧ Fr nob w0 w') := by
  have C := ctx_start w0 [rdE v_0 p0.length 2 (p0.flatMap F_Run.cells)] (start1 h_0)
  generalize allDom [rdE v_0 p0.length 2 (p0.flatMap F_Run.cells)] = A0 at C
  refine f_enter (fn := Try.f36) (k := 7) rfl rfl rfl fun a hS => ?_
  have hS : Sl 9 [(0, v_0), (1, v_1)] a := hS
  rw [slices_ContainsFunc_api_Run.f] at hf
  refine c_seq (by kernel_rfl) ?_
  refine c_region (by kernel_rfl) ?_
  refine wl_pures (j := 1) hS 1 [0, 1] (m' := [(0, v_0), (1, v_1)]) (by kernel_rfl) (by kernel_rfl) fun a hS => ?_
  refine wl_nil (by kernel_rfl) ?_
  refine q_then ?_
  refine c_seq (by kernel_rfl) ?_
  refine c_region (by kernel_rfl) ?_
  refine wl_pures (j := 2) hS 2 [5, 6] (m' := [(5, v_0), (6, v_1)]) (by kernel_rfl) (by kernel_rfl) fun a hS => ?_
  obtain ⟨t1, ht1, hf⟩ := bind_some hf
  refine wl_eff (d := (some 7)) (op := (Op.call { callee := (Callee.value (Operand.func 40)), args := #[(Operand.tmp 5), (Operand.tmp 6)], argTypes := #[22, 47] })) (g := none) hS (by kernel_rfl) (by kernel_rfl) (eff_fn (by kernel_rfl) rfl (by kernel_rfl) (slices_IndexFunc_api_Run_ok k _ p0 p1 v_0 v_1 (C.okR 0 _ rfl) (fun w' hw' => h_1 w' (C.fr.then hw')) t1 ht1)) ?_
  rintro _ _ ⟨rfl, hw⟩ a hS
  have C := ctx_still C hw
  refine wl_pures (j := 5) hS 2 [4] (m' := [(4, .bool (decide (t1 ≥ 0)))]) (by kernel_rfl) (by kernel_rfl) fun a hS => ?_
  refine wl_nil (by kernel_rfl) ?_
  refine q_then ?_
  refine c_ret (by kernel_rfl) ?_
  refine q_ret hS (vs := [.bool (decide (t1 ≥ 0))]) (by kernel_rfl) ?_
  obtain rfl := Option.some.inj hf
  exact ⟨_, rfl, rfl, C.fr⟩

def extent_Has_1.f (k : Nat) (p0 : S_Run) (c0_0 : Int) : Option Bool := (if (decide (p0.f_N > 0)) = true then (if (decide (c0_0 ≥ p0.f_At)) = true then (some (decide ((WK .u64 ((WK .u64 c0_0) - (WK .u64 p0.f_At))) < (WK .u64 p0.f_N)))) else (some false)) else (some false))
theorem extent_Has_1_ok (k : Nat) (w0 : World) (p0 : S_Run) (c0_0 : Int) (b_0 : Nat) (hb_0 : (boxE b_0 3 [.int .i64 c0_0]).ok w0) (res : Bool) (hf : extent_Has_1.f k p0 c0_0 = some res) :
    Fn Try.prog 37 [.agg #[.int .i64 p0.f_At, .int .i64 p0.f_N], .pointer (some ⟨b_0, 0, none⟩)] w0 (fun v w' => v = .bool res ∧ Fr nob w0 w') := by
  have C := ctx_start w0 [boxE b_0 3 [.int .i64 c0_0]] (start1 hb_0)
  generalize allDom [boxE b_0 3 [.int .i64 c0_0]] = A0 at C
  refine f_enter (fn := Try.f37) (k := 23) rfl rfl rfl fun a hS => ?_
  have hS : Sl 25 [(0, .agg #[.int .i64 p0.f_At, .int .i64 p0.f_N]), (1, .pointer (some ⟨b_0, 0, none⟩))] a := hS
  rw [extent_Has_1.f] at hf
  refine c_seq (by kernel_rfl) ?_
  refine c_region (by kernel_rfl) ?_
  refine wl_eff (d := (some 2)) (op := (Op.box 24 (Operand.tmp 0))) (g := none) hS (by kernel_rfl) (by kernel_rfl) (eff_box C (cs := [.int .i64 p0.f_At, .int .i64 p0.f_N]) (by kernel_rfl)) ?_
  rintro _ _ ⟨b1, rfl, C⟩ a hS
  refine wl_pures (j := 2) hS 1 [1, 2] (m' := [(1, .pointer (some ⟨b_0, 0, none⟩)), (2, .pointer (some ⟨b1, 0, none⟩))]) (by kernel_rfl) (by kernel_rfl) fun a hS => ?_
  refine wl_nil (by kernel_rfl) ?_
  refine q_then ?_
  refine c_seq (by kernel_rfl) ?_
  refine c_region (by kernel_rfl) ?_
  refine wl_pures (j := 1) hS 1 [1, 2, 4] (m' := [(1, .pointer (some ⟨b_0, 0, none⟩)), (2, .pointer (some ⟨b1, 0, none⟩)), (4, .pointer (some ⟨b1, 1, none⟩))]) (by kernel_rfl) (by kernel_rfl) fun a hS => ?_
  refine wl_val (d := (some 5)) (op := (Op.load 3 (Operand.tmp 4))) (g := none) hS (by kernel_rfl) (by kernel_rfl) (r_ldb (li := 0) (off := 1) (u := .int .i64 p0.f_N) C rfl (by kernel_rfl) (by kernel_rfl) (by kernel_rfl)) fun a hS => ?_
  refine wl_pures (j := 4) hS 2 [1, 2, 7] (m' := [(1, .pointer (some ⟨b_0, 0, none⟩)), (2, .pointer (some ⟨b1, 0, none⟩)), (7, .bool (decide (p0.f_N > 0)))]) (by kernel_rfl) (by kernel_rfl) fun a hS => ?_
  rcases Bool.eq_false_or_eq_true (decide (p0.f_N > 0)) with hb | hb
  · rw [hb] at hS
    have hf := opt_t hb hf
    refine wl_val (d := (some 8)) (op := (Op.load 3 (Operand.tmp 1))) (g := (some (3, true))) hS (by kernel_rfl) (by kernel_rfl) (r_ldRb (li := 0) (off := 0) (u := .int .i64 c0_0) C rfl (by kernel_rfl) (by kernel_rfl) (by kernel_rfl)) fun a hS => ?_
    refine wl_pures (j := 6) hS 1 [1, 2, 7, 8, 9] (m' := [(1, .pointer (some ⟨b_0, 0, none⟩)), (2, .pointer (some ⟨b1, 0, none⟩)), (7, .bool true), (8, .int .i64 c0_0), (9, .pointer (some ⟨b1, 0, none⟩))]) (by kernel_rfl) (by kernel_rfl) fun a hS => ?_
    refine wl_val (d := (some 10)) (op := (Op.load 3 (Operand.tmp 9))) (g := (some (3, true))) hS (by kernel_rfl) (by kernel_rfl) (r_ldb (li := 0) (off := 0) (u := .int .i64 p0.f_At) C rfl (by kernel_rfl) (by kernel_rfl) (by kernel_rfl)) fun a hS => ?_
    refine wl_pures (j := 10) hS 3 [1, 2, 13] (m' := [(1, .pointer (some ⟨b_0, 0, none⟩)), (2, .pointer (some ⟨b1, 0, none⟩)), (13, .bool (decide (c0_0 ≥ p0.f_At)))]) (by kernel_rfl) (by kernel_rfl) fun a hS => ?_
    rcases Bool.eq_false_or_eq_true (decide (c0_0 ≥ p0.f_At)) with hb | hb
    · rw [hb] at hS
      have hf := opt_t hb hf
      refine wl_val (d := (some 14)) (op := (Op.load 3 (Operand.tmp 1))) (g := (some (9, true))) hS (by kernel_rfl) (by kernel_rfl) (r_ldRb (li := 0) (off := 0) (u := .int .i64 c0_0) C rfl (by kernel_rfl) (by kernel_rfl) (by kernel_rfl)) fun a hS => ?_
      refine wl_pures (j := 13) hS 2 [2, 13, 15, 16] (m' := [(2, .pointer (some ⟨b1, 0, none⟩)), (13, .bool true), (15, .int .u64 (WK .u64 c0_0)), (16, .pointer (some ⟨b1, 0, none⟩))]) (by kernel_rfl) (by kernel_rfl) fun a hS => ?_
      refine wl_val (d := (some 17)) (op := (Op.load 3 (Operand.tmp 16))) (g := (some (9, true))) hS (by kernel_rfl) (by kernel_rfl) (r_ldb (li := 0) (off := 0) (u := .int .i64 p0.f_At) C rfl (by kernel_rfl) (by kernel_rfl) (by kernel_rfl)) fun a hS => ?_
      refine wl_pures (j := 17) hS 3 [13, 19, 20] (m' := [(13, .bool true), (19, .int .u64 (WK .u64 ((WK .u64 c0_0) - (WK .u64 p0.f_At)))), (20, .pointer (some ⟨b1, 1, none⟩))]) (by kernel_rfl) (by kernel_rfl) fun a hS => ?_
      refine wl_val (d := (some 21)) (op := (Op.load 3 (Operand.tmp 20))) (g := (some (9, true))) hS (by kernel_rfl) (by kernel_rfl) (r_ldb (li := 0) (off := 1) (u := .int .i64 p0.f_N) C rfl (by kernel_rfl) (by kernel_rfl) (by kernel_rfl)) fun a hS => ?_
      refine wl_pures (j := 22) hS 4 [3] (m' := [(3, .bool (decide ((WK .u64 ((WK .u64 c0_0) - (WK .u64 p0.f_At))) < (WK .u64 p0.f_N))))]) (by kernel_rfl) (by kernel_rfl) fun a hS => ?_
      refine wl_nil (by kernel_rfl) ?_
      refine q_then ?_
      refine c_ret (by kernel_rfl) ?_
      refine q_ret hS (vs := [.bool (decide ((WK .u64 ((WK .u64 c0_0) - (WK .u64 p0.f_At))) < (WK .u64 p0.f_N)))]) (by kernel_rfl) ?_
      obtain rfl := Option.some.inj hf
      exact ⟨_, rfl, rfl, C.fr⟩
    · rw [hb] at hS
      have hf := opt_f hb hf
      refine wl_pures (j := 22) hS 12 [3] (m' := [(3, .bool false)]) (by kernel_rfl) (by kernel_rfl) fun a hS => ?_
      refine wl_nil (by kernel_rfl) ?_
      refine q_then ?_
      refine c_ret (by kernel_rfl) ?_
      refine q_ret hS (vs := [.bool false]) (by kernel_rfl) ?_
      obtain rfl := Option.some.inj hf
      exact ⟨_, rfl, rfl, C.fr⟩
  · rw [hb] at hS
    have hf := opt_f hb hf
    refine wl_pures (j := 22) hS 18 [3] (m' := [(3, .bool false)]) (by kernel_rfl) (by kernel_rfl) fun a hS => ?_
    refine wl_nil (by kernel_rfl) ?_
    refine q_then ?_
    refine c_ret (by kernel_rfl) ?_
    refine q_ret hS (vs := [.bool false]) (by kernel_rfl) ?_
    obtain rfl := Option.some.inj hf
    exact ⟨_, rfl, rfl, C.fr⟩

def extent_Has.f (k : Nat) (p0 : (List S_Run)) (p1 : Int) : Option Bool := ((slices_ContainsFunc_api_Run.f k p0 (fun y0 => extent_Has_1.f k y0 p1)).bind fun t1 => (some t1))
theorem extent_Has_ok (k : Nat) (w0 : World) (p0 : (List S_Run)) (p1 : Int) (v_0 : Value) (h_0 : Rds v_0 p0.length 2 (p0.flatMap F_Run.cells) w0) (res : Bool) (hf : extent_Has.f k p0 p1 = some res) :
    Fn Try.prog 19 [v_0, .int .i64 p1] w0 (fun v w' => v = .bool res ∧ Fr nob w0 w') := by
  have C := ctx_start w0 [rdE v_0 p0.length 2 (p0.flatMap F_Run.cells)] (start1 h_0)
  generalize allDom [rdE v_0 p0.length 2 (p0.flatMap F_Run.cells)] = A0 at C
  refine f_enter (fn := Try.f19) (k := 6) rfl rfl rfl fun a hS => ?_
  have hS : Sl 8 [(0, v_0), (1, .int .i64 p1)] a := hS
  rw [extent_Has.f] at hf
  refine c_seq (by kernel_rfl) ?_
  refine c_region (by kernel_rfl) ?_
  refine wl_eff (d := (some 3)) (op := (Op.box 3 (Operand.tmp 1))) (g := none) hS (by kernel_rfl) (by kernel_rfl) (eff_box C (cs := [.int .i64 p1]) (by kernel_rfl)) ?_
  rintro _ _ ⟨b1, rfl, C⟩ a hS
  refine wl_pures (j := 2) hS 1 [0, 3] (m' := [(0, v_0), (3, .pointer (some ⟨b1, 0, none⟩))]) (by kernel_rfl) (by kernel_rfl) fun a hS => ?_
  refine wl_nil (by kernel_rfl) ?_
  refine q_then ?_
  refine c_seq (by kernel_rfl) ?_
  refine c_region (by kernel_rfl) ?_
  refine wl_pures (j := 2) hS 2 [5, 6] (m' := [(5, v_0), (6, .func (.func 37) #[] #[.pointer (some ⟨b1, 0, none⟩)])]) (by kernel_rfl) (by kernel_rfl) fun a hS => ?_
  obtain ⟨t1, ht1, hf⟩ := bind_some hf
  refine wl_eff (d := (some 7)) (op := (Op.call { callee := (Callee.value (Operand.func 36)), args := #[(Operand.tmp 5), (Operand.tmp 6)], argTypes := #[22, 47] })) (g := none) hS (by kernel_rfl) (by kernel_rfl) (eff_fn (by kernel_rfl) rfl (by kernel_rfl) (slices_ContainsFunc_api_Run_ok k _ p0 (fun y0 => extent_Has_1.f k y0 p1) v_0 (.func (.func 37) #[] #[.pointer (some ⟨b1, 0, none⟩)]) (C.okR 0 _ rfl) (fun w' hw' y0 r hr => ⟨37, _, rfl, by kernel_rfl, extent_Has_1_ok k w' y0 p1 b1 ((ctx_still C hw').okL 0 _ rfl) r hr⟩) t1 ht1)) ?_
  rintro _ _ ⟨rfl, hw⟩ a hS
  have C := ctx_still C hw
  refine wl_pures (j := 4) hS 1 [4] (m' := [(4, .bool t1)]) (by kernel_rfl) (by kernel_rfl) fun a hS => ?_
  refine wl_nil (by kernel_rfl) ?_
  refine q_then ?_
  refine c_ret (by kernel_rfl) ?_
  refine q_ret hS (vs := [.bool t1]) (by kernel_rfl) ?_
  obtain rfl := Option.some.inj hf
  exact ⟨_, rfl, rfl, C.fr⟩

def scriniumlaw06_ExtentApart.j1 (x22 : Int) (LOOP2 : (Bool → Int → Option Bool)) (x23 : Bool) : Option Bool := LOOP2 x23 (W64 (x22 + 1))
def scriniumlaw06_ExtentApart.j2 (x12 : Bool) (l10 : List S_Run) (x14 : Int) (LOOP1 : (Bool → List S_Run → Int → List S_Run → Int → Option Bool)) (x24 : Int) (l11 : List S_Run) (x25 : Bool) : Option Bool := (if x25 = true then (some false) else LOOP1 x12 l11 x24 l10 (W64 (x14 + 1)))
def scriniumlaw06_ExtentApart.j3 (x12 : Bool) (l10 : List S_Run) (x14 : Int) (LOOP1 : (Bool → List S_Run → Int → List S_Run → Int → Option Bool)) (kk2 : Nat) (x24 : Int) (l11 : List S_Run) : Option Bool := ((extent_Check.f kk2 l11).bind fun t7 => (if (t7 != 0) = true then scriniumlaw06_ExtentApart.j2 x12 l10 x14 LOOP1 x24 l11 true else ((extent_Total.f kk2 l11).bind fun t8 => scriniumlaw06_ExtentApart.j2 x12 l10 x14 LOOP1 x24 l11 (t8 != x24))))
def scriniumlaw06_ExtentApart.l2 (x12 : Bool) (l9 : List S_Run) (x13 : Int) (l10 : List S_Run) (x14 : Int) (LOOP1 : (Bool → List S_Run → Int → List S_Run → Int → Option Bool)) : Nat → Bool → Int → Option Bool
  | 0, _, _ => none
  | kk2 + 1, x21, x22 => (if 0 ≤ x14 ∧ x14 < (l10.length : Int) then (if (decide (x22 < ((F_Run.at_ l10 x14).f_N))) = true then (if x21 = true then scriniumlaw06_ExtentApart.j1 x22 (scriniumlaw06_ExtentApart.l2 x12 l9 x13 l10 x14 LOOP1 kk2) true else (if 0 ≤ x14 ∧ x14 < (l10.length : Int) then ((extent_Has.f kk2 l9 (W64 (((F_Run.at_ l10 x14).f_At) + x22))).bind fun t5 => scriniumlaw06_ExtentApart.j1 x22 (scriniumlaw06_ExtentApart.l2 x12 l9 x13 l10 x14 LOOP1 kk2) t5) else none)) else (if 0 ≤ x14 ∧ x14 < (l10.length : Int) then ((extent_Give.f kk2 l9 (F_Run.at_ l10 x14)).bind fun t6 => (if (t6.2 == x21) = true then (some false) else (if t6.2 = true then (if 0 ≤ x14 ∧ x14 < (l10.length : Int) then scriniumlaw06_ExtentApart.j3 x12 l10 x14 LOOP1 kk2 (W64 (x13 + ((F_Run.at_ l10 x14).f_N))) t6.1 else none) else scriniumlaw06_ExtentApart.j3 x12 l10 x14 LOOP1 kk2 x13 t6.1))) else none)) else none)
def scriniumlaw06_ExtentApart.l1  : Nat → Bool → List S_Run → Int → List S_Run → Int → Option Bool
  | 0, _, _, _, _, _ => none
  | kk1 + 1, x12, l9, x13, l10, x14 => (if (decide (x14 < (l10.length : Int))) = true then scriniumlaw06_ExtentApart.l2 x12 l9 x13 l10 x14 (scriniumlaw06_ExtentApart.l1  kk1) kk1 false 0 else (some x12))
def scriniumlaw06_ExtentApart.f (k : Nat) (p0 : (List S_Run)) (p1 : (List S_Run)) : Option Bool := ((scriniumlaw06_awake.f k).bind fun t1 => ((scriniumlaw06_free.f k p0).bind fun t2 => ((extent_Total.f k t2).bind fun t3 => ((scriniumlaw06_file.f k p1).bind fun t4 => scriniumlaw06_ExtentApart.l1  k t1 t2 t3 t4 0))))
theorem scriniumlaw06_ExtentApart_ok (k : Nat) (w0 : World) (p0 : (List S_Run)) (p1 : (List S_Run)) (v_0 : Value) (v_1 : Value) (h_0 : Rds v_0 p0.length 2 (p0.flatMap F_Run.cells) w0) (h_1 : Rds v_1 p1.length 2 (p1.flatMap F_Run.cells) w0) (res : Bool) (hf : scriniumlaw06_ExtentApart.f k p0 p1 = some res) :
    Fn Try.prog 4 [v_0, v_1] w0 (fun v w' => v = .bool res ∧ Fr nob w0 w') := by
  have C := ctx_start w0 [rdE v_0 p0.length 2 (p0.flatMap F_Run.cells), rdE v_1 p1.length 2 (p1.flatMap F_Run.cells)] (start2 h_0 h_1)
  generalize allDom [rdE v_0 p0.length 2 (p0.flatMap F_Run.cells), rdE v_1 p1.length 2 (p1.flatMap F_Run.cells)] = A0 at C
  refine f_enter (fn := Try.f4) (k := 77) rfl rfl rfl fun a hS => ?_
  have hS : Sl 79 [(0, v_0), (1, v_1)] a := hS
  rw [scriniumlaw06_ExtentApart.f] at hf
  refine c_seq (by kernel_rfl) ?_
  refine c_region (by kernel_rfl) ?_
  refine wl_pures (j := 1) hS 1 [0, 1] (m' := [(0, v_0), (1, v_1)]) (by kernel_rfl) (by kernel_rfl) fun a hS => ?_
  refine wl_nil (by kernel_rfl) ?_
  refine q_then ?_
  refine c_seq (by kernel_rfl) ?_
  refine c_region (by kernel_rfl) ?_
  obtain ⟨t1, ht1, hf⟩ := bind_some hf
  refine wl_eff (d := (some 14)) (op := (Op.call { callee := (Callee.value (Operand.func 9)), args := #[], argTypes := #[] })) (g := none) hS (by kernel_rfl) (by kernel_rfl) (eff_fn (by kernel_rfl) rfl (by kernel_rfl) (scriniumlaw06_awake_ok k _ t1 ht1)) ?_
  rintro _ _ ⟨rfl, hw⟩ a hS
  have C := ctx_still C hw
  refine wl_pures (j := 2) hS 1 [0, 1, 5] (m' := [(0, v_0), (1, v_1), (5, .bool t1)]) (by kernel_rfl) (by kernel_rfl) fun a hS => ?_
  refine wl_nil (by kernel_rfl) ?_
  refine q_then ?_
  refine c_seq (by kernel_rfl) ?_
  refine c_region (by kernel_rfl) ?_
  refine wl_pures (j := 1) hS 1 [1, 5, 15] (m' := [(1, v_1), (5, .bool t1), (15, v_0)]) (by kernel_rfl) (by kernel_rfl) fun a hS => ?_
  obtain ⟨t2, ht2, hf⟩ := bind_some hf
  refine wl_eff (d := (some 16)) (op := (Op.call { callee := (Callee.value (Operand.func 11)), args := #[(Operand.tmp 15)], argTypes := #[22] })) (g := none) hS (by kernel_rfl) (by kernel_rfl) (eff_fn (by kernel_rfl) rfl (by kernel_rfl) (scriniumlaw06_free_ok k _ p0 v_0 (C.okR 0 _ rfl) t2 ht2)) ?_
  rintro v1 _ ⟨hw, hr1⟩ a hS
  have C := got_lies C hw hr1 (dom_one (j := 0) rfl)
  refine wl_pures (j := 3) hS 1 [1, 5, 6] (m' := [(1, v_1), (5, .bool t1), (6, v1)]) (by kernel_rfl) (by kernel_rfl) fun a hS => ?_
  refine wl_nil (by kernel_rfl) ?_
  refine q_then ?_
  refine c_seq (by kernel_rfl) ?_
  refine c_region (by kernel_rfl) ?_
  refine wl_pures (j := 1) hS 1 [1, 5, 6, 17] (m' := [(1, v_1), (5, .bool t1), (6, v1), (17, v1)]) (by kernel_rfl) (by kernel_rfl) fun a hS => ?_
  obtain ⟨t3, ht3, hf⟩ := bind_some hf
  refine wl_eff (d := (some 18)) (op := (Op.call { callee := (Callee.value (Operand.func 17)), args := #[(Operand.tmp 17)], argTypes := #[22] })) (g := none) hS (by kernel_rfl) (by kernel_rfl) (eff_fn (by kernel_rfl) rfl (by kernel_rfl) (extent_Total_ok k _ t2 v1 (C.okR 2 _ rfl) t3 ht3)) ?_
  rintro _ _ ⟨rfl, hw⟩ a hS
  have C := ctx_still C hw
  refine wl_pures (j := 3) hS 1 [1, 5, 6, 7] (m' := [(1, v_1), (5, .bool t1), (6, v1), (7, .int .i64 t3)]) (by kernel_rfl) (by kernel_rfl) fun a hS => ?_
  refine wl_nil (by kernel_rfl) ?_
  refine q_then ?_
  refine c_seq (by kernel_rfl) ?_
  refine c_region (by kernel_rfl) ?_
  refine wl_pures (j := 1) hS 1 [5, 6, 7, 19] (m' := [(5, .bool t1), (6, v1), (7, .int .i64 t3), (19, v_1)]) (by kernel_rfl) (by kernel_rfl) fun a hS => ?_
  obtain ⟨t4, ht4, hf⟩ := bind_some hf
  refine wl_eff (d := (some 20)) (op := (Op.call { callee := (Callee.value (Operand.func 18)), args := #[(Operand.tmp 19)], argTypes := #[22] })) (g := none) hS (by kernel_rfl) (by kernel_rfl) (eff_fn (by kernel_rfl) rfl (by kernel_rfl) (scriniumlaw06_file_ok k _ p1 v_1 (C.okR 1 _ rfl) t4 ht4)) ?_
  rintro v2 _ ⟨hw, hr2⟩ a hS
  have C := got_own C hw hr2
  refine wl_pures (j := 3) hS 1 [5, 6, 7, 8] (m' := [(5, .bool t1), (6, v1), (7, .int .i64 t3), (8, v2)]) (by kernel_rfl) (by kernel_rfl) fun a hS => ?_
  refine wl_nil (by kernel_rfl) ?_
  refine q_then ?_
  refine c_seq (by kernel_rfl) ?_
  refine c_seq (by kernel_rfl) ?_
  refine c_region (by kernel_rfl) ?_
  refine wl_pures (j := 1) hS 1 [5, 6, 7, 8, 9] (m' := [(5, .bool t1), (6, v1), (7, .int .i64 t3), (8, v2), (9, .int .i64 0)]) (by kernel_rfl) (by kernel_rfl) fun a hS => ?_
  refine wl_nil (by kernel_rfl) ?_
  refine q_then ?_
  refine c_block (i := 0) (by kernel_rfl) ?_
  refine c_loop (by kernel_rfl) (fun kk1 a w => ∃ x12 : Bool, ∃ l9 : List S_Run, ∃ v11 : Value, ∃ x13 : Int, ∃ l10 : List S_Run, ∃ v12 : Value, ∃ x14 : Int, scriniumlaw06_ExtentApart.l1  kk1 x12 l9 x13 l10 x14 = some res ∧ Sl 79 [(5, .bool x12), (6, v11), (7, .int .i64 x13), (8, v12), (9, .int .i64 x14)] a ∧ Ctx w0 nob A0 [rowE v12 24 2 l10.length (l10.flatMap F_Run.cells)] [rdE v11 l9.length 2 (l9.flatMap F_Run.cells)] w) k ⟨t1, t2, v1, t3, t4, v2, 0, hf, hS.keep [5, 6, 7, 8, 9] (by kernel_rfl), ctx_pick [0] [2] C (by kernel_rfl) rfl rfl⟩ ?_
  rintro kk1 a w ⟨x12, l9, v11, x13, l10, v12, x14, hf, hS, C⟩
  cases kk1 with
  | zero => exact no_none hf
  | succ kk1 =>
    rw [scriniumlaw06_ExtentApart.l1] at hf
    refine c_seq (by kernel_rfl) ?_
    refine c_seq (by kernel_rfl) ?_
    refine c_region (by kernel_rfl) ?_
    refine wl_pures (j := 2) hS 2 [5, 6, 7, 8, 9, 21, 22] (m' := [(5, .bool x12), (6, v11), (7, .int .i64 x13), (8, v12), (9, .int .i64 x14), (21, .int .i64 x14), (22, v12)]) (by kernel_rfl) (by kernel_rfl) fun a hS => ?_
    refine wl_val (d := (some 23)) (op := (Op.call { callee := (Callee.builtin Builtin.len), args := #[(Operand.tmp 22)], argTypes := #[22] })) (g := none) hS (by kernel_rfl) (by kernel_rfl) (r_len (n := l10.length) (v := v12) (rds_shp (rds_of_row (C.okL 0 _ rfl))) (by kernel_rfl) (by kernel_rfl)) fun a hS => ?_
    refine wl_pures (j := 4) hS 1 [5, 6, 7, 8, 9, 24] (m' := [(5, .bool x12), (6, v11), (7, .int .i64 x13), (8, v12), (9, .int .i64 x14), (24, .bool (decide (x14 < (l10.length : Int))))]) (by kernel_rfl) (by kernel_rfl) fun a hS => ?_
    refine wl_nil (by kernel_rfl) ?_
    refine q_then ?_
    refine c_if (b := (decide (x14 < (l10.length : Int)))) hS (by kernel_rfl) (by kernel_rfl) (fun hb => ?_) (fun hb => ?_)
    · have hf := opt_t hb hf
      refine c_skip (by kernel_rfl) ?_
      refine q_then ?_
      refine c_seq (by kernel_rfl) ?_
      refine c_block (i := 1) (by kernel_rfl) ?_
      refine c_seq (by kernel_rfl) ?_
      refine c_region (by kernel_rfl) ?_
      refine wl_pures (j := 1) hS 1 [5, 6, 7, 8, 9, 10] (m' := [(5, .bool x12), (6, v11), (7, .int .i64 x13), (8, v12), (9, .int .i64 x14), (10, .bool false)]) (by kernel_rfl) (by kernel_rfl) fun a hS => ?_
      refine wl_nil (by kernel_rfl) ?_
      refine q_then ?_
      refine c_seq (by kernel_rfl) ?_
      refine c_seq (by kernel_rfl) ?_
      refine c_region (by kernel_rfl) ?_
      refine wl_pures (j := 1) hS 1 [5, 6, 7, 8, 9, 10, 11] (m' := [(5, .bool x12), (6, v11), (7, .int .i64 x13), (8, v12), (9, .int .i64 x14), (10, .bool false), (11, .int .i64 0)]) (by kernel_rfl) (by kernel_rfl) fun a hS => ?_
      refine wl_nil (by kernel_rfl) ?_
      refine q_then ?_
      refine c_block (i := 2) (by kernel_rfl) ?_
      refine c_loop (by kernel_rfl) (fun kk2 a w => ∃ x21 : Bool, ∃ x22 : Int, scriniumlaw06_ExtentApart.l2 x12 l9 x13 l10 x14 (scriniumlaw06_ExtentApart.l1  kk1) kk2 x21 x22 = some res ∧ Sl 79 [(5, .bool x12), (6, v11), (7, .int .i64 x13), (8, v12), (9, .int .i64 x14), (10, .bool x21), (11, .int .i64 x22)] a ∧ Ctx w0 nob A0 [rowE v12 24 2 l10.length (l10.flatMap F_Run.cells)] [rdE v11 l9.length 2 (l9.flatMap F_Run.cells)] w) kk1 ⟨false, 0, hf, hS.keep [5, 6, 7, 8, 9, 10, 11] (by kernel_rfl), ctx_pick [0] [0] C (by kernel_rfl) rfl rfl⟩ ?_
      rintro kk2 a w ⟨x21, x22, hf, hS, C⟩
      cases kk2 with
      | zero => exact no_none hf
      | succ kk2 =>
        rw [scriniumlaw06_ExtentApart.l2] at hf
        refine c_seq (by kernel_rfl) ?_
        refine c_seq (by kernel_rfl) ?_
        refine c_region (by kernel_rfl) ?_
        refine wl_pures (j := 3) hS 3 [5, 6, 7, 8, 9, 10, 11, 27, 28, 29] (m' := [(5, .bool x12), (6, v11), (7, .int .i64 x13), (8, v12), (9, .int .i64 x14), (10, .bool x21), (11, .int .i64 x22), (27, .int .i64 x22), (28, v12), (29, .int .i64 x14)]) (by kernel_rfl) (by kernel_rfl) fun a hS => ?_
        obtain ⟨hi1, hf⟩ := ite_some hf
        refine wl_val (d := (some 30)) (op := (Op.indexAddr 22 (Operand.tmp 28) (Operand.tmp 29))) (g := none) hS (by kernel_rfl) (by kernel_rfl) (r_idx (i := x14) (k := .i64) (v := v12) (sz := 2) (rds_shp (rds_of_row (C.okL 0 _ rfl))) (by kernel_rfl) (by kernel_rfl) hi1.1 hi1.2 (by kernel_rfl)) fun a hS => ?_
        refine wl_pures (j := 5) hS 1 [5, 6, 7, 8, 9, 10, 11, 27, 31] (m' := [(5, .bool x12), (6, v11), (7, .int .i64 x13), (8, v12), (9, .int .i64 x14), (10, .bool x21), (11, .int .i64 x22), (27, .int .i64 x22), (31, .pointer (some ((elemA v12 (x14.toNat * 2)).add 1)))]) (by kernel_rfl) (by kernel_rfl) fun a hS => ?_
        refine wl_val (d := (some 32)) (op := (Op.load 3 (Operand.tmp 31))) (g := none) hS (by kernel_rfl) (by kernel_rfl) (r_ldF F_Run (i := x14) (off := 1) (u := .int .i64 ((F_Run.at_ l10 x14).f_N)) (rds_of_row (C.okL 0 _ rfl)) (by kernel_rfl) hi1.1 hi1.2 (by decide) (by kernel_rfl) (by kernel_rfl)) fun a hS => ?_
        refine wl_pures (j := 7) hS 1 [5, 6, 7, 8, 9, 10, 11, 33] (m' := [(5, .bool x12), (6, v11), (7, .int .i64 x13), (8, v12), (9, .int .i64 x14), (10, .bool x21), (11, .int .i64 x22), (33, .bool (decide (x22 < ((F_Run.at_ l10 x14).f_N))))]) (by kernel_rfl) (by kernel_rfl) fun a hS => ?_
        refine wl_nil (by kernel_rfl) ?_
        refine q_then ?_
        refine c_if (b := (decide (x22 < ((F_Run.at_ l10 x14).f_N)))) hS (by kernel_rfl) (by kernel_rfl) (fun hb => ?_) (fun hb => ?_)
        · have hf := opt_t hb hf
          refine c_skip (by kernel_rfl) ?_
          refine q_then ?_
          refine c_join (by kernel_rfl) (fun a w => ∃ x23 : Bool, scriniumlaw06_ExtentApart.j1 x22 (scriniumlaw06_ExtentApart.l2 x12 l9 x13 l10 x14 (scriniumlaw06_ExtentApart.l1  kk1) kk2) x23 = some res ∧ Sl 79 [(5, .bool x12), (6, v11), (7, .int .i64 x13), (8, v12), (9, .int .i64 x14), (10, .bool x23), (11, .int .i64 x22)] a ∧ Ctx w0 nob A0 [rowE v12 24 2 l10.length (l10.flatMap F_Run.cells)] [rdE v11 l9.length 2 (l9.flatMap F_Run.cells)] w) ?_ ?_
          · rintro a w ⟨x23, hf, hS, C⟩
            rw [scriniumlaw06_ExtentApart.j1] at hf
            refine c_region (by kernel_rfl) ?_
            refine wl_pures (j := 3) hS 3 [5, 6, 7, 8, 9, 10, 11] (m' := [(5, .bool x12), (6, v11), (7, .int .i64 x13), (8, v12), (9, .int .i64 x14), (10, .bool x23), (11, .int .i64 (W64 (x22 + 1)))]) (by kernel_rfl) (by kernel_rfl) fun a hS => ?_
            refine wl_nil (by kernel_rfl) ?_
            exact q_then ⟨kk2, Nat.lt_succ_self kk2, x23, (W64 (x22 + 1)), hf, hS.keep [5, 6, 7, 8, 9, 10, 11] (by kernel_rfl), ctx_pick [0] [0] C (by kernel_rfl) rfl rfl⟩
          · refine c_block (i := 3) (by kernel_rfl) ?_
            refine c_region (by kernel_rfl) ?_
            refine wl_pures (j := 2) hS 2 [5, 6, 7, 8, 9, 10, 11, 37] (m' := [(5, .bool x12), (6, v11), (7, .int .i64 x13), (8, v12), (9, .int .i64 x14), (10, .bool x21), (11, .int .i64 x22), (37, .bool x21)]) (by kernel_rfl) (by kernel_rfl) fun a hS => ?_
            rcases Bool.eq_false_or_eq_true x21 with hb | hb
            · rw [hb] at hS
              have hf := opt_t hb hf
              refine wl_pures (j := 13) hS 11 [5, 6, 7, 8, 9, 10, 11] (m' := [(5, .bool x12), (6, v11), (7, .int .i64 x13), (8, v12), (9, .int .i64 x14), (10, .bool true), (11, .int .i64 x22)]) (by kernel_rfl) (by kernel_rfl) fun a hS => ?_
              refine wl_nil (by kernel_rfl) ?_
              refine q_in ?_
              exact q_then ⟨true, hf, hS.keep [5, 6, 7, 8, 9, 10, 11] (by kernel_rfl), ctx_pick [0] [0] C (by kernel_rfl) rfl rfl⟩
            · rw [hb] at hS
              have hf := opt_f hb hf
              refine wl_pures (j := 5) hS 3 [5, 6, 7, 8, 9, 10, 11, 37, 38, 39, 40] (m' := [(5, .bool x12), (6, v11), (7, .int .i64 x13), (8, v12), (9, .int .i64 x14), (10, .bool false), (11, .int .i64 x22), (37, .bool false), (38, v11), (39, v12), (40, .int .i64 x14)]) (by kernel_rfl) (by kernel_rfl) fun a hS => ?_
              obtain ⟨hi2, hf⟩ := ite_some hf
              refine wl_val (d := (some 41)) (op := (Op.indexAddr 22 (Operand.tmp 39) (Operand.tmp 40))) (g := (some (1, false))) hS (by kernel_rfl) (by kernel_rfl) (r_idx (i := x14) (k := .i64) (v := v12) (sz := 2) (rds_shp (rds_of_row (C.okL 0 _ rfl))) (by kernel_rfl) (by kernel_rfl) hi2.1 hi2.2 (by kernel_rfl)) fun a hS => ?_
              refine wl_pures (j := 7) hS 1 [5, 6, 7, 8, 9, 10, 11, 37, 38, 42] (m' := [(5, .bool x12), (6, v11), (7, .int .i64 x13), (8, v12), (9, .int .i64 x14), (10, .bool false), (11, .int .i64 x22), (37, .bool false), (38, v11), (42, .pointer (some ((elemA v12 (x14.toNat * 2)).add 0)))]) (by kernel_rfl) (by kernel_rfl) fun a hS => ?_
              refine wl_val (d := (some 43)) (op := (Op.load 3 (Operand.tmp 42))) (g := (some (1, false))) hS (by kernel_rfl) (by kernel_rfl) (r_ldF F_Run (i := x14) (off := 0) (u := .int .i64 ((F_Run.at_ l10 x14).f_At)) (rds_of_row (C.okL 0 _ rfl)) (by kernel_rfl) hi2.1 hi2.2 (by decide) (by kernel_rfl) (by kernel_rfl)) fun a hS => ?_
              refine wl_pures (j := 10) hS 2 [5, 6, 7, 8, 9, 10, 11, 37, 38, 45] (m' := [(5, .bool x12), (6, v11), (7, .int .i64 x13), (8, v12), (9, .int .i64 x14), (10, .bool false), (11, .int .i64 x22), (37, .bool false), (38, v11), (45, .int .i64 (W64 (((F_Run.at_ l10 x14).f_At) + x22)))]) (by kernel_rfl) (by kernel_rfl) fun a hS => ?_
              obtain ⟨t5, ht5, hf⟩ := bind_some hf
              refine wl_eff (d := (some 46)) (op := (Op.call { callee := (Callee.value (Operand.func 19)), args := #[(Operand.tmp 38), (Operand.tmp 45)], argTypes := #[22, 3] })) (g := (some (1, false))) hS (by kernel_rfl) (by kernel_rfl) (eff_fn (by kernel_rfl) rfl (by kernel_rfl) (extent_Has_ok kk2 _ l9 (W64 (((F_Run.at_ l10 x14).f_At) + x22)) v11 (C.okR 0 _ rfl) t5 ht5)) ?_
              rintro _ _ ⟨rfl, hw⟩ a hS
              have C := ctx_still C hw
              refine wl_pures (j := 13) hS 2 [5, 6, 7, 8, 9, 10, 11] (m' := [(5, .bool x12), (6, v11), (7, .int .i64 x13), (8, v12), (9, .int .i64 x14), (10, .bool t5), (11, .int .i64 x22)]) (by kernel_rfl) (by kernel_rfl) fun a hS => ?_
              refine wl_nil (by kernel_rfl) ?_
              refine q_in ?_
              exact q_then ⟨t5, hf, hS.keep [5, 6, 7, 8, 9, 10, 11] (by kernel_rfl), ctx_pick [0] [0] C (by kernel_rfl) rfl rfl⟩
        · have hf := opt_f hb hf
          refine c_exit (i := 2) (by kernel_rfl) ?_
          refine q_thenx ?_
          refine q_thenx ?_
          refine q_inx ?_
          refine q_then ?_
          refine c_seq (by kernel_rfl) ?_
          refine c_region (by kernel_rfl) ?_
          refine wl_pures (j := 3) hS 3 [5, 7, 8, 9, 10, 49, 50, 51] (m' := [(5, .bool x12), (7, .int .i64 x13), (8, v12), (9, .int .i64 x14), (10, .bool x21), (49, v11), (50, v12), (51, .int .i64 x14)]) (by kernel_rfl) (by kernel_rfl) fun a hS => ?_
          obtain ⟨hi3, hf⟩ := ite_some hf
          refine wl_val (d := (some 52)) (op := (Op.indexAddr 22 (Operand.tmp 50) (Operand.tmp 51))) (g := none) hS (by kernel_rfl) (by kernel_rfl) (r_idx (i := x14) (k := .i64) (v := v12) (sz := 2) (rds_shp (rds_of_row (C.okL 0 _ rfl))) (by kernel_rfl) (by kernel_rfl) hi3.1 hi3.2 (by kernel_rfl)) fun a hS => ?_
          refine wl_val (d := (some 53)) (op := (Op.load 24 (Operand.tmp 52))) (g := none) hS (by kernel_rfl) (by kernel_rfl) (r_ldFs F_Run (i := x14) (seg := [.int .i64 ((F_Run.at_ l10 x14).f_At), .int .i64 ((F_Run.at_ l10 x14).f_N)]) (rds_of_row (C.okL 0 _ rfl)) (by kernel_rfl) hi3.1 hi3.2 (by kernel_rfl) (by kernel_rfl)) fun a hS => ?_
          obtain ⟨t6, ht6, hf⟩ := bind_some hf
          refine wl_eff (d := (some 54)) (op := (Op.call { callee := (Callee.value (Operand.func 14)), args := #[(Operand.tmp 49), (Operand.tmp 53)], argTypes := #[22, 24] })) (g := none) hS (by kernel_rfl) (by kernel_rfl) (eff_fn (by kernel_rfl) rfl (by kernel_rfl) (extent_Give_ok kk2 _ l9 (F_Run.at_ l10 x14) v11 (C.okR 0 _ rfl) t6 ht6)) ?_
          rintro _ _ ⟨v13, rfl, hw, hr3⟩ a hS
          have C := got_lies C hw hr3 (dom_one (j := 0) rfl)
          refine wl_pures (j := 11) hS 5 [5, 7, 8, 9, 10, 12, 13] (m' := [(5, .bool x12), (7, .int .i64 x13), (8, v12), (9, .int .i64 x14), (10, .bool x21), (12, v13), (13, .bool t6.2)]) (by kernel_rfl) (by kernel_rfl) fun a hS => ?_
          refine wl_nil (by kernel_rfl) ?_
          refine q_then ?_
          refine c_seq (by kernel_rfl) ?_
          refine c_seq (by kernel_rfl) ?_
          refine c_region (by kernel_rfl) ?_
          refine wl_pures (j := 3) hS 3 [5, 7, 8, 9, 12, 13, 59] (m' := [(5, .bool x12), (7, .int .i64 x13), (8, v12), (9, .int .i64 x14), (12, v13), (13, .bool t6.2), (59, .bool (t6.2 == x21))]) (by kernel_rfl) (by kernel_rfl) fun a hS => ?_
          refine wl_nil (by kernel_rfl) ?_
          refine q_then ?_
          refine c_if (b := (t6.2 == x21)) hS (by kernel_rfl) (by kernel_rfl) (fun hb => ?_) (fun hb => ?_)
          · have hf := opt_t hb hf
            refine c_seq (by kernel_rfl) ?_
            refine c_region (by kernel_rfl) ?_
            refine wl_pures (j := 1) hS 1 [4] (m' := [(4, .bool false)]) (by kernel_rfl) (by kernel_rfl) fun a hS => ?_
            refine wl_nil (by kernel_rfl) ?_
            refine q_then ?_
            refine c_ret (by kernel_rfl) ?_
            refine q_thenr ?_
            refine q_inr ?_
            refine q_thenr ?_
            refine q_thenr ?_
            refine q_inr ?_
            refine q_thenr ?_
            refine q_ret hS (vs := [.bool false]) (by kernel_rfl) ?_
            obtain rfl := Option.some.inj hf
            exact ⟨_, rfl, rfl, C.fr⟩
          · have hf := opt_f hb hf
            refine c_skip (by kernel_rfl) ?_
            refine q_then ?_
            refine c_join (by kernel_rfl) (fun a w => ∃ x24 : Int, ∃ l11 : List S_Run, ∃ v14 : Value, scriniumlaw06_ExtentApart.j3 x12 l10 x14 (scriniumlaw06_ExtentApart.l1  kk1) kk2 x24 l11 = some res ∧ Sl 79 [(5, .bool x12), (7, .int .i64 x24), (8, v12), (9, .int .i64 x14), (12, v14)] a ∧ Ctx w0 nob A0 [rowE v12 24 2 l10.length (l10.flatMap F_Run.cells)] [rdE v14 l11.length 2 (l11.flatMap F_Run.cells)] w) ?_ ?_
            · rintro a w ⟨x24, l11, v14, hf, hS, C⟩
              rw [scriniumlaw06_ExtentApart.j3] at hf
              refine c_seq (by kernel_rfl) ?_
              refine c_region (by kernel_rfl) ?_
              refine wl_pures (j := 2) hS 2 [5, 6, 7, 8, 9] (m' := [(5, .bool x12), (6, v14), (7, .int .i64 x24), (8, v12), (9, .int .i64 x14)]) (by kernel_rfl) (by kernel_rfl) fun a hS => ?_
              refine wl_nil (by kernel_rfl) ?_
              refine q_then ?_
              refine c_join (by kernel_rfl) (fun a w => ∃ x25 : Bool, scriniumlaw06_ExtentApart.j2 x12 l10 x14 (scriniumlaw06_ExtentApart.l1  kk1) x24 l11 x25 = some res ∧ Sl 79 [(5, .bool x12), (6, v14), (7, .int .i64 x24), (8, v12), (9, .int .i64 x14), (77, .bool x25)] a ∧ Ctx w0 nob A0 [rowE v12 24 2 l10.length (l10.flatMap F_Run.cells)] [rdE v14 l11.length 2 (l11.flatMap F_Run.cells)] w) ?_ ?_
              · rintro a w ⟨x25, hf, hS, C⟩
                rw [scriniumlaw06_ExtentApart.j2] at hf
                refine c_if (b := x25) hS (by kernel_rfl) (by kernel_rfl) (fun hb => ?_) (fun hb => ?_)
                · have hf := opt_t hb hf
                  refine c_seq (by kernel_rfl) ?_
                  refine c_region (by kernel_rfl) ?_
                  refine wl_pures (j := 1) hS 1 [4] (m' := [(4, .bool false)]) (by kernel_rfl) (by kernel_rfl) fun a hS => ?_
                  refine wl_nil (by kernel_rfl) ?_
                  refine q_then ?_
                  refine c_ret (by kernel_rfl) ?_
                  refine q_inr ?_
                  refine q_thenr ?_
                  refine q_thenr ?_
                  refine q_inr ?_
                  refine q_thenr ?_
                  refine q_ret hS (vs := [.bool false]) (by kernel_rfl) ?_
                  obtain rfl := Option.some.inj hf
                  exact ⟨_, rfl, rfl, C.fr⟩
                · have hf := opt_f hb hf
                  refine c_skip (by kernel_rfl) ?_
                  refine q_in ?_
                  refine q_then ?_
                  refine c_region (by kernel_rfl) ?_
                  refine wl_pures (j := 3) hS 3 [5, 6, 7, 8, 9] (m' := [(5, .bool x12), (6, v14), (7, .int .i64 x24), (8, v12), (9, .int .i64 (W64 (x14 + 1)))]) (by kernel_rfl) (by kernel_rfl) fun a hS => ?_
                  refine wl_nil (by kernel_rfl) ?_
                  exact q_then ⟨kk1, Nat.lt_succ_self kk1, x12, l11, v14, x24, l10, v12, (W64 (x14 + 1)), hf, hS.keep [5, 6, 7, 8, 9] (by kernel_rfl), ctx_pick [0] [0] C (by kernel_rfl) rfl rfl⟩
              · refine c_region (by kernel_rfl) ?_
                refine wl_pures (j := 1) hS 1 [5, 6, 7, 8, 9, 69] (m' := [(5, .bool x12), (6, v14), (7, .int .i64 x24), (8, v12), (9, .int .i64 x14), (69, v14)]) (by kernel_rfl) (by kernel_rfl) fun a hS => ?_
                obtain ⟨t7, ht7, hf⟩ := bind_some hf
                refine wl_eff (d := (some 70)) (op := (Op.call { callee := (Callee.value (Operand.func 20)), args := #[(Operand.tmp 69)], argTypes := #[22] })) (g := none) hS (by kernel_rfl) (by kernel_rfl) (eff_fn (by kernel_rfl) rfl (by kernel_rfl) (extent_Check_ok kk2 _ l11 v14 (C.okR 0 _ rfl) t7 ht7)) ?_
                rintro _ _ ⟨rfl, hw⟩ a hS
                have C := ctx_still C hw
                refine wl_pures (j := 4) hS 2 [5, 6, 7, 8, 9, 72] (m' := [(5, .bool x12), (6, v14), (7, .int .i64 x24), (8, v12), (9, .int .i64 x14), (72, .bool (t7 != 0))]) (by kernel_rfl) (by kernel_rfl) fun a hS => ?_
                rcases Bool.eq_false_or_eq_true (t7 != 0) with hb | hb
                · rw [hb] at hS
                  have hf := opt_t hb hf
                  refine wl_pures (j := 9) hS 5 [5, 6, 7, 8, 9, 77] (m' := [(5, .bool x12), (6, v14), (7, .int .i64 x24), (8, v12), (9, .int .i64 x14), (77, .bool true)]) (by kernel_rfl) (by kernel_rfl) fun a hS => ?_
                  refine wl_nil (by kernel_rfl) ?_
                  exact q_then ⟨true, hf, hS.keep [5, 6, 7, 8, 9, 77] (by kernel_rfl), ctx_pick [0] [0] C (by kernel_rfl) rfl rfl⟩
                · rw [hb] at hS
                  have hf := opt_f hb hf
                  refine wl_pures (j := 5) hS 1 [5, 6, 7, 8, 9, 72, 73] (m' := [(5, .bool x12), (6, v14), (7, .int .i64 x24), (8, v12), (9, .int .i64 x14), (72, .bool false), (73, v14)]) (by kernel_rfl) (by kernel_rfl) fun a hS => ?_
                  obtain ⟨t8, ht8, hf⟩ := bind_some hf
                  refine wl_eff (d := (some 74)) (op := (Op.call { callee := (Callee.value (Operand.func 17)), args := #[(Operand.tmp 73)], argTypes := #[22] })) (g := (some (3, false))) hS (by kernel_rfl) (by kernel_rfl) (eff_fn (by kernel_rfl) rfl (by kernel_rfl) (extent_Total_ok kk2 _ l11 v14 (C.okR 0 _ rfl) t8 ht8)) ?_
                  rintro _ _ ⟨rfl, hw⟩ a hS
                  have C := ctx_still C hw
                  refine wl_pures (j := 9) hS 3 [5, 6, 7, 8, 9, 77] (m' := [(5, .bool x12), (6, v14), (7, .int .i64 x24), (8, v12), (9, .int .i64 x14), (77, .bool (t8 != x24))]) (by kernel_rfl) (by kernel_rfl) fun a hS => ?_
                  refine wl_nil (by kernel_rfl) ?_
                  exact q_then ⟨(t8 != x24), hf, hS.keep [5, 6, 7, 8, 9, 77] (by kernel_rfl), ctx_pick [0] [0] C (by kernel_rfl) rfl rfl⟩
            · refine c_seq (by kernel_rfl) ?_
              refine c_region (by kernel_rfl) ?_
              refine wl_pures (j := 1) hS 1 [5, 7, 8, 9, 12, 60] (m' := [(5, .bool x12), (7, .int .i64 x13), (8, v12), (9, .int .i64 x14), (12, v13), (60, .bool t6.2)]) (by kernel_rfl) (by kernel_rfl) fun a hS => ?_
              refine wl_nil (by kernel_rfl) ?_
              refine q_then ?_
              refine c_if (b := t6.2) hS (by kernel_rfl) (by kernel_rfl) (fun hb => ?_) (fun hb => ?_)
              · have hf := opt_t hb hf
                refine c_region (by kernel_rfl) ?_
                refine wl_pures (j := 3) hS 3 [5, 7, 8, 9, 12, 61, 62, 63] (m' := [(5, .bool x12), (7, .int .i64 x13), (8, v12), (9, .int .i64 x14), (12, v13), (61, .int .i64 x13), (62, v12), (63, .int .i64 x14)]) (by kernel_rfl) (by kernel_rfl) fun a hS => ?_
                obtain ⟨hi4, hf⟩ := ite_some hf
                refine wl_val (d := (some 64)) (op := (Op.indexAddr 22 (Operand.tmp 62) (Operand.tmp 63))) (g := none) hS (by kernel_rfl) (by kernel_rfl) (r_idx (i := x14) (k := .i64) (v := v12) (sz := 2) (rds_shp (rds_of_row (C.okL 0 _ rfl))) (by kernel_rfl) (by kernel_rfl) hi4.1 hi4.2 (by kernel_rfl)) fun a hS => ?_
                refine wl_pures (j := 5) hS 1 [5, 7, 8, 9, 12, 61, 65] (m' := [(5, .bool x12), (7, .int .i64 x13), (8, v12), (9, .int .i64 x14), (12, v13), (61, .int .i64 x13), (65, .pointer (some ((elemA v12 (x14.toNat * 2)).add 1)))]) (by kernel_rfl) (by kernel_rfl) fun a hS => ?_
                refine wl_val (d := (some 66)) (op := (Op.load 3 (Operand.tmp 65))) (g := none) hS (by kernel_rfl) (by kernel_rfl) (r_ldF F_Run (i := x14) (off := 1) (u := .int .i64 ((F_Run.at_ l10 x14).f_N)) (rds_of_row (C.okL 0 _ rfl)) (by kernel_rfl) hi4.1 hi4.2 (by decide) (by kernel_rfl) (by kernel_rfl)) fun a hS => ?_
                refine wl_pures (j := 8) hS 2 [5, 7, 8, 9, 12] (m' := [(5, .bool x12), (7, .int .i64 (W64 (x13 + ((F_Run.at_ l10 x14).f_N)))), (8, v12), (9, .int .i64 x14), (12, v13)]) (by kernel_rfl) (by kernel_rfl) fun a hS => ?_
                refine wl_nil (by kernel_rfl) ?_
                exact q_then ⟨(W64 (x13 + ((F_Run.at_ l10 x14).f_N))), t6.1, v13, hf, hS.keep [5, 7, 8, 9, 12] (by kernel_rfl), ctx_pick [0] [1] C (by kernel_rfl) rfl rfl⟩
              · have hf := opt_f hb hf
                refine c_skip (by kernel_rfl) ?_
                exact q_then ⟨x13, t6.1, v13, hf, hS.keep [5, 7, 8, 9, 12] (by kernel_rfl), ctx_pick [0] [1] C (by kernel_rfl) rfl rfl⟩
    · have hf := opt_f hb hf
      refine c_exit (i := 0) (by kernel_rfl) ?_
      refine q_thenx ?_
      refine q_thenx ?_
      refine q_inx ?_
      refine q_then ?_
      refine c_seq (by kernel_rfl) ?_
      refine c_region (by kernel_rfl) ?_
      refine wl_pures (j := 2) hS 2 [4] (m' := [(4, .bool x12)]) (by kernel_rfl) (by kernel_rfl) fun a hS => ?_
      refine wl_nil (by kernel_rfl) ?_
      refine q_then ?_
      refine c_ret (by kernel_rfl) ?_
      refine q_ret hS (vs := [.bool x12]) (by kernel_rfl) ?_
      obtain rfl := Option.some.inj hf
      exact ⟨_, rfl, rfl, C.fr⟩

def extent_All.l2 (p0 : (List S_Run)) (x4 : Int) (LOOP1 : (List Int → Int → Option (List Int))) : Nat → List Int → Int → Option (List Int)
  | 0, _, _ => none
  | kk2 + 1, l8, x8 => (if (decide (x8 < ((F_Run.at_ p0 x4).f_N))) = true then (if (l8.length + ([(W64 (((F_Run.at_ p0 x4).f_At) + x8))]).length) * 8 ≤ 140737488355328 then (extent_All.l2 p0 x4 LOOP1 kk2) (l8 ++ [(W64 (((F_Run.at_ p0 x4).f_At) + x8))]) (W64 (x8 + 1)) else none) else LOOP1 l8 (W64 (x4 + 1)))
def extent_All.l1 (p0 : (List S_Run)) : Nat → List Int → Int → Option (List Int)
  | 0, _, _ => none
  | kk1 + 1, l4, x4 => (if (decide (x4 < (p0.length : Int))) = true then (if 0 ≤ x4 ∧ x4 < (p0.length : Int) then extent_All.l2 p0 x4 (extent_All.l1 p0 kk1) kk1 l4 0 else none) else (some l4))
def extent_All.f (k : Nat) (p0 : (List S_Run)) : Option (List Int) := extent_All.l1 p0 k [] 0
theorem extent_All_ok (k : Nat) (w0 : World) (p0 : (List S_Run)) (v_0 : Value) (h_0 : Rds v_0 p0.length 2 (p0.flatMap F_Run.cells) w0) (res : (List Int)) (hf : extent_All.f k p0 = some res) :
    Fn Try.prog 21 [v_0] w0 (fun v w' => Fr nob w0 w' ∧ Own w0 (FK .i64) 3 v res w') := by
  have C := ctx_start w0 [rdE v_0 p0.length 2 (p0.flatMap F_Run.cells)] (start1 h_0)
  generalize allDom [rdE v_0 p0.length 2 (p0.flatMap F_Run.cells)] = A0 at C
  refine f_enter (fn := Try.f21) (k := 27) rfl rfl rfl fun a hS => ?_
  have hS : Sl 28 [(0, v_0)] a := hS
  rw [extent_All.f] at hf
  refine c_seq (by kernel_rfl) ?_
  refine c_region (by kernel_rfl) ?_
  refine wl_pures (j := 1) hS 1 [0] (m' := [(0, v_0)]) (by kernel_rfl) (by kernel_rfl) fun a hS => ?_
  refine wl_nil (by kernel_rfl) ?_
  refine q_then ?_
  refine c_seq (by kernel_rfl) ?_
  refine c_region (by kernel_rfl) ?_
  refine wl_pures (j := 1) hS 1 [0, 3] (m' := [(0, v_0), (3, (.slice none 0 0))]) (by kernel_rfl) (by kernel_rfl) fun a hS => ?_
  refine wl_nil (by kernel_rfl) ?_
  refine q_then ?_
  refine c_seq (by kernel_rfl) ?_
  refine c_seq (by kernel_rfl) ?_
  refine c_region (by kernel_rfl) ?_
  refine wl_pures (j := 1) hS 1 [3, 7] (m' := [(3, (.slice none 0 0)), (7, v_0)]) (by kernel_rfl) (by kernel_rfl) fun a hS => ?_
  refine wl_val (d := (some 8)) (op := (Op.call { callee := (Callee.builtin Builtin.len), args := #[(Operand.tmp 7)], argTypes := #[22] })) (g := none) hS (by kernel_rfl) (by kernel_rfl) (r_len (n := p0.length) (v := v_0) (rds_shp (C.okR 0 _ rfl)) (by kernel_rfl) (by kernel_rfl)) fun a hS => ?_
  refine wl_pures (j := 3) hS 1 [3, 7, 8, 9] (m' := [(3, (.slice none 0 0)), (7, v_0), (8, .int .i64 (p0.length : Int)), (9, .int .i64 0)]) (by kernel_rfl) (by kernel_rfl) fun a hS => ?_
  refine wl_nil (by kernel_rfl) ?_
  refine q_then ?_
  refine c_block (i := 0) (by kernel_rfl) ?_
  have C := ctx_nilrow 3 1 C
  refine c_loop (by kernel_rfl) (fun kk1 a w => ∃ l4 : List Int, ∃ v4 : Value, ∃ x4 : Int, extent_All.l1 p0 kk1 l4 x4 = some res ∧ Sl 28 [(3, v4), (7, v_0), (8, .int .i64 (p0.length : Int)), (9, .int .i64 x4)] a ∧ Ctx w0 nob A0 [rowE v4 3 1 l4.length (l4.flatMap (FK .i64).cells)] [rdE v_0 p0.length 2 (p0.flatMap F_Run.cells)] w) k ⟨[], (.slice none 0 0), 0, hf, hS.keep [3, 7, 8, 9] (by kernel_rfl), ctx_pick [0] [0] C (by kernel_rfl) rfl rfl⟩ ?_
  rintro kk1 a w ⟨l4, v4, x4, hf, hS, C⟩
  cases kk1 with
  | zero => exact no_none hf
  | succ kk1 =>
    rw [extent_All.l1] at hf
    refine c_seq (by kernel_rfl) ?_
    refine c_region (by kernel_rfl) ?_
    refine wl_pures (j := 1) hS 1 [3, 7, 8, 9, 10] (m' := [(3, v4), (7, v_0), (8, .int .i64 (p0.length : Int)), (9, .int .i64 x4), (10, .bool (decide (x4 < (p0.length : Int))))]) (by kernel_rfl) (by kernel_rfl) fun a hS => ?_
    refine wl_nil (by kernel_rfl) ?_
    refine q_then ?_
    refine c_seq (by kernel_rfl) ?_
    refine c_if (b := (decide (x4 < (p0.length : Int)))) hS (by kernel_rfl) (by kernel_rfl) (fun hb => ?_) (fun hb => ?_)
    · have hf := opt_t hb hf
      refine c_skip (by kernel_rfl) ?_
      refine q_then ?_
      refine c_seq (by kernel_rfl) ?_
      refine c_block (i := 1) (by kernel_rfl) ?_
      refine c_seq (by kernel_rfl) ?_
      refine c_region (by kernel_rfl) ?_
      obtain ⟨hi1, hf⟩ := ite_some hf
      refine wl_val (d := (some 11)) (op := (Op.indexAddr 22 (Operand.tmp 7) (Operand.tmp 9))) (g := none) hS (by kernel_rfl) (by kernel_rfl) (r_idx (i := x4) (k := .i64) (v := v_0) (sz := 2) (rds_shp (C.okR 0 _ rfl)) (by kernel_rfl) (by kernel_rfl) hi1.1 hi1.2 (by kernel_rfl)) fun a hS => ?_
      refine wl_val (d := (some 12)) (op := (Op.load 24 (Operand.tmp 11))) (g := none) hS (by kernel_rfl) (by kernel_rfl) (r_ldFs F_Run (i := x4) (seg := [.int .i64 ((F_Run.at_ p0 x4).f_At), .int .i64 ((F_Run.at_ p0 x4).f_N)]) (C.okR 0 _ rfl) (by kernel_rfl) hi1.1 hi1.2 (by kernel_rfl) (by kernel_rfl)) fun a hS => ?_
      refine wl_eff (d := (some 5)) (op := (Op.alloc 24)) (g := none) hS (by kernel_rfl) (by kernel_rfl) (eff_alloc C (cs := [.int .i64 0, .int .i64 0]) (by kernel_rfl)) ?_
      rintro _ _ ⟨b1, rfl, C⟩ a hS
      refine wl_eff (d := none) (op := (Op.store 24 (Operand.tmp 5) (Operand.tmp 12))) (g := none) hS (by kernel_rfl) (by kernel_rfl) (eff_stb (li := 1) (off := 0) (us := [.int .i64 ((F_Run.at_ p0 x4).f_At), .int .i64 ((F_Run.at_ p0 x4).f_N)]) (cs' := [.int .i64 ((F_Run.at_ p0 x4).f_At), .int .i64 ((F_Run.at_ p0 x4).f_N)]) C rfl (by kernel_rfl) (by kernel_rfl) (by kernel_rfl) (by simp) (by kernel_rfl) (by kernel_rfl)) ?_
      rintro _ _ C a hS
      refine wl_nil (by kernel_rfl) ?_
      refine q_then ?_
      refine c_seq (by kernel_rfl) ?_
      refine c_region (by kernel_rfl) ?_
      refine wl_pures (j := 1) hS 1 [3, 5, 7, 8, 9, 13] (m' := [(3, v4), (5, .pointer (some ⟨b1, 0, none⟩)), (7, v_0), (8, .int .i64 (p0.length : Int)), (9, .int .i64 x4), (13, .pointer (some ⟨b1, 1, none⟩))]) (by kernel_rfl) (by kernel_rfl) fun a hS => ?_
      refine wl_val (d := (some 14)) (op := (Op.load 3 (Operand.tmp 13))) (g := none) hS (by kernel_rfl) (by kernel_rfl) (r_ldb (li := 1) (off := 1) (u := .int .i64 ((F_Run.at_ p0 x4).f_N)) C rfl (by kernel_rfl) (by kernel_rfl) (by kernel_rfl)) fun a hS => ?_
      refine wl_pures (j := 3) hS 1 [3, 5, 7, 8, 9, 14, 15] (m' := [(3, v4), (5, .pointer (some ⟨b1, 0, none⟩)), (7, v_0), (8, .int .i64 (p0.length : Int)), (9, .int .i64 x4), (14, .int .i64 ((F_Run.at_ p0 x4).f_N)), (15, .int .i64 0)]) (by kernel_rfl) (by kernel_rfl) fun a hS => ?_
      refine wl_nil (by kernel_rfl) ?_
      refine q_then ?_
      refine c_block (i := 2) (by kernel_rfl) ?_
      refine c_loop (by kernel_rfl) (fun kk2 a w => ∃ l8 : List Int, ∃ v8 : Value, ∃ b6 : Nat, ∃ x8 : Int, extent_All.l2 p0 x4 (extent_All.l1 p0 kk1) kk2 l8 x8 = some res ∧ Sl 28 [(3, v8), (5, .pointer (some ⟨b6, 0, none⟩)), (7, v_0), (8, .int .i64 (p0.length : Int)), (9, .int .i64 x4), (14, .int .i64 ((F_Run.at_ p0 x4).f_N)), (15, .int .i64 x8)] a ∧ Ctx w0 nob A0 [rowE v8 3 1 l8.length (l8.flatMap (FK .i64).cells), boxE b6 24 [.int .i64 ((F_Run.at_ p0 x4).f_At), .int .i64 ((F_Run.at_ p0 x4).f_N)]] [rdE v_0 p0.length 2 (p0.flatMap F_Run.cells)] w) kk1 ⟨l4, v4, b1, 0, hf, hS.keep [3, 5, 7, 8, 9, 14, 15] (by kernel_rfl), ctx_pick [0, 1] [0] C (by kernel_rfl) rfl rfl⟩ ?_
      rintro kk2 a w ⟨l8, v8, b6, x8, hf, hS, C⟩
      cases kk2 with
      | zero => exact no_none hf
      | succ kk2 =>
        rw [extent_All.l2] at hf
        refine c_seq (by kernel_rfl) ?_
        refine c_region (by kernel_rfl) ?_
        refine wl_pures (j := 1) hS 1 [3, 5, 7, 8, 9, 14, 15, 16] (m' := [(3, v8), (5, .pointer (some ⟨b6, 0, none⟩)), (7, v_0), (8, .int .i64 (p0.length : Int)), (9, .int .i64 x4), (14, .int .i64 ((F_Run.at_ p0 x4).f_N)), (15, .int .i64 x8), (16, .bool (decide (x8 < ((F_Run.at_ p0 x4).f_N))))]) (by kernel_rfl) (by kernel_rfl) fun a hS => ?_
        refine wl_nil (by kernel_rfl) ?_
        refine q_then ?_
        refine c_seq (by kernel_rfl) ?_
        refine c_if (b := (decide (x8 < ((F_Run.at_ p0 x4).f_N)))) hS (by kernel_rfl) (by kernel_rfl) (fun hb => ?_) (fun hb => ?_)
        · have hf := opt_t hb hf
          refine c_skip (by kernel_rfl) ?_
          refine q_then ?_
          refine c_seq (by kernel_rfl) ?_
          refine c_block (i := 3) (by kernel_rfl) ?_
          refine c_seq (by kernel_rfl) ?_
          refine c_region (by kernel_rfl) ?_
          refine wl_pures (j := 2) hS 2 [3, 5, 6, 7, 8, 9, 14, 15] (m' := [(3, v8), (5, .pointer (some ⟨b6, 0, none⟩)), (6, .int .i64 x8), (7, v_0), (8, .int .i64 (p0.length : Int)), (9, .int .i64 x4), (14, .int .i64 ((F_Run.at_ p0 x4).f_N)), (15, .int .i64 x8)]) (by kernel_rfl) (by kernel_rfl) fun a hS => ?_
          refine wl_nil (by kernel_rfl) ?_
          refine q_then ?_
          refine c_region (by kernel_rfl) ?_
          refine wl_pures (j := 2) hS 2 [3, 5, 6, 7, 8, 9, 14, 15, 18, 19] (m' := [(3, v8), (5, .pointer (some ⟨b6, 0, none⟩)), (6, .int .i64 x8), (7, v_0), (8, .int .i64 (p0.length : Int)), (9, .int .i64 x4), (14, .int .i64 ((F_Run.at_ p0 x4).f_N)), (15, .int .i64 x8), (18, v8), (19, .pointer (some ⟨b6, 0, none⟩))]) (by kernel_rfl) (by kernel_rfl) fun a hS => ?_
          refine wl_val (d := (some 20)) (op := (Op.load 3 (Operand.tmp 19))) (g := none) hS (by kernel_rfl) (by kernel_rfl) (r_ldb (li := 1) (off := 0) (u := .int .i64 ((F_Run.at_ p0 x4).f_At)) C rfl (by kernel_rfl) (by kernel_rfl) (by kernel_rfl)) fun a hS => ?_
          refine wl_pures (j := 5) hS 2 [3, 5, 7, 8, 9, 14, 15, 18, 22] (m' := [(3, v8), (5, .pointer (some ⟨b6, 0, none⟩)), (7, v_0), (8, .int .i64 (p0.length : Int)), (9, .int .i64 x4), (14, .int .i64 ((F_Run.at_ p0 x4).f_N)), (15, .int .i64 x8), (18, v8), (22, .int .i64 (W64 (((F_Run.at_ p0 x4).f_At) + x8)))]) (by kernel_rfl) (by kernel_rfl) fun a hS => ?_
          refine wl_eff (d := (some 23)) (op := (Op.buildSlice 38 1 #[(0, (Operand.tmp 22))])) (g := none) hS (by kernel_rfl) (by kernel_rfl) (eff_slit (e := 3) (sz := 1) (cs := [.int .i64 (W64 (((F_Run.at_ p0 x4).f_At) + x8))]) C (by kernel_rfl) (by kernel_rfl) (by decide)) ?_
          rintro v9 _ ⟨-, C⟩ a hS
          have C := ctx_relist (li := 2) (F := (FK .i64)) (l := [(W64 (((F_Run.at_ p0 x4).f_At) + x8))]) C rfl rfl rfl
          obtain ⟨hl1, hf⟩ := ite_some hf
          refine wl_eff (d := (some 24)) (op := (Op.call { callee := (Callee.builtin Builtin.append), args := #[(Operand.tmp 18), (Operand.tmp 23)], argTypes := #[38, 38] })) (g := none) hS (by kernel_rfl) (by kernel_rfl) (eff_append (li := 0) (n := l8.length) (m := ([(W64 (((F_Run.at_ p0 x4).f_At) + x8))]).length) (sz := 1) (bytes := 8) (z := (.int .i64 0)) C rfl (by kernel_rfl) (by kernel_rfl) (rds_of_row (C.okL 2 _ rfl)) (all_one (flat_all _ _)) (by kernel_rfl) rfl (by decide) hl1 (by decide)) ?_
          rintro v10 _ C a hS
          have C := ctx_relist (li := 0) (F := (FK .i64)) (l := (l8 ++ [(W64 (((F_Run.at_ p0 x4).f_At) + x8))])) C rfl (by simp only [List.length_append, List.length_set]) List.flatMap_append.symm
          refine wl_pures (j := 8) hS 1 [3, 5, 7, 8, 9, 14, 15] (m' := [(3, v10), (5, .pointer (some ⟨b6, 0, none⟩)), (7, v_0), (8, .int .i64 (p0.length : Int)), (9, .int .i64 x4), (14, .int .i64 ((F_Run.at_ p0 x4).f_N)), (15, .int .i64 x8)]) (by kernel_rfl) (by kernel_rfl) fun a hS => ?_
          refine wl_nil (by kernel_rfl) ?_
          refine q_in ?_
          refine q_then ?_
          refine c_region (by kernel_rfl) ?_
          refine wl_pures (j := 2) hS 2 [3, 5, 7, 8, 9, 14, 15] (m' := [(3, v10), (5, .pointer (some ⟨b6, 0, none⟩)), (7, v_0), (8, .int .i64 (p0.length : Int)), (9, .int .i64 x4), (14, .int .i64 ((F_Run.at_ p0 x4).f_N)), (15, .int .i64 (W64 (x8 + 1)))]) (by kernel_rfl) (by kernel_rfl) fun a hS => ?_
          refine wl_nil (by kernel_rfl) ?_
          exact q_then ⟨kk2, Nat.lt_succ_self kk2, (l8 ++ [(W64 (((F_Run.at_ p0 x4).f_At) + x8))]), v10, b6, (W64 (x8 + 1)), hf, hS.keep [3, 5, 7, 8, 9, 14, 15] (by kernel_rfl), ctx_pick [0, 1] [0] C (by kernel_rfl) rfl rfl⟩
        · have hf := opt_f hb hf
          refine c_exit (i := 2) (by kernel_rfl) ?_
          refine q_thenx ?_
          refine q_thenx ?_
          refine q_inx ?_
          refine q_in ?_
          refine q_then ?_
          refine c_region (by kernel_rfl) ?_
          refine wl_pures (j := 2) hS 2 [3, 7, 8, 9] (m' := [(3, v8), (7, v_0), (8, .int .i64 (p0.length : Int)), (9, .int .i64 (W64 (x4 + 1)))]) (by kernel_rfl) (by kernel_rfl) fun a hS => ?_
          refine wl_nil (by kernel_rfl) ?_
          exact q_then ⟨kk1, Nat.lt_succ_self kk1, l8, v8, (W64 (x4 + 1)), hf, hS.keep [3, 7, 8, 9] (by kernel_rfl), ctx_pick [0] [0] C (by kernel_rfl) rfl rfl⟩
    · have hf := opt_f hb hf
      refine c_exit (i := 0) (by kernel_rfl) ?_
      refine q_thenx ?_
      refine q_thenx ?_
      refine q_inx ?_
      refine q_then ?_
      refine c_seq (by kernel_rfl) ?_
      refine c_region (by kernel_rfl) ?_
      refine wl_pures (j := 2) hS 2 [2] (m' := [(2, v4)]) (by kernel_rfl) (by kernel_rfl) fun a hS => ?_
      refine wl_nil (by kernel_rfl) ?_
      refine q_then ?_
      refine c_ret (by kernel_rfl) ?_
      refine q_ret hS (vs := [v4]) (by kernel_rfl) ?_
      obtain rfl := Option.some.inj hf
      exact ⟨_, rfl, C.fr, ret_own (li := 0) C rfl rfl⟩

def scriniumref06_All.l2 (p0 : (List S_Run)) (x4 : Int) (LOOP1 : (List Int → Int → Option (List Int))) : Nat → List Int → Int → Option (List Int)
  | 0, _, _ => none
  | kk2 + 1, l8, x8 => (if 0 ≤ x4 ∧ x4 < (p0.length : Int) then (if (decide (x8 < ((F_Run.at_ p0 x4).f_N))) = true then (if 0 ≤ x4 ∧ x4 < (p0.length : Int) then (if (l8.length + ([(W64 (((F_Run.at_ p0 x4).f_At) + x8))]).length) * 8 ≤ 140737488355328 then (scriniumref06_All.l2 p0 x4 LOOP1 kk2) (l8 ++ [(W64 (((F_Run.at_ p0 x4).f_At) + x8))]) (W64 (x8 + 1)) else none) else none) else LOOP1 l8 (W64 (x4 + 1))) else none)
def scriniumref06_All.l1 (p0 : (List S_Run)) : Nat → List Int → Int → Option (List Int)
  | 0, _, _ => none
  | kk1 + 1, l4, x4 => (if (decide (x4 < (p0.length : Int))) = true then scriniumref06_All.l2 p0 x4 (scriniumref06_All.l1 p0 kk1) kk1 l4 0 else (some l4))
def scriniumref06_All.f (k : Nat) (p0 : (List S_Run)) : Option (List Int) := scriniumref06_All.l1 p0 k [] 0
theorem scriniumref06_All_ok (k : Nat) (w0 : World) (p0 : (List S_Run)) (v_0 : Value) (h_0 : Rds v_0 p0.length 2 (p0.flatMap F_Run.cells) w0) (res : (List Int)) (hf : scriniumref06_All.f k p0 = some res) :
    Fn Try.prog 22 [v_0] w0 (fun v w' => Fr nob w0 w' ∧ Own w0 (FK .i64) 3 v res w') := by
  have C := ctx_start w0 [rdE v_0 p0.length 2 (p0.flatMap F_Run.cells)] (start1 h_0)
  generalize allDom [rdE v_0 p0.length 2 (p0.flatMap F_Run.cells)] = A0 at C
  refine f_enter (fn := Try.f22) (k := 31) rfl rfl rfl fun a hS => ?_
  have hS : Sl 32 [(0, v_0)] a := hS
  rw [scriniumref06_All.f] at hf
  refine c_seq (by kernel_rfl) ?_
  refine c_region (by kernel_rfl) ?_
  refine wl_pures (j := 1) hS 1 [0] (m' := [(0, v_0)]) (by kernel_rfl) (by kernel_rfl) fun a hS => ?_
  refine wl_nil (by kernel_rfl) ?_
  refine q_then ?_
  refine c_seq (by kernel_rfl) ?_
  refine c_region (by kernel_rfl) ?_
  refine wl_pures (j := 1) hS 1 [0, 3] (m' := [(0, v_0), (3, (.slice none 0 0))]) (by kernel_rfl) (by kernel_rfl) fun a hS => ?_
  refine wl_nil (by kernel_rfl) ?_
  refine q_then ?_
  refine c_seq (by kernel_rfl) ?_
  refine c_seq (by kernel_rfl) ?_
  refine c_region (by kernel_rfl) ?_
  refine wl_pures (j := 1) hS 1 [0, 3, 4] (m' := [(0, v_0), (3, (.slice none 0 0)), (4, .int .i64 0)]) (by kernel_rfl) (by kernel_rfl) fun a hS => ?_
  refine wl_nil (by kernel_rfl) ?_
  refine q_then ?_
  refine c_block (i := 0) (by kernel_rfl) ?_
  have C := ctx_nilrow 3 1 C
  refine c_loop (by kernel_rfl) (fun kk1 a w => ∃ l4 : List Int, ∃ v4 : Value, ∃ x4 : Int, scriniumref06_All.l1 p0 kk1 l4 x4 = some res ∧ Sl 32 [(0, v_0), (3, v4), (4, .int .i64 x4)] a ∧ Ctx w0 nob A0 [rowE v4 3 1 l4.length (l4.flatMap (FK .i64).cells)] [rdE v_0 p0.length 2 (p0.flatMap F_Run.cells)] w) k ⟨[], (.slice none 0 0), 0, hf, hS.keep [0, 3, 4] (by kernel_rfl), ctx_pick [0] [0] C (by kernel_rfl) rfl rfl⟩ ?_
  rintro kk1 a w ⟨l4, v4, x4, hf, hS, C⟩
  cases kk1 with
  | zero => exact no_none hf
  | succ kk1 =>
    rw [scriniumref06_All.l1] at hf
    refine c_seq (by kernel_rfl) ?_
    refine c_seq (by kernel_rfl) ?_
    refine c_region (by kernel_rfl) ?_
    refine wl_pures (j := 2) hS 2 [0, 3, 4, 6, 7] (m' := [(0, v_0), (3, v4), (4, .int .i64 x4), (6, .int .i64 x4), (7, v_0)]) (by kernel_rfl) (by kernel_rfl) fun a hS => ?_
    refine wl_val (d := (some 8)) (op := (Op.call { callee := (Callee.builtin Builtin.len), args := #[(Operand.tmp 7)], argTypes := #[22] })) (g := none) hS (by kernel_rfl) (by kernel_rfl) (r_len (n := p0.length) (v := v_0) (rds_shp (C.okR 0 _ rfl)) (by kernel_rfl) (by kernel_rfl)) fun a hS => ?_
    refine wl_pures (j := 4) hS 1 [0, 3, 4, 9] (m' := [(0, v_0), (3, v4), (4, .int .i64 x4), (9, .bool (decide (x4 < (p0.length : Int))))]) (by kernel_rfl) (by kernel_rfl) fun a hS => ?_
    refine wl_nil (by kernel_rfl) ?_
    refine q_then ?_
    refine c_if (b := (decide (x4 < (p0.length : Int)))) hS (by kernel_rfl) (by kernel_rfl) (fun hb => ?_) (fun hb => ?_)
    · have hf := opt_t hb hf
      refine c_skip (by kernel_rfl) ?_
      refine q_then ?_
      refine c_seq (by kernel_rfl) ?_
      refine c_block (i := 1) (by kernel_rfl) ?_
      refine c_seq (by kernel_rfl) ?_
      refine c_region (by kernel_rfl) ?_
      refine wl_pures (j := 1) hS 1 [0, 3, 4, 5] (m' := [(0, v_0), (3, v4), (4, .int .i64 x4), (5, .int .i64 0)]) (by kernel_rfl) (by kernel_rfl) fun a hS => ?_
      refine wl_nil (by kernel_rfl) ?_
      refine q_then ?_
      refine c_block (i := 2) (by kernel_rfl) ?_
      refine c_loop (by kernel_rfl) (fun kk2 a w => ∃ l8 : List Int, ∃ v8 : Value, ∃ x8 : Int, scriniumref06_All.l2 p0 x4 (scriniumref06_All.l1 p0 kk1) kk2 l8 x8 = some res ∧ Sl 32 [(0, v_0), (3, v8), (4, .int .i64 x4), (5, .int .i64 x8)] a ∧ Ctx w0 nob A0 [rowE v8 3 1 l8.length (l8.flatMap (FK .i64).cells)] [rdE v_0 p0.length 2 (p0.flatMap F_Run.cells)] w) kk1 ⟨l4, v4, 0, hf, hS.keep [0, 3, 4, 5] (by kernel_rfl), ctx_pick [0] [0] C (by kernel_rfl) rfl rfl⟩ ?_
      rintro kk2 a w ⟨l8, v8, x8, hf, hS, C⟩
      cases kk2 with
      | zero => exact no_none hf
      | succ kk2 =>
        rw [scriniumref06_All.l2] at hf
        refine c_seq (by kernel_rfl) ?_
        refine c_seq (by kernel_rfl) ?_
        refine c_region (by kernel_rfl) ?_
        refine wl_pures (j := 3) hS 3 [0, 3, 4, 5, 12, 13, 14] (m' := [(0, v_0), (3, v8), (4, .int .i64 x4), (5, .int .i64 x8), (12, .int .i64 x8), (13, v_0), (14, .int .i64 x4)]) (by kernel_rfl) (by kernel_rfl) fun a hS => ?_
        obtain ⟨hi1, hf⟩ := ite_some hf
        refine wl_val (d := (some 15)) (op := (Op.indexAddr 22 (Operand.tmp 13) (Operand.tmp 14))) (g := none) hS (by kernel_rfl) (by kernel_rfl) (r_idx (i := x4) (k := .i64) (v := v_0) (sz := 2) (rds_shp (C.okR 0 _ rfl)) (by kernel_rfl) (by kernel_rfl) hi1.1 hi1.2 (by kernel_rfl)) fun a hS => ?_
        refine wl_pures (j := 5) hS 1 [0, 3, 4, 5, 12, 16] (m' := [(0, v_0), (3, v8), (4, .int .i64 x4), (5, .int .i64 x8), (12, .int .i64 x8), (16, .pointer (some ((elemA v_0 (x4.toNat * 2)).add 1)))]) (by kernel_rfl) (by kernel_rfl) fun a hS => ?_
        refine wl_val (d := (some 17)) (op := (Op.load 3 (Operand.tmp 16))) (g := none) hS (by kernel_rfl) (by kernel_rfl) (r_ldF F_Run (i := x4) (off := 1) (u := .int .i64 ((F_Run.at_ p0 x4).f_N)) (C.okR 0 _ rfl) (by kernel_rfl) hi1.1 hi1.2 (by decide) (by kernel_rfl) (by kernel_rfl)) fun a hS => ?_
        refine wl_pures (j := 7) hS 1 [0, 3, 4, 5, 18] (m' := [(0, v_0), (3, v8), (4, .int .i64 x4), (5, .int .i64 x8), (18, .bool (decide (x8 < ((F_Run.at_ p0 x4).f_N))))]) (by kernel_rfl) (by kernel_rfl) fun a hS => ?_
        refine wl_nil (by kernel_rfl) ?_
        refine q_then ?_
        refine c_if (b := (decide (x8 < ((F_Run.at_ p0 x4).f_N)))) hS (by kernel_rfl) (by kernel_rfl) (fun hb => ?_) (fun hb => ?_)
        · have hf := opt_t hb hf
          refine c_skip (by kernel_rfl) ?_
          refine q_then ?_
          refine c_seq (by kernel_rfl) ?_
          refine c_block (i := 3) (by kernel_rfl) ?_
          refine c_region (by kernel_rfl) ?_
          refine wl_pures (j := 3) hS 3 [0, 3, 4, 5, 21, 22, 23] (m' := [(0, v_0), (3, v8), (4, .int .i64 x4), (5, .int .i64 x8), (21, v8), (22, v_0), (23, .int .i64 x4)]) (by kernel_rfl) (by kernel_rfl) fun a hS => ?_
          obtain ⟨hi2, hf⟩ := ite_some hf
          refine wl_val (d := (some 24)) (op := (Op.indexAddr 22 (Operand.tmp 22) (Operand.tmp 23))) (g := none) hS (by kernel_rfl) (by kernel_rfl) (r_idx (i := x4) (k := .i64) (v := v_0) (sz := 2) (rds_shp (C.okR 0 _ rfl)) (by kernel_rfl) (by kernel_rfl) hi2.1 hi2.2 (by kernel_rfl)) fun a hS => ?_
          refine wl_pures (j := 5) hS 1 [0, 3, 4, 5, 21, 25] (m' := [(0, v_0), (3, v8), (4, .int .i64 x4), (5, .int .i64 x8), (21, v8), (25, .pointer (some ((elemA v_0 (x4.toNat * 2)).add 0)))]) (by kernel_rfl) (by kernel_rfl) fun a hS => ?_
          refine wl_val (d := (some 26)) (op := (Op.load 3 (Operand.tmp 25))) (g := none) hS (by kernel_rfl) (by kernel_rfl) (r_ldF F_Run (i := x4) (off := 0) (u := .int .i64 ((F_Run.at_ p0 x4).f_At)) (C.okR 0 _ rfl) (by kernel_rfl) hi2.1 hi2.2 (by decide) (by kernel_rfl) (by kernel_rfl)) fun a hS => ?_
          refine wl_pures (j := 8) hS 2 [0, 3, 4, 5, 21, 28] (m' := [(0, v_0), (3, v8), (4, .int .i64 x4), (5, .int .i64 x8), (21, v8), (28, .int .i64 (W64 (((F_Run.at_ p0 x4).f_At) + x8)))]) (by kernel_rfl) (by kernel_rfl) fun a hS => ?_
          refine wl_eff (d := (some 29)) (op := (Op.buildSlice 38 1 #[(0, (Operand.tmp 28))])) (g := none) hS (by kernel_rfl) (by kernel_rfl) (eff_slit (e := 3) (sz := 1) (cs := [.int .i64 (W64 (((F_Run.at_ p0 x4).f_At) + x8))]) C (by kernel_rfl) (by kernel_rfl) (by decide)) ?_
          rintro v9 _ ⟨-, C⟩ a hS
          have C := ctx_relist (li := 1) (F := (FK .i64)) (l := [(W64 (((F_Run.at_ p0 x4).f_At) + x8))]) C rfl rfl rfl
          obtain ⟨hl1, hf⟩ := ite_some hf
          refine wl_eff (d := (some 30)) (op := (Op.call { callee := (Callee.builtin Builtin.append), args := #[(Operand.tmp 21), (Operand.tmp 29)], argTypes := #[38, 38] })) (g := none) hS (by kernel_rfl) (by kernel_rfl) (eff_append (li := 0) (n := l8.length) (m := ([(W64 (((F_Run.at_ p0 x4).f_At) + x8))]).length) (sz := 1) (bytes := 8) (z := (.int .i64 0)) C rfl (by kernel_rfl) (by kernel_rfl) (rds_of_row (C.okL 1 _ rfl)) (all_one (flat_all _ _)) (by kernel_rfl) rfl (by decide) hl1 (by decide)) ?_
          rintro v10 _ C a hS
          have C := ctx_relist (li := 0) (F := (FK .i64)) (l := (l8 ++ [(W64 (((F_Run.at_ p0 x4).f_At) + x8))])) C rfl (by simp only [List.length_append, List.length_set]) List.flatMap_append.symm
          refine wl_pures (j := 11) hS 1 [0, 3, 4, 5] (m' := [(0, v_0), (3, v10), (4, .int .i64 x4), (5, .int .i64 x8)]) (by kernel_rfl) (by kernel_rfl) fun a hS => ?_
          refine wl_nil (by kernel_rfl) ?_
          refine q_in ?_
          refine q_then ?_
          refine c_region (by kernel_rfl) ?_
          refine wl_pures (j := 3) hS 3 [0, 3, 4, 5] (m' := [(0, v_0), (3, v10), (4, .int .i64 x4), (5, .int .i64 (W64 (x8 + 1)))]) (by kernel_rfl) (by kernel_rfl) fun a hS => ?_
          refine wl_nil (by kernel_rfl) ?_
          exact q_then ⟨kk2, Nat.lt_succ_self kk2, (l8 ++ [(W64 (((F_Run.at_ p0 x4).f_At) + x8))]), v10, (W64 (x8 + 1)), hf, hS.keep [0, 3, 4, 5] (by kernel_rfl), ctx_pick [0] [0] C (by kernel_rfl) rfl rfl⟩
        · have hf := opt_f hb hf
          refine c_exit (i := 2) (by kernel_rfl) ?_
          refine q_thenx ?_
          refine q_thenx ?_
          refine q_inx ?_
          refine q_in ?_
          refine q_then ?_
          refine c_region (by kernel_rfl) ?_
          refine wl_pures (j := 3) hS 3 [0, 3, 4] (m' := [(0, v_0), (3, v8), (4, .int .i64 (W64 (x4 + 1)))]) (by kernel_rfl) (by kernel_rfl) fun a hS => ?_
          refine wl_nil (by kernel_rfl) ?_
          exact q_then ⟨kk1, Nat.lt_succ_self kk1, l8, v8, (W64 (x4 + 1)), hf, hS.keep [0, 3, 4] (by kernel_rfl), ctx_pick [0] [0] C (by kernel_rfl) rfl rfl⟩
    · have hf := opt_f hb hf
      refine c_exit (i := 0) (by kernel_rfl) ?_
      refine q_thenx ?_
      refine q_thenx ?_
      refine q_inx ?_
      refine q_then ?_
      refine c_seq (by kernel_rfl) ?_
      refine c_region (by kernel_rfl) ?_
      refine wl_pures (j := 2) hS 2 [2] (m' := [(2, v4)]) (by kernel_rfl) (by kernel_rfl) fun a hS => ?_
      refine wl_nil (by kernel_rfl) ?_
      refine q_then ?_
      refine c_ret (by kernel_rfl) ?_
      refine q_ret hS (vs := [v4]) (by kernel_rfl) ?_
      obtain rfl := Option.some.inj hf
      exact ⟨_, rfl, C.fr, ret_own (li := 0) C rfl rfl⟩

end Go.Proofs.Ytmpnlafggebaiaa
