/- Value functions of Ytmpnlafggebaiaa and the walks that show them, part 1. No condition. -/
import Derived.Test.YtmpnlafggebaiaaLH
import Derived.Test.YtmpnlafggebaiaaProg
set_option linter.unusedVariables false
set_option linter.unusedSimpArgs false
namespace Go.Proofs.Ytmpnlafggebaiaa
open Go
structure S_Run where
  f_At : Int
  f_N : Int
def F_Run : Flat S_Run := ⟨2, fun x => [.int .i64 x.f_At, .int .i64 x.f_N], ⟨0, 0⟩, fun _ => rfl, fun x v h => by simp at h; rcases h with rfl | rfl <;> rfl⟩
structure S_T37 where
  e_0 : Int
  e_1 : Int
def F_T37 : Flat S_T37 := ⟨2, fun x => [.int .i64 x.e_0, .int .i64 x.e_1], ⟨0, 0⟩, fun _ => rfl, fun x v h => by simp at h; rcases h with rfl | rfl <;> rfl⟩

def extent_end.f (k : Nat) (p0 : S_Run) : Option Int := (some (W64 (p0.f_At + p0.f_N)))
theorem extent_end_ok (k : Nat) (w0 : World) (p0 : S_Run)   (res : Int) (hf : extent_end.f k p0 = some res) :
    Fn Try.prog 34 [.agg #[.int .i64 p0.f_At, .int .i64 p0.f_N]] w0 (fun v w' => v = .int .i64 res ∧ Fr nob w0 w') := by
  have C := ctx_start w0 [] (by simp)
  generalize allDom [] = A0 at C
  refine f_enter (fn := Try.f34) (k := 7) rfl rfl rfl fun a hS => ?_
  have hS : Sl 8 [(0, .agg #[.int .i64 p0.f_At, .int .i64 p0.f_N])] a := hS
  rw [extent_end.f] at hf
  refine c_seq (by kernel_rfl) ?_
  refine c_region (by kernel_rfl) ?_
  refine wl_eff (d := (some 1)) (op := (Op.box 24 (Operand.tmp 0))) (g := none) hS (by kernel_rfl) (by kernel_rfl) (eff_box C (cs := [.int .i64 p0.f_At, .int .i64 p0.f_N]) (by kernel_rfl)) ?_
  rintro _ _ ⟨b1, rfl, C⟩ a hS
  refine wl_pures (j := 2) hS 1 [1] (m' := [(1, .pointer (some ⟨b1, 0, none⟩))]) (by kernel_rfl) (by kernel_rfl) fun a hS => ?_
  refine wl_nil (by kernel_rfl) ?_
  refine q_then ?_
  refine c_seq (by kernel_rfl) ?_
  refine c_region (by kernel_rfl) ?_
  refine wl_pures (j := 1) hS 1 [1, 3] (m' := [(1, .pointer (some ⟨b1, 0, none⟩)), (3, .pointer (some ⟨b1, 0, none⟩))]) (by kernel_rfl) (by kernel_rfl) fun a hS => ?_
  refine wl_val (d := (some 4)) (op := (Op.load 3 (Operand.tmp 3))) (g := none) hS (by kernel_rfl) (by kernel_rfl) (r_ldb (li := 0) (off := 0) (u := .int .i64 p0.f_At) C rfl (by kernel_rfl) (by kernel_rfl) (by kernel_rfl)) fun a hS => ?_
  refine wl_pures (j := 3) hS 1 [4, 5] (m' := [(4, .int .i64 p0.f_At), (5, .pointer (some ⟨b1, 1, none⟩))]) (by kernel_rfl) (by kernel_rfl) fun a hS => ?_
  refine wl_val (d := (some 6)) (op := (Op.load 3 (Operand.tmp 5))) (g := none) hS (by kernel_rfl) (by kernel_rfl) (r_ldb (li := 0) (off := 1) (u := .int .i64 p0.f_N) C rfl (by kernel_rfl) (by kernel_rfl) (by kernel_rfl)) fun a hS => ?_
  refine wl_pures (j := 6) hS 2 [2] (m' := [(2, .int .i64 (W64 (p0.f_At + p0.f_N)))]) (by kernel_rfl) (by kernel_rfl) fun a hS => ?_
  refine wl_nil (by kernel_rfl) ?_
  refine q_then ?_
  refine c_ret (by kernel_rfl) ?_
  refine q_ret hS (vs := [.int .i64 (W64 (p0.f_At + p0.f_N))]) (by kernel_rfl) ?_
  obtain rfl := Option.some.inj hf
  exact ⟨_, rfl, rfl, C.fr⟩

def extent_good.f (k : Nat) (p0 : S_Run) : Option Bool := (if (decide (p0.f_N ≥ 1)) = true then (if (decide (p0.f_N ≤ 65536)) = true then (if (decide (p0.f_At ≥ 0)) = true then (if (decide (p0.f_At < 65536)) = true then ((extent_end.f k (⟨p0.f_At, p0.f_N⟩ : S_Run)).bind fun t1 => (some (decide (t1 ≤ 65536)))) else (some false)) else (some false)) else (some false)) else (some false))
theorem extent_good_ok (k : Nat) (w0 : World) (p0 : S_Run)   (res : Bool) (hf : extent_good.f k p0 = some res) :
    Fn Try.prog 31 [.agg #[.int .i64 p0.f_At, .int .i64 p0.f_N]] w0 (fun v w' => v = .bool res ∧ Fr nob w0 w') := by
  have C := ctx_start w0 [] (by simp)
  generalize allDom [] = A0 at C
  refine f_enter (fn := Try.f31) (k := 25) rfl rfl rfl fun a hS => ?_
  have hS : Sl 26 [(0, .agg #[.int .i64 p0.f_At, .int .i64 p0.f_N])] a := hS
  rw [extent_good.f] at hf
  refine c_seq (by kernel_rfl) ?_
  refine c_region (by kernel_rfl) ?_
  refine wl_eff (d := (some 1)) (op := (Op.box 24 (Operand.tmp 0))) (g := none) hS (by kernel_rfl) (by kernel_rfl) (eff_box C (cs := [.int .i64 p0.f_At, .int .i64 p0.f_N]) (by kernel_rfl)) ?_
  rintro _ _ ⟨b1, rfl, C⟩ a hS
  refine wl_pures (j := 2) hS 1 [1] (m' := [(1, .pointer (some ⟨b1, 0, none⟩))]) (by kernel_rfl) (by kernel_rfl) fun a hS => ?_
  refine wl_nil (by kernel_rfl) ?_
  refine q_then ?_
  refine c_seq (by kernel_rfl) ?_
  refine c_region (by kernel_rfl) ?_
  refine wl_pures (j := 1) hS 1 [1, 3] (m' := [(1, .pointer (some ⟨b1, 0, none⟩)), (3, .pointer (some ⟨b1, 1, none⟩))]) (by kernel_rfl) (by kernel_rfl) fun a hS => ?_
  refine wl_val (d := (some 4)) (op := (Op.load 3 (Operand.tmp 3))) (g := none) hS (by kernel_rfl) (by kernel_rfl) (r_ldb (li := 0) (off := 1) (u := .int .i64 p0.f_N) C rfl (by kernel_rfl) (by kernel_rfl) (by kernel_rfl)) fun a hS => ?_
  refine wl_pures (j := 4) hS 2 [1, 6] (m' := [(1, .pointer (some ⟨b1, 0, none⟩)), (6, .bool (decide (p0.f_N ≥ 1)))]) (by kernel_rfl) (by kernel_rfl) fun a hS => ?_
  rcases Bool.eq_false_or_eq_true (decide (p0.f_N ≥ 1)) with hb | hb
  · rw [hb] at hS
    have hf := opt_t hb hf
    refine wl_pures (j := 5) hS 1 [1, 6, 7] (m' := [(1, .pointer (some ⟨b1, 0, none⟩)), (6, .bool true), (7, .pointer (some ⟨b1, 1, none⟩))]) (by kernel_rfl) (by kernel_rfl) fun a hS => ?_
    refine wl_val (d := (some 8)) (op := (Op.load 3 (Operand.tmp 7))) (g := (some (3, true))) hS (by kernel_rfl) (by kernel_rfl) (r_ldb (li := 0) (off := 1) (u := .int .i64 p0.f_N) C rfl (by kernel_rfl) (by kernel_rfl) (by kernel_rfl)) fun a hS => ?_
    refine wl_pures (j := 9) hS 3 [1, 11] (m' := [(1, .pointer (some ⟨b1, 0, none⟩)), (11, .bool (decide (p0.f_N ≤ 65536)))]) (by kernel_rfl) (by kernel_rfl) fun a hS => ?_
    rcases Bool.eq_false_or_eq_true (decide (p0.f_N ≤ 65536)) with hb | hb
    · rw [hb] at hS
      have hf := opt_t hb hf
      refine wl_pures (j := 10) hS 1 [1, 11, 12] (m' := [(1, .pointer (some ⟨b1, 0, none⟩)), (11, .bool true), (12, .pointer (some ⟨b1, 0, none⟩))]) (by kernel_rfl) (by kernel_rfl) fun a hS => ?_
      refine wl_val (d := (some 13)) (op := (Op.load 3 (Operand.tmp 12))) (g := (some (8, true))) hS (by kernel_rfl) (by kernel_rfl) (r_ldb (li := 0) (off := 0) (u := .int .i64 p0.f_At) C rfl (by kernel_rfl) (by kernel_rfl) (by kernel_rfl)) fun a hS => ?_
      refine wl_pures (j := 14) hS 3 [1, 16] (m' := [(1, .pointer (some ⟨b1, 0, none⟩)), (16, .bool (decide (p0.f_At ≥ 0)))]) (by kernel_rfl) (by kernel_rfl) fun a hS => ?_
      rcases Bool.eq_false_or_eq_true (decide (p0.f_At ≥ 0)) with hb | hb
      · rw [hb] at hS
        have hf := opt_t hb hf
        refine wl_pures (j := 15) hS 1 [1, 16, 17] (m' := [(1, .pointer (some ⟨b1, 0, none⟩)), (16, .bool true), (17, .pointer (some ⟨b1, 0, none⟩))]) (by kernel_rfl) (by kernel_rfl) fun a hS => ?_
        refine wl_val (d := (some 18)) (op := (Op.load 3 (Operand.tmp 17))) (g := (some (13, true))) hS (by kernel_rfl) (by kernel_rfl) (r_ldb (li := 0) (off := 0) (u := .int .i64 p0.f_At) C rfl (by kernel_rfl) (by kernel_rfl) (by kernel_rfl)) fun a hS => ?_
        refine wl_pures (j := 19) hS 3 [1, 21] (m' := [(1, .pointer (some ⟨b1, 0, none⟩)), (21, .bool (decide (p0.f_At < 65536)))]) (by kernel_rfl) (by kernel_rfl) fun a hS => ?_
        rcases Bool.eq_false_or_eq_true (decide (p0.f_At < 65536)) with hb | hb
        · rw [hb] at hS
          have hf := opt_t hb hf
          refine wl_val (d := (some 22)) (op := (Op.load 24 (Operand.tmp 1))) (g := (some (18, true))) hS (by kernel_rfl) (by kernel_rfl) (r_ldbs (li := 0) (off := 0) (seg := [.int .i64 p0.f_At, .int .i64 p0.f_N]) C rfl (by kernel_rfl) (by kernel_rfl) (by kernel_rfl)) fun a hS => ?_
          obtain ⟨t1, ht1, hf⟩ := bind_some hf
          refine wl_eff (d := (some 23)) (op := (Op.call { callee := (Callee.value (Operand.func 34)), args := #[(Operand.tmp 22)], argTypes := #[24] })) (g := (some (18, true))) hS (by kernel_rfl) (by kernel_rfl) (eff_fn (by kernel_rfl) rfl (by kernel_rfl) (extent_end_ok k _ (⟨p0.f_At, p0.f_N⟩ : S_Run) t1 ht1)) ?_
          rintro _ _ ⟨rfl, hw⟩ a hS
          have C := ctx_still C hw
          refine wl_pures (j := 24) hS 3 [2] (m' := [(2, .bool (decide (t1 ≤ 65536)))]) (by kernel_rfl) (by kernel_rfl) fun a hS => ?_
          refine wl_nil (by kernel_rfl) ?_
          refine q_then ?_
          refine c_ret (by kernel_rfl) ?_
          refine q_ret hS (vs := [.bool (decide (t1 ≤ 65536))]) (by kernel_rfl) ?_
          obtain rfl := Option.some.inj hf
          exact ⟨_, rfl, rfl, C.fr⟩
        · rw [hb] at hS
          have hf := opt_f hb hf
          refine wl_pures (j := 24) hS 5 [2] (m' := [(2, .bool false)]) (by kernel_rfl) (by kernel_rfl) fun a hS => ?_
          refine wl_nil (by kernel_rfl) ?_
          refine q_then ?_
          refine c_ret (by kernel_rfl) ?_
          refine q_ret hS (vs := [.bool false]) (by kernel_rfl) ?_
          obtain rfl := Option.some.inj hf
          exact ⟨_, rfl, rfl, C.fr⟩
      · rw [hb] at hS
        have hf := opt_f hb hf
        refine wl_pures (j := 24) hS 10 [2] (m' := [(2, .bool false)]) (by kernel_rfl) (by kernel_rfl) fun a hS => ?_
        refine wl_nil (by kernel_rfl) ?_
        refine q_then ?_
        refine c_ret (by kernel_rfl) ?_
        refine q_ret hS (vs := [.bool false]) (by kernel_rfl) ?_
        obtain rfl := Option.some.inj hf
        exact ⟨_, rfl, rfl, C.fr⟩
    · rw [hb] at hS
      have hf := opt_f hb hf
      refine wl_pures (j := 24) hS 15 [2] (m' := [(2, .bool false)]) (by kernel_rfl) (by kernel_rfl) fun a hS => ?_
      refine wl_nil (by kernel_rfl) ?_
      refine q_then ?_
      refine c_ret (by kernel_rfl) ?_
      refine q_ret hS (vs := [.bool false]) (by kernel_rfl) ?_
      obtain rfl := Option.some.inj hf
      exact ⟨_, rfl, rfl, C.fr⟩
  · rw [hb] at hS
    have hf := opt_f hb hf
    refine wl_pures (j := 24) hS 20 [2] (m' := [(2, .bool false)]) (by kernel_rfl) (by kernel_rfl) fun a hS => ?_
    refine wl_nil (by kernel_rfl) ?_
    refine q_then ?_
    refine c_ret (by kernel_rfl) ?_
    refine q_ret hS (vs := [.bool false]) (by kernel_rfl) ?_
    obtain rfl := Option.some.inj hf
    exact ⟨_, rfl, rfl, C.fr⟩

def extent_Check.j1 (x4 : Int) (LOOP1 : (Int → Option Int)) (x5 : Bool) : Option Int := (if x5 = true then (some 1) else LOOP1 (W64 (x4 + 1)))
def extent_Check.l1 (p0 : (List S_Run)) : Nat → Int → Option Int
  | 0, _ => none
  | kk1 + 1, x4 => (if (decide (x4 < (p0.length : Int))) = true then (if 0 ≤ x4 ∧ x4 < (p0.length : Int) then ((extent_good.f kk1 (⟨(F_Run.at_ p0 x4).f_At, (F_Run.at_ p0 x4).f_N⟩ : S_Run)).bind fun t1 => (if (!t1) = true then extent_Check.j1 x4 (extent_Check.l1 p0 kk1) true else (if (decide (x4 > 0)) = true then (if 0 ≤ (W64 (x4 - 1)) ∧ (W64 (x4 - 1)) < (p0.length : Int) then ((extent_end.f kk1 (F_Run.at_ p0 (W64 (x4 - 1)))).bind fun t2 => extent_Check.j1 x4 (extent_Check.l1 p0 kk1) (decide (t2 ≥ ((F_Run.at_ p0 x4).f_At)))) else none) else extent_Check.j1 x4 (extent_Check.l1 p0 kk1) false))) else none) else (some 0))
def extent_Check.f (k : Nat) (p0 : (List S_Run)) : Option Int := extent_Check.l1 p0 k 0
theorem extent_Check_ok (k : Nat) (w0 : World) (p0 : (List S_Run)) (v_0 : Value) (h_0 : Rds v_0 p0.length 2 (p0.flatMap F_Run.cells) w0) (res : Int) (hf : extent_Check.f k p0 = some res) :
    Fn Try.prog 20 [v_0] w0 (fun v w' => v = .int .i64 res ∧ Fr nob w0 w') := by
  have C := ctx_start w0 [rdE v_0 p0.length 2 (p0.flatMap F_Run.cells)] (start1 h_0)
  generalize allDom [rdE v_0 p0.length 2 (p0.flatMap F_Run.cells)] = A0 at C
  refine f_enter (fn := Try.f20) (k := 30) rfl rfl rfl fun a hS => ?_
  have hS : Sl 31 [(0, v_0)] a := hS
  rw [extent_Check.f] at hf
  refine c_seq (by kernel_rfl) ?_
  refine c_region (by kernel_rfl) ?_
  refine wl_pures (j := 1) hS 1 [0] (m' := [(0, v_0)]) (by kernel_rfl) (by kernel_rfl) fun a hS => ?_
  refine wl_nil (by kernel_rfl) ?_
  refine q_then ?_
  refine c_seq (by kernel_rfl) ?_
  refine c_seq (by kernel_rfl) ?_
  refine c_region (by kernel_rfl) ?_
  refine wl_pures (j := 1) hS 1 [0, 5] (m' := [(0, v_0), (5, v_0)]) (by kernel_rfl) (by kernel_rfl) fun a hS => ?_
  refine wl_val (d := (some 6)) (op := (Op.call { callee := (Callee.builtin Builtin.len), args := #[(Operand.tmp 5)], argTypes := #[22] })) (g := none) hS (by kernel_rfl) (by kernel_rfl) (r_len (n := p0.length) (v := v_0) (rds_shp (C.okR 0 _ rfl)) (by kernel_rfl) (by kernel_rfl)) fun a hS => ?_
  refine wl_pures (j := 3) hS 1 [0, 5, 6, 7] (m' := [(0, v_0), (5, v_0), (6, .int .i64 (p0.length : Int)), (7, .int .i64 0)]) (by kernel_rfl) (by kernel_rfl) fun a hS => ?_
  refine wl_nil (by kernel_rfl) ?_
  refine q_then ?_
  refine c_block (i := 0) (by kernel_rfl) ?_
  refine c_loop (by kernel_rfl) (fun kk1 a w => ∃ x4 : Int, extent_Check.l1 p0 kk1 x4 = some res ∧ Sl 31 [(0, v_0), (5, v_0), (6, .int .i64 (p0.length : Int)), (7, .int .i64 x4)] a ∧ Ctx w0 nob A0 [] [rdE v_0 p0.length 2 (p0.flatMap F_Run.cells)] w) k ⟨0, hf, hS.keep [0, 5, 6, 7] (by kernel_rfl), ctx_pick [] [0] C (by kernel_rfl) rfl rfl⟩ ?_
  rintro kk1 a w ⟨x4, hf, hS, C⟩
  cases kk1 with
  | zero => exact no_none hf
  | succ kk1 =>
    rw [extent_Check.l1] at hf
    refine c_seq (by kernel_rfl) ?_
    refine c_region (by kernel_rfl) ?_
    refine wl_pures (j := 1) hS 1 [0, 5, 6, 7, 8] (m' := [(0, v_0), (5, v_0), (6, .int .i64 (p0.length : Int)), (7, .int .i64 x4), (8, .bool (decide (x4 < (p0.length : Int))))]) (by kernel_rfl) (by kernel_rfl) fun a hS => ?_
    refine wl_nil (by kernel_rfl) ?_
    refine q_then ?_
    refine c_seq (by kernel_rfl) ?_
    refine c_if (b := (decide (x4 < (p0.length : Int)))) hS (by kernel_rfl) (by kernel_rfl) (fun hb => ?_) (fun hb => ?_)
    · have hf := opt_t hb hf
      refine c_skip (by kernel_rfl) ?_
      refine q_then ?_
      refine c_seq (by kernel_rfl) ?_
      refine c_block (i := 1) (by kernel_rfl) ?_
      refine c_seq (by kernel_rfl) ?_
      refine c_region (by kernel_rfl) ?_
      refine wl_pures (j := 1) hS 1 [0, 5, 6, 7, 9] (m' := [(0, v_0), (5, v_0), (6, .int .i64 (p0.length : Int)), (7, .int .i64 x4), (9, .int .i64 x4)]) (by kernel_rfl) (by kernel_rfl) fun a hS => ?_
      obtain ⟨hi1, hf⟩ := ite_some hf
      refine wl_val (d := (some 10)) (op := (Op.indexAddr 22 (Operand.tmp 5) (Operand.tmp 7))) (g := none) hS (by kernel_rfl) (by kernel_rfl) (r_idx (i := x4) (k := .i64) (v := v_0) (sz := 2) (rds_shp (C.okR 0 _ rfl)) (by kernel_rfl) (by kernel_rfl) hi1.1 hi1.2 (by kernel_rfl)) fun a hS => ?_
      refine wl_val (d := (some 11)) (op := (Op.load 24 (Operand.tmp 10))) (g := none) hS (by kernel_rfl) (by kernel_rfl) (r_ldFs F_Run (i := x4) (seg := [.int .i64 ((F_Run.at_ p0 x4).f_At), .int .i64 ((F_Run.at_ p0 x4).f_N)]) (C.okR 0 _ rfl) (by kernel_rfl) hi1.1 hi1.2 (by kernel_rfl) (by kernel_rfl)) fun a hS => ?_
      refine wl_eff (d := (some 4)) (op := (Op.alloc 24)) (g := none) hS (by kernel_rfl) (by kernel_rfl) (eff_alloc C (cs := [.int .i64 0, .int .i64 0]) (by kernel_rfl)) ?_
      rintro _ _ ⟨b1, rfl, C⟩ a hS
      refine wl_pures (j := 5) hS 1 [0, 3, 4, 5, 6, 7, 11] (m' := [(0, v_0), (3, .int .i64 x4), (4, .pointer (some ⟨b1, 0, none⟩)), (5, v_0), (6, .int .i64 (p0.length : Int)), (7, .int .i64 x4), (11, .agg #[.int .i64 ((F_Run.at_ p0 x4).f_At), .int .i64 ((F_Run.at_ p0 x4).f_N)])]) (by kernel_rfl) (by kernel_rfl) fun a hS => ?_
      refine wl_eff (d := none) (op := (Op.store 24 (Operand.tmp 4) (Operand.tmp 11))) (g := none) hS (by kernel_rfl) (by kernel_rfl) (eff_stb (li := 0) (off := 0) (us := [.int .i64 ((F_Run.at_ p0 x4).f_At), .int .i64 ((F_Run.at_ p0 x4).f_N)]) (cs' := [.int .i64 ((F_Run.at_ p0 x4).f_At), .int .i64 ((F_Run.at_ p0 x4).f_N)]) C rfl (by kernel_rfl) (by kernel_rfl) (by kernel_rfl) (by simp) (by kernel_rfl) (by kernel_rfl)) ?_
      rintro _ _ C a hS
      refine wl_nil (by kernel_rfl) ?_
      refine q_then ?_
      refine c_join (by kernel_rfl) (fun a w => ∃ x5 : Bool, extent_Check.j1 x4 (extent_Check.l1 p0 kk1) x5 = some res ∧ Sl 31 [(0, v_0), (5, v_0), (6, .int .i64 (p0.length : Int)), (7, .int .i64 x4), (29, .bool x5)] a ∧ Ctx w0 nob A0 [] [rdE v_0 p0.length 2 (p0.flatMap F_Run.cells)] w) ?_ ?_
      · rintro a w ⟨x5, hf, hS, C⟩
        rw [extent_Check.j1] at hf
        refine c_if (b := x5) hS (by kernel_rfl) (by kernel_rfl) (fun hb => ?_) (fun hb => ?_)
        · have hf := opt_t hb hf
          refine c_seq (by kernel_rfl) ?_
          refine c_region (by kernel_rfl) ?_
          refine wl_pures (j := 1) hS 1 [2] (m' := [(2, .int .i64 1)]) (by kernel_rfl) (by kernel_rfl) fun a hS => ?_
          refine wl_nil (by kernel_rfl) ?_
          refine q_then ?_
          refine c_ret (by kernel_rfl) ?_
          refine q_inr ?_
          refine q_thenr ?_
          refine q_thenr ?_
          refine q_inr ?_
          refine q_thenr ?_
          refine q_ret hS (vs := [.int .i64 1]) (by kernel_rfl) ?_
          obtain rfl := Option.some.inj hf
          exact ⟨_, rfl, rfl, C.fr⟩
        · have hf := opt_f hb hf
          refine c_skip (by kernel_rfl) ?_
          refine q_in ?_
          refine q_then ?_
          refine c_region (by kernel_rfl) ?_
          refine wl_pures (j := 2) hS 2 [0, 5, 6, 7] (m' := [(0, v_0), (5, v_0), (6, .int .i64 (p0.length : Int)), (7, .int .i64 (W64 (x4 + 1)))]) (by kernel_rfl) (by kernel_rfl) fun a hS => ?_
          refine wl_nil (by kernel_rfl) ?_
          exact q_then ⟨kk1, Nat.lt_succ_self kk1, (W64 (x4 + 1)), hf, hS.keep [0, 5, 6, 7] (by kernel_rfl), ctx_pick [] [0] C (by kernel_rfl) rfl rfl⟩
      · refine c_drawsC [0] [0] 18 C (by kernel_rfl) (by kernel_rfl) (by kernel_rfl) (N := 18) (by kernel_rfl) (by kernel_rfl) fun _ C => ?_
        refine dr_take (fuel := 17) (j := 0) (v := .agg #[.int .i64 ((F_Run.at_ p0 x4).f_At), .int .i64 ((F_Run.at_ p0 x4).f_N)]) (d := (some 12)) (op := (Op.load 24 (Operand.tmp 4))) (g := none) hS (by kernel_rfl) (by kernel_rfl) (fun _ CS => r_ldbs (li := 0) (off := 0) (seg := [.int .i64 ((F_Run.at_ p0 x4).f_At), .int .i64 ((F_Run.at_ p0 x4).f_N)]) CS rfl (by kernel_rfl) (by kernel_rfl) (by kernel_rfl)) (ctx_pick [0] [0] C (by kernel_rfl) rfl rfl) fun a hS => ?_
        obtain ⟨t1, ht1, hf⟩ := bind_some hf
        refine dr_eff (fuel := 16) (j := 1) (d := (some 13)) (op := (Op.call { callee := (Callee.value (Operand.func 31)), args := #[(Operand.tmp 12)], argTypes := #[24] })) (g := none) hS (by kernel_rfl) (by kernel_rfl) (by kernel_rfl) (eff_fn (by kernel_rfl) rfl (by kernel_rfl) (extent_good_ok kk1 _ (⟨(F_Run.at_ p0 x4).f_At, (F_Run.at_ p0 x4).f_N⟩ : S_Run) t1 ht1)) ?_
        rintro _ _ ⟨rfl, hw⟩
        have C := ctx_still C hw
        refine ⟨.inr (ctx_pick [0] [0] C (by kernel_rfl) rfl rfl), fun a hS => ?_⟩
        refine dr_pures (fuel := 14) (l' := [3, 2, 1, 0]) hS (ctx_pick [0] [0] C (by kernel_rfl) rfl rfl) [2, 3] [0, 3, 4, 5, 6, 7, 15] (m' := [(0, v_0), (3, .int .i64 x4), (4, .pointer (some ⟨b1, 0, none⟩)), (5, v_0), (6, .int .i64 (p0.length : Int)), (7, .int .i64 x4), (15, .bool (!t1))]) (by kernel_rfl) (by kernel_rfl) (by kernel_rfl) fun a hS => ?_
        rcases Bool.eq_false_or_eq_true (!t1) with hb | hb
        · rw [hb] at hS
          have hf := opt_t hb hf
          refine dr_pures (fuel := 0) (l' := [17, 16, 15, 14, 13, 12, 11, 10, 9, 8, 7, 6, 5, 4, 3, 2, 1, 0]) hS (ctx_pick [0] [0] C (by kernel_rfl) rfl rfl) [4, 5, 6, 7, 8, 9, 10, 11, 12, 13, 14, 15, 16, 17] [0, 5, 6, 7, 29] (m' := [(0, v_0), (5, v_0), (6, .int .i64 (p0.length : Int)), (7, .int .i64 x4), (29, .bool true)]) (by kernel_rfl) (by kernel_rfl) (by kernel_rfl) fun a hS => ?_
          refine dr_done (by kernel_rfl) ?_
          exact q_then ⟨true, hf, hS.keep [0, 5, 6, 7, 29] (by kernel_rfl), ctx_pick [] [0] C (by kernel_rfl) rfl rfl⟩
        · rw [hb] at hS
          have hf := opt_f hb hf
          refine dr_pures (fuel := 11) (l' := [6, 5, 4, 3, 2, 1, 0]) hS (ctx_pick [0] [0] C (by kernel_rfl) rfl rfl) [4, 5, 6] [0, 3, 4, 5, 6, 7, 15, 18] (m' := [(0, v_0), (3, .int .i64 x4), (4, .pointer (some ⟨b1, 0, none⟩)), (5, v_0), (6, .int .i64 (p0.length : Int)), (7, .int .i64 x4), (15, .bool false), (18, .bool (decide (x4 > 0)))]) (by kernel_rfl) (by kernel_rfl) (by kernel_rfl) fun a hS => ?_
          rcases Bool.eq_false_or_eq_true (decide (x4 > 0)) with hb | hb
          · rw [hb] at hS
            have hf := opt_t hb hf
            refine dr_pures (fuel := 7) (l' := [13, 9, 8, 7, 6, 5, 4, 3, 2, 1, 0]) hS (ctx_pick [0] [0] C (by kernel_rfl) rfl rfl) [7, 8, 9, 13] [0, 5, 6, 7, 15, 18, 19, 21, 25] (m' := [(0, v_0), (5, v_0), (6, .int .i64 (p0.length : Int)), (7, .int .i64 x4), (15, .bool false), (18, .bool true), (19, v_0), (21, .int .i64 (W64 (x4 - 1))), (25, .pointer (some ⟨b1, 0, none⟩))]) (by kernel_rfl) (by kernel_rfl) (by kernel_rfl) fun a hS => ?_
            obtain ⟨hi2, hf⟩ := ite_some hf
            refine dr_take (fuel := 6) (j := 10) (v := .pointer (some (elemA v_0 ((W64 (x4 - 1)).toNat * 2)))) (d := (some 22)) (op := (Op.indexAddr 22 (Operand.tmp 19) (Operand.tmp 21))) (g := (some (6, true))) hS (by kernel_rfl) (by kernel_rfl) (fun _ CS => r_idx (i := (W64 (x4 - 1))) (k := .i64) (v := v_0) (sz := 2) (rds_shp (C.okR 0 _ rfl)) (by kernel_rfl) (by kernel_rfl) hi2.1 hi2.2 (by kernel_rfl)) (ctx_pick [0] [0] C (by kernel_rfl) rfl rfl) fun a hS => ?_
            refine dr_take (fuel := 5) (j := 11) (v := .agg #[.int .i64 ((F_Run.at_ p0 (W64 (x4 - 1))).f_At), .int .i64 ((F_Run.at_ p0 (W64 (x4 - 1))).f_N)]) (d := (some 23)) (op := (Op.load 24 (Operand.tmp 22))) (g := (some (6, true))) hS (by kernel_rfl) (by kernel_rfl) (fun _ CS => r_ldFs F_Run (i := (W64 (x4 - 1))) (seg := [.int .i64 ((F_Run.at_ p0 (W64 (x4 - 1))).f_At), .int .i64 ((F_Run.at_ p0 (W64 (x4 - 1))).f_N)]) (CS.okR 0 _ rfl) (by kernel_rfl) hi2.1 hi2.2 (by kernel_rfl) (by kernel_rfl)) (ctx_pick [0] [0] C (by kernel_rfl) rfl rfl) fun a hS => ?_
            refine dr_take (fuel := 4) (j := 14) (v := .int .i64 ((F_Run.at_ p0 x4).f_At)) (d := (some 26)) (op := (Op.load 3 (Operand.tmp 25))) (g := (some (6, true))) hS (by kernel_rfl) (by kernel_rfl) (fun _ CS => r_ldb (li := 0) (off := 0) (u := .int .i64 ((F_Run.at_ p0 x4).f_At)) CS rfl (by kernel_rfl) (by kernel_rfl) (by kernel_rfl)) (ctx_pick [0] [0] C (by kernel_rfl) rfl rfl) fun a hS => ?_
            obtain ⟨t2, ht2, hf⟩ := bind_some hf
            refine dr_eff (fuel := 3) (j := 12) (d := (some 24)) (op := (Op.call { callee := (Callee.value (Operand.func 34)), args := #[(Operand.tmp 23)], argTypes := #[24] })) (g := (some (6, true))) hS (by kernel_rfl) (by kernel_rfl) (by kernel_rfl) (eff_fn (by kernel_rfl) rfl (by kernel_rfl) (extent_end_ok kk1 _ (F_Run.at_ p0 (W64 (x4 - 1))) t2 ht2)) ?_
            rintro _ _ ⟨rfl, hw⟩
            have C := ctx_still C hw
            refine ⟨.inr (ctx_pick [0] [0] C (by kernel_rfl) rfl rfl), fun a hS => ?_⟩
            refine dr_pures (fuel := 0) (l' := [17, 16, 15, 12, 14, 11, 10, 13, 9, 8, 7, 6, 5, 4, 3, 2, 1, 0]) hS (ctx_pick [0] [0] C (by kernel_rfl) rfl rfl) [15, 16, 17] [0, 5, 6, 7, 29] (m' := [(0, v_0), (5, v_0), (6, .int .i64 (p0.length : Int)), (7, .int .i64 x4), (29, .bool (decide (t2 ≥ ((F_Run.at_ p0 x4).f_At))))]) (by kernel_rfl) (by kernel_rfl) (by kernel_rfl) fun a hS => ?_
            refine dr_done (by kernel_rfl) ?_
            exact q_then ⟨(decide (t2 ≥ ((F_Run.at_ p0 x4).f_At))), hf, hS.keep [0, 5, 6, 7, 29] (by kernel_rfl), ctx_pick [] [0] C (by kernel_rfl) rfl rfl⟩
          · rw [hb] at hS
            have hf := opt_f hb hf
            refine dr_pures (fuel := 0) (l' := [17, 16, 15, 14, 13, 12, 11, 10, 9, 8, 7, 6, 5, 4, 3, 2, 1, 0]) hS (ctx_pick [0] [0] C (by kernel_rfl) rfl rfl) [7, 8, 9, 10, 11, 12, 13, 14, 15, 16, 17] [0, 5, 6, 7, 29] (m' := [(0, v_0), (5, v_0), (6, .int .i64 (p0.length : Int)), (7, .int .i64 x4), (29, .bool false)]) (by kernel_rfl) (by kernel_rfl) (by kernel_rfl) fun a hS => ?_
            refine dr_done (by kernel_rfl) ?_
            exact q_then ⟨false, hf, hS.keep [0, 5, 6, 7, 29] (by kernel_rfl), ctx_pick [] [0] C (by kernel_rfl) rfl rfl⟩
    · have hf := opt_f hb hf
      refine c_exit (i := 0) (by kernel_rfl) ?_
      refine q_thenx ?_
      refine q_thenx ?_
      refine q_inx ?_
      refine q_then ?_
      refine c_seq (by kernel_rfl) ?_
      refine c_region (by kernel_rfl) ?_
      refine wl_pures (j := 1) hS 1 [2] (m' := [(2, .int .i64 0)]) (by kernel_rfl) (by kernel_rfl) fun a hS => ?_
      refine wl_nil (by kernel_rfl) ?_
      refine q_then ?_
      refine c_ret (by kernel_rfl) ?_
      refine q_ret hS (vs := [.int .i64 0]) (by kernel_rfl) ?_
      obtain rfl := Option.some.inj hf
      exact ⟨_, rfl, rfl, C.fr⟩

def extent_Total.l1 (p0 : (List S_Run)) : Nat → Int → Int → Option Int
  | 0, _, _ => none
  | kk1 + 1, x7, x8 => (if (decide (x8 < (p0.length : Int))) = true then (if 0 ≤ x8 ∧ x8 < (p0.length : Int) then (extent_Total.l1 p0 kk1) (mnI (W64 (x7 + (mnI (mxI ((F_Run.at_ p0 x8).f_N) 0) 1125899906842624))) 1125899906842624) (W64 (x8 + 1)) else none) else (some x7))
def extent_Total.f (k : Nat) (p0 : (List S_Run)) : Option Int := extent_Total.l1 p0 k 0 0
theorem extent_Total_ok (k : Nat) (w0 : World) (p0 : (List S_Run)) (v_0 : Value) (h_0 : Rds v_0 p0.length 2 (p0.flatMap F_Run.cells) w0) (res : Int) (hf : extent_Total.f k p0 = some res) :
    Fn Try.prog 17 [v_0] w0 (fun v w' => v = .int .i64 res ∧ Fr nob w0 w') := by
  have C := ctx_start w0 [rdE v_0 p0.length 2 (p0.flatMap F_Run.cells)] (start1 h_0)
  generalize allDom [rdE v_0 p0.length 2 (p0.flatMap F_Run.cells)] = A0 at C
  refine f_enter (fn := Try.f17) (k := 20) rfl rfl rfl fun a hS => ?_
  have hS : Sl 21 [(0, v_0)] a := hS
  rw [extent_Total.f] at hf
  refine c_seq (by kernel_rfl) ?_
  refine c_region (by kernel_rfl) ?_
  refine wl_pures (j := 1) hS 1 [0] (m' := [(0, v_0)]) (by kernel_rfl) (by kernel_rfl) fun a hS => ?_
  refine wl_nil (by kernel_rfl) ?_
  refine q_then ?_
  refine c_seq (by kernel_rfl) ?_
  refine c_region (by kernel_rfl) ?_
  refine wl_pures (j := 1) hS 1 [0, 3] (m' := [(0, v_0), (3, .int .i64 0)]) (by kernel_rfl) (by kernel_rfl) fun a hS => ?_
  refine wl_nil (by kernel_rfl) ?_
  refine q_then ?_
  refine c_seq (by kernel_rfl) ?_
  refine c_seq (by kernel_rfl) ?_
  refine c_region (by kernel_rfl) ?_
  refine wl_pures (j := 1) hS 1 [3, 6] (m' := [(3, .int .i64 0), (6, v_0)]) (by kernel_rfl) (by kernel_rfl) fun a hS => ?_
  refine wl_val (d := (some 7)) (op := (Op.call { callee := (Callee.builtin Builtin.len), args := #[(Operand.tmp 6)], argTypes := #[22] })) (g := none) hS (by kernel_rfl) (by kernel_rfl) (r_len (n := p0.length) (v := v_0) (rds_shp (C.okR 0 _ rfl)) (by kernel_rfl) (by kernel_rfl)) fun a hS => ?_
  refine wl_pures (j := 3) hS 1 [3, 6, 7, 8] (m' := [(3, .int .i64 0), (6, v_0), (7, .int .i64 (p0.length : Int)), (8, .int .i64 0)]) (by kernel_rfl) (by kernel_rfl) fun a hS => ?_
  refine wl_nil (by kernel_rfl) ?_
  refine q_then ?_
  refine c_block (i := 0) (by kernel_rfl) ?_
  refine c_loop (by kernel_rfl) (fun kk1 a w => ∃ x7 : Int, ∃ x8 : Int, extent_Total.l1 p0 kk1 x7 x8 = some res ∧ Sl 21 [(3, .int .i64 x7), (6, v_0), (7, .int .i64 (p0.length : Int)), (8, .int .i64 x8)] a ∧ Ctx w0 nob A0 [] [rdE v_0 p0.length 2 (p0.flatMap F_Run.cells)] w) k ⟨0, 0, hf, hS.keep [3, 6, 7, 8] (by kernel_rfl), ctx_pick [] [0] C (by kernel_rfl) rfl rfl⟩ ?_
  rintro kk1 a w ⟨x7, x8, hf, hS, C⟩
  cases kk1 with
  | zero => exact no_none hf
  | succ kk1 =>
    rw [extent_Total.l1] at hf
    refine c_seq (by kernel_rfl) ?_
    refine c_region (by kernel_rfl) ?_
    refine wl_pures (j := 1) hS 1 [3, 6, 7, 8, 9] (m' := [(3, .int .i64 x7), (6, v_0), (7, .int .i64 (p0.length : Int)), (8, .int .i64 x8), (9, .bool (decide (x8 < (p0.length : Int))))]) (by kernel_rfl) (by kernel_rfl) fun a hS => ?_
    refine wl_nil (by kernel_rfl) ?_
    refine q_then ?_
    refine c_seq (by kernel_rfl) ?_
    refine c_if (b := (decide (x8 < (p0.length : Int)))) hS (by kernel_rfl) (by kernel_rfl) (fun hb => ?_) (fun hb => ?_)
    · have hf := opt_t hb hf
      refine c_skip (by kernel_rfl) ?_
      refine q_then ?_
      refine c_seq (by kernel_rfl) ?_
      refine c_block (i := 1) (by kernel_rfl) ?_
      refine c_seq (by kernel_rfl) ?_
      refine c_region (by kernel_rfl) ?_
      obtain ⟨hi1, hf⟩ := ite_some hf
      refine wl_val (d := (some 10)) (op := (Op.indexAddr 22 (Operand.tmp 6) (Operand.tmp 8))) (g := none) hS (by kernel_rfl) (by kernel_rfl) (r_idx (i := x8) (k := .i64) (v := v_0) (sz := 2) (rds_shp (C.okR 0 _ rfl)) (by kernel_rfl) (by kernel_rfl) hi1.1 hi1.2 (by kernel_rfl)) fun a hS => ?_
      refine wl_val (d := (some 11)) (op := (Op.load 24 (Operand.tmp 10))) (g := none) hS (by kernel_rfl) (by kernel_rfl) (r_ldFs F_Run (i := x8) (seg := [.int .i64 ((F_Run.at_ p0 x8).f_At), .int .i64 ((F_Run.at_ p0 x8).f_N)]) (C.okR 0 _ rfl) (by kernel_rfl) hi1.1 hi1.2 (by kernel_rfl) (by kernel_rfl)) fun a hS => ?_
      refine wl_eff (d := (some 5)) (op := (Op.alloc 24)) (g := none) hS (by kernel_rfl) (by kernel_rfl) (eff_alloc C (cs := [.int .i64 0, .int .i64 0]) (by kernel_rfl)) ?_
      rintro _ _ ⟨b1, rfl, C⟩ a hS
      refine wl_eff (d := none) (op := (Op.store 24 (Operand.tmp 5) (Operand.tmp 11))) (g := none) hS (by kernel_rfl) (by kernel_rfl) (eff_stb (li := 0) (off := 0) (us := [.int .i64 ((F_Run.at_ p0 x8).f_At), .int .i64 ((F_Run.at_ p0 x8).f_N)]) (cs' := [.int .i64 ((F_Run.at_ p0 x8).f_At), .int .i64 ((F_Run.at_ p0 x8).f_N)]) C rfl (by kernel_rfl) (by kernel_rfl) (by kernel_rfl) (by simp) (by kernel_rfl) (by kernel_rfl)) ?_
      rintro _ _ C a hS
      refine wl_nil (by kernel_rfl) ?_
      refine q_then ?_
      refine c_region (by kernel_rfl) ?_
      refine wl_pures (j := 2) hS 2 [3, 6, 7, 8, 12, 13] (m' := [(3, .int .i64 x7), (6, v_0), (7, .int .i64 (p0.length : Int)), (8, .int .i64 x8), (12, .int .i64 x7), (13, .pointer (some ⟨b1, 1, none⟩))]) (by kernel_rfl) (by kernel_rfl) fun a hS => ?_
      refine wl_val (d := (some 14)) (op := (Op.load 3 (Operand.tmp 13))) (g := none) hS (by kernel_rfl) (by kernel_rfl) (r_ldb (li := 0) (off := 1) (u := .int .i64 ((F_Run.at_ p0 x8).f_N)) C rfl (by kernel_rfl) (by kernel_rfl) (by kernel_rfl)) fun a hS => ?_
      refine wl_pures (j := 8) hS 5 [3, 6, 7, 8] (m' := [(3, .int .i64 (mnI (W64 (x7 + (mnI (mxI ((F_Run.at_ p0 x8).f_N) 0) 1125899906842624))) 1125899906842624)), (6, v_0), (7, .int .i64 (p0.length : Int)), (8, .int .i64 x8)]) (by kernel_rfl) (by kernel_rfl) fun a hS => ?_
      refine wl_nil (by kernel_rfl) ?_
      refine q_in ?_
      refine q_then ?_
      refine c_region (by kernel_rfl) ?_
      refine wl_pures (j := 2) hS 2 [3, 6, 7, 8] (m' := [(3, .int .i64 (mnI (W64 (x7 + (mnI (mxI ((F_Run.at_ p0 x8).f_N) 0) 1125899906842624))) 1125899906842624)), (6, v_0), (7, .int .i64 (p0.length : Int)), (8, .int .i64 (W64 (x8 + 1)))]) (by kernel_rfl) (by kernel_rfl) fun a hS => ?_
      refine wl_nil (by kernel_rfl) ?_
      exact q_then ⟨kk1, Nat.lt_succ_self kk1, (mnI (W64 (x7 + (mnI (mxI ((F_Run.at_ p0 x8).f_N) 0) 1125899906842624))) 1125899906842624), (W64 (x8 + 1)), hf, hS.keep [3, 6, 7, 8] (by kernel_rfl), ctx_pick [] [0] C (by kernel_rfl) rfl rfl⟩
    · have hf := opt_f hb hf
      refine c_exit (i := 0) (by kernel_rfl) ?_
      refine q_thenx ?_
      refine q_thenx ?_
      refine q_inx ?_
      refine q_then ?_
      refine c_seq (by kernel_rfl) ?_
      refine c_region (by kernel_rfl) ?_
      refine wl_pures (j := 2) hS 2 [2] (m' := [(2, .int .i64 x7)]) (by kernel_rfl) (by kernel_rfl) fun a hS => ?_
      refine wl_nil (by kernel_rfl) ?_
      refine q_then ?_
      refine c_ret (by kernel_rfl) ?_
      refine q_ret hS (vs := [.int .i64 x7]) (by kernel_rfl) ?_
      obtain rfl := Option.some.inj hf
      exact ⟨_, rfl, rfl, C.fr⟩

def extent_Rest.j1 (l1 : List S_Run) : Option (List S_Run) := (some l1)
def extent_Rest.j2 (p0 : (List S_Run)) (x10 : Int) (x12 : Int) (LOOP1 : (Int → Int → List S_Run → Int → Option (List S_Run))) (x13 : Int) (l6 : List S_Run) : Option (List S_Run) := LOOP1 (W64 (x10 - (mnI x10 ((F_Run.at_ p0 x12).f_N)))) x13 l6 (W64 (x12 + 1))
def extent_Rest.l1 (p0 : (List S_Run)) : Nat → Int → Int → List S_Run → Int → Option (List S_Run)
  | 0, _, _, _, _ => none
  | kk1 + 1, x10, x11, l5, x12 => (if (decide (x12 < (p0.length : Int))) = true then (if 0 ≤ x12 ∧ x12 < (p0.length : Int) then (if (x11 == 0) = true then extent_Rest.j1 l5 else (if (decide ((mnI (W64 (((F_Run.at_ p0 x12).f_N) - (mnI x10 ((F_Run.at_ p0 x12).f_N)))) x11) > 0)) = true then (if (l5.length + ([(⟨(W64 (((F_Run.at_ p0 x12).f_At) + (mnI x10 ((F_Run.at_ p0 x12).f_N)))), (mnI (W64 (((F_Run.at_ p0 x12).f_N) - (mnI x10 ((F_Run.at_ p0 x12).f_N)))) x11)⟩ : S_Run)]).length) * 16 ≤ 140737488355328 then extent_Rest.j2 p0 x10 x12 (extent_Rest.l1 p0 kk1) (W64 (x11 - (mnI (W64 (((F_Run.at_ p0 x12).f_N) - (mnI x10 ((F_Run.at_ p0 x12).f_N)))) x11))) (l5 ++ [(⟨(W64 (((F_Run.at_ p0 x12).f_At) + (mnI x10 ((F_Run.at_ p0 x12).f_N)))), (mnI (W64 (((F_Run.at_ p0 x12).f_N) - (mnI x10 ((F_Run.at_ p0 x12).f_N)))) x11)⟩ : S_Run)]) else none) else extent_Rest.j2 p0 x10 x12 (extent_Rest.l1 p0 kk1) x11 l5)) else none) else extent_Rest.j1 l5)
def extent_Rest.f (k : Nat) (p0 : (List S_Run)) (p1 : Int) (p2 : Int) : Option (List S_Run) := extent_Rest.l1 p0 k (mxI p1 0) (mxI p2 0) [] 0
theorem extent_Rest_ok (k : Nat) (w0 : World) (p0 : (List S_Run)) (p1 : Int) (p2 : Int) (v_0 : Value) (h_0 : Rds v_0 p0.length 2 (p0.flatMap F_Run.cells) w0) (res : (List S_Run)) (hf : extent_Rest.f k p0 p1 p2 = some res) :
    Fn Try.prog 23 [v_0, .int .i64 p1, .int .i64 p2] w0 (fun v w' => Fr nob w0 w' ∧ Own w0 F_Run 24 v res w') := by
  have C := ctx_start w0 [rdE v_0 p0.length 2 (p0.flatMap F_Run.cells)] (start1 h_0)
  generalize allDom [rdE v_0 p0.length 2 (p0.flatMap F_Run.cells)] = A0 at C
  refine f_enter (fn := Try.f23) (k := 51) rfl rfl rfl fun a hS => ?_
  have hS : Sl 54 [(0, v_0), (1, .int .i64 p1), (2, .int .i64 p2)] a := hS
  rw [extent_Rest.f] at hf
  refine c_seq (by kernel_rfl) ?_
  refine c_region (by kernel_rfl) ?_
  refine wl_pures (j := 1) hS 1 [0, 1, 2] (m' := [(0, v_0), (1, .int .i64 p1), (2, .int .i64 p2)]) (by kernel_rfl) (by kernel_rfl) fun a hS => ?_
  refine wl_nil (by kernel_rfl) ?_
  refine q_then ?_
  refine c_scope (by kernel_rfl) ?_
  refine c_seq (by kernel_rfl) ?_
  refine c_region (by kernel_rfl) ?_
  refine wl_pures (j := 6) hS 6 [0, 1, 2] (m' := [(0, v_0), (1, .int .i64 (mxI p1 0)), (2, .int .i64 (mxI p2 0))]) (by kernel_rfl) (by kernel_rfl) fun a hS => ?_
  refine wl_nil (by kernel_rfl) ?_
  refine q_then ?_
  refine c_seq (by kernel_rfl) ?_
  refine c_region (by kernel_rfl) ?_
  refine wl_pures (j := 1) hS 1 [0, 1, 2, 7] (m' := [(0, v_0), (1, .int .i64 (mxI p1 0)), (2, .int .i64 (mxI p2 0)), (7, (.slice none 0 0))]) (by kernel_rfl) (by kernel_rfl) fun a hS => ?_
  refine wl_nil (by kernel_rfl) ?_
  refine q_then ?_
  refine c_seq (by kernel_rfl) ?_
  refine c_label (by kernel_rfl) ?_
  refine q_then ?_
  refine c_join (by kernel_rfl) (fun a w => ∃ l1 : List S_Run, ∃ v1 : Value, extent_Rest.j1 l1 = some res ∧ Sl 54 [(7, v1)] a ∧ Ctx w0 nob A0 [rowE v1 24 2 l1.length (l1.flatMap F_Run.cells)] [] w) ?_ ?_
  · rintro a w ⟨l1, v1, hf, hS, C⟩
    rw [extent_Rest.j1] at hf
    refine c_seq (by kernel_rfl) ?_
    refine c_region (by kernel_rfl) ?_
    refine wl_pures (j := 2) hS 2 [6] (m' := [(6, v1)]) (by kernel_rfl) (by kernel_rfl) fun a hS => ?_
    refine wl_nil (by kernel_rfl) ?_
    refine q_then ?_
    refine c_ret (by kernel_rfl) ?_
    refine q_scr ?_
    refine q_ret hS (vs := [v1]) (by kernel_rfl) ?_
    obtain rfl := Option.some.inj hf
    exact ⟨_, rfl, C.fr, ret_own (li := 0) C rfl rfl⟩
  · refine c_seq (by kernel_rfl) ?_
    refine c_region (by kernel_rfl) ?_
    refine wl_pures (j := 1) hS 1 [1, 2, 7, 15] (m' := [(1, .int .i64 (mxI p1 0)), (2, .int .i64 (mxI p2 0)), (7, (.slice none 0 0)), (15, v_0)]) (by kernel_rfl) (by kernel_rfl) fun a hS => ?_
    refine wl_val (d := (some 16)) (op := (Op.call { callee := (Callee.builtin Builtin.len), args := #[(Operand.tmp 15)], argTypes := #[22] })) (g := none) hS (by kernel_rfl) (by kernel_rfl) (r_len (n := p0.length) (v := v_0) (rds_shp (C.okR 0 _ rfl)) (by kernel_rfl) (by kernel_rfl)) fun a hS => ?_
    refine wl_pures (j := 3) hS 1 [1, 2, 7, 15, 16, 17] (m' := [(1, .int .i64 (mxI p1 0)), (2, .int .i64 (mxI p2 0)), (7, (.slice none 0 0)), (15, v_0), (16, .int .i64 (p0.length : Int)), (17, .int .i64 0)]) (by kernel_rfl) (by kernel_rfl) fun a hS => ?_
    refine wl_nil (by kernel_rfl) ?_
    refine q_then ?_
    refine c_block (i := 0) (by kernel_rfl) ?_
    have C := ctx_nilrow 24 2 C
    refine c_loop (by kernel_rfl) (fun kk1 a w => ∃ x10 : Int, ∃ x11 : Int, ∃ l5 : List S_Run, ∃ v5 : Value, ∃ x12 : Int, extent_Rest.l1 p0 kk1 x10 x11 l5 x12 = some res ∧ Sl 54 [(1, .int .i64 x10), (2, .int .i64 x11), (7, v5), (15, v_0), (16, .int .i64 (p0.length : Int)), (17, .int .i64 x12)] a ∧ Ctx w0 nob A0 [rowE v5 24 2 l5.length (l5.flatMap F_Run.cells)] [rdE v_0 p0.length 2 (p0.flatMap F_Run.cells)] w) k ⟨(mxI p1 0), (mxI p2 0), [], (.slice none 0 0), 0, hf, hS.keep [1, 2, 7, 15, 16, 17] (by kernel_rfl), ctx_pick [0] [0] C (by kernel_rfl) rfl rfl⟩ ?_
    rintro kk1 a w ⟨x10, x11, l5, v5, x12, hf, hS, C⟩
    cases kk1 with
    | zero => exact no_none hf
    | succ kk1 =>
      rw [extent_Rest.l1] at hf
      refine c_seq (by kernel_rfl) ?_
      refine c_region (by kernel_rfl) ?_
      refine wl_pures (j := 1) hS 1 [1, 2, 7, 15, 16, 17, 18] (m' := [(1, .int .i64 x10), (2, .int .i64 x11), (7, v5), (15, v_0), (16, .int .i64 (p0.length : Int)), (17, .int .i64 x12), (18, .bool (decide (x12 < (p0.length : Int))))]) (by kernel_rfl) (by kernel_rfl) fun a hS => ?_
      refine wl_nil (by kernel_rfl) ?_
      refine q_then ?_
      refine c_seq (by kernel_rfl) ?_
      refine c_if (b := (decide (x12 < (p0.length : Int)))) hS (by kernel_rfl) (by kernel_rfl) (fun hb => ?_) (fun hb => ?_)
      · have hf := opt_t hb hf
        refine c_skip (by kernel_rfl) ?_
        refine q_then ?_
        refine c_join (by kernel_rfl) (fun a w => ∃ x13 : Int, ∃ l6 : List S_Run, ∃ v6 : Value, extent_Rest.j2 p0 x10 x12 (extent_Rest.l1 p0 kk1) x13 l6 = some res ∧ Sl 54 [(1, .int .i64 (W64 (x10 - (mnI x10 ((F_Run.at_ p0 x12).f_N))))), (2, .int .i64 x13), (7, v6), (15, v_0), (16, .int .i64 (p0.length : Int)), (17, .int .i64 x12)] a ∧ Ctx w0 nob A0 [rowE v6 24 2 l6.length (l6.flatMap F_Run.cells)] [rdE v_0 p0.length 2 (p0.flatMap F_Run.cells)] w) ?_ ?_
        · rintro a w ⟨x13, l6, v6, hf, hS, C⟩
          rw [extent_Rest.j2] at hf
          refine c_region (by kernel_rfl) ?_
          refine wl_pures (j := 2) hS 2 [1, 2, 7, 15, 16, 17] (m' := [(1, .int .i64 (W64 (x10 - (mnI x10 ((F_Run.at_ p0 x12).f_N))))), (2, .int .i64 x13), (7, v6), (15, v_0), (16, .int .i64 (p0.length : Int)), (17, .int .i64 (W64 (x12 + 1)))]) (by kernel_rfl) (by kernel_rfl) fun a hS => ?_
          refine wl_nil (by kernel_rfl) ?_
          exact q_then ⟨kk1, Nat.lt_succ_self kk1, (W64 (x10 - (mnI x10 ((F_Run.at_ p0 x12).f_N)))), x13, l6, v6, (W64 (x12 + 1)), hf, hS.keep [1, 2, 7, 15, 16, 17] (by kernel_rfl), ctx_pick [0] [0] C (by kernel_rfl) rfl rfl⟩
        · refine c_block (i := 1) (by kernel_rfl) ?_
          refine c_seq (by kernel_rfl) ?_
          refine c_region (by kernel_rfl) ?_
          obtain ⟨hi1, hf⟩ := ite_some hf
          refine wl_val (d := (some 19)) (op := (Op.indexAddr 22 (Operand.tmp 15) (Operand.tmp 17))) (g := none) hS (by kernel_rfl) (by kernel_rfl) (r_idx (i := x12) (k := .i64) (v := v_0) (sz := 2) (rds_shp (C.okR 0 _ rfl)) (by kernel_rfl) (by kernel_rfl) hi1.1 hi1.2 (by kernel_rfl)) fun a hS => ?_
          refine wl_val (d := (some 20)) (op := (Op.load 24 (Operand.tmp 19))) (g := none) hS (by kernel_rfl) (by kernel_rfl) (r_ldFs F_Run (i := x12) (seg := [.int .i64 ((F_Run.at_ p0 x12).f_At), .int .i64 ((F_Run.at_ p0 x12).f_N)]) (C.okR 0 _ rfl) (by kernel_rfl) hi1.1 hi1.2 (by kernel_rfl) (by kernel_rfl)) fun a hS => ?_
          refine wl_eff (d := (some 9)) (op := (Op.alloc 24)) (g := none) hS (by kernel_rfl) (by kernel_rfl) (eff_alloc C (cs := [.int .i64 0, .int .i64 0]) (by kernel_rfl)) ?_
          rintro _ _ ⟨b1, rfl, C⟩ a hS
          refine wl_eff (d := none) (op := (Op.store 24 (Operand.tmp 9) (Operand.tmp 20))) (g := none) hS (by kernel_rfl) (by kernel_rfl) (eff_stb (li := 1) (off := 0) (us := [.int .i64 ((F_Run.at_ p0 x12).f_At), .int .i64 ((F_Run.at_ p0 x12).f_N)]) (cs' := [.int .i64 ((F_Run.at_ p0 x12).f_At), .int .i64 ((F_Run.at_ p0 x12).f_N)]) C rfl (by kernel_rfl) (by kernel_rfl) (by kernel_rfl) (by simp) (by kernel_rfl) (by kernel_rfl)) ?_
          rintro _ _ C a hS
          refine wl_nil (by kernel_rfl) ?_
          refine q_then ?_
          refine c_seq (by kernel_rfl) ?_
          refine c_seq (by kernel_rfl) ?_
          refine c_region (by kernel_rfl) ?_
          refine wl_pures (j := 2) hS 2 [1, 2, 7, 9, 15, 16, 17, 22] (m' := [(1, .int .i64 x10), (2, .int .i64 x11), (7, v5), (9, .pointer (some ⟨b1, 0, none⟩)), (15, v_0), (16, .int .i64 (p0.length : Int)), (17, .int .i64 x12), (22, .bool (x11 == 0))]) (by kernel_rfl) (by kernel_rfl) fun a hS => ?_
          refine wl_nil (by kernel_rfl) ?_
          refine q_then ?_
          refine c_if (b := (x11 == 0)) hS (by kernel_rfl) (by kernel_rfl) (fun hb => ?_) (fun hb => ?_)
          · have hf := opt_t hb hf
            refine c_exit (i := 0) (by kernel_rfl) ?_
            refine q_thenx ?_
            refine q_iny (by decide) ?_
            refine q_thenx ?_
            refine q_thenx ?_
            refine q_inx ?_
            exact q_then ⟨l5, v5, hf, hS.keep [7] (by kernel_rfl), ctx_pick [0] [] C (by kernel_rfl) rfl rfl⟩
          · have hf := opt_f hb hf
            refine c_skip (by kernel_rfl) ?_
            refine q_then ?_
            refine c_seq (by kernel_rfl) ?_
            refine c_region (by kernel_rfl) ?_
            refine wl_pures (j := 2) hS 2 [1, 2, 7, 9, 15, 16, 17, 23, 24] (m' := [(1, .int .i64 x10), (2, .int .i64 x11), (7, v5), (9, .pointer (some ⟨b1, 0, none⟩)), (15, v_0), (16, .int .i64 (p0.length : Int)), (17, .int .i64 x12), (23, .int .i64 x10), (24, .pointer (some ⟨b1, 1, none⟩))]) (by kernel_rfl) (by kernel_rfl) fun a hS => ?_
            refine wl_val (d := (some 25)) (op := (Op.load 3 (Operand.tmp 24))) (g := none) hS (by kernel_rfl) (by kernel_rfl) (r_ldb (li := 1) (off := 1) (u := .int .i64 ((F_Run.at_ p0 x12).f_N)) C rfl (by kernel_rfl) (by kernel_rfl) (by kernel_rfl)) fun a hS => ?_
            refine wl_pures (j := 5) hS 2 [1, 2, 7, 9, 10, 15, 16, 17] (m' := [(1, .int .i64 x10), (2, .int .i64 x11), (7, v5), (9, .pointer (some ⟨b1, 0, none⟩)), (10, .int .i64 (mnI x10 ((F_Run.at_ p0 x12).f_N))), (15, v_0), (16, .int .i64 (p0.length : Int)), (17, .int .i64 x12)]) (by kernel_rfl) (by kernel_rfl) fun a hS => ?_
            refine wl_nil (by kernel_rfl) ?_
            refine q_then ?_
            refine c_seq (by kernel_rfl) ?_
            refine c_region (by kernel_rfl) ?_
            refine wl_pures (j := 4) hS 4 [1, 2, 7, 9, 10, 15, 16, 17] (m' := [(1, .int .i64 (W64 (x10 - (mnI x10 ((F_Run.at_ p0 x12).f_N))))), (2, .int .i64 x11), (7, v5), (9, .pointer (some ⟨b1, 0, none⟩)), (10, .int .i64 (mnI x10 ((F_Run.at_ p0 x12).f_N))), (15, v_0), (16, .int .i64 (p0.length : Int)), (17, .int .i64 x12)]) (by kernel_rfl) (by kernel_rfl) fun a hS => ?_
            refine wl_nil (by kernel_rfl) ?_
            refine q_then ?_
            refine c_seq (by kernel_rfl) ?_
            refine c_region (by kernel_rfl) ?_
            refine wl_pures (j := 1) hS 1 [1, 2, 7, 9, 10, 15, 16, 17, 30] (m' := [(1, .int .i64 (W64 (x10 - (mnI x10 ((F_Run.at_ p0 x12).f_N))))), (2, .int .i64 x11), (7, v5), (9, .pointer (some ⟨b1, 0, none⟩)), (10, .int .i64 (mnI x10 ((F_Run.at_ p0 x12).f_N))), (15, v_0), (16, .int .i64 (p0.length : Int)), (17, .int .i64 x12), (30, .pointer (some ⟨b1, 0, none⟩))]) (by kernel_rfl) (by kernel_rfl) fun a hS => ?_
            refine wl_val (d := (some 31)) (op := (Op.load 3 (Operand.tmp 30))) (g := none) hS (by kernel_rfl) (by kernel_rfl) (r_ldb (li := 1) (off := 0) (u := .int .i64 ((F_Run.at_ p0 x12).f_At)) C rfl (by kernel_rfl) (by kernel_rfl) (by kernel_rfl)) fun a hS => ?_
            refine wl_pures (j := 5) hS 3 [1, 2, 7, 9, 10, 15, 16, 17, 33, 34] (m' := [(1, .int .i64 (W64 (x10 - (mnI x10 ((F_Run.at_ p0 x12).f_N))))), (2, .int .i64 x11), (7, v5), (9, .pointer (some ⟨b1, 0, none⟩)), (10, .int .i64 (mnI x10 ((F_Run.at_ p0 x12).f_N))), (15, v_0), (16, .int .i64 (p0.length : Int)), (17, .int .i64 x12), (33, .int .i64 (W64 (((F_Run.at_ p0 x12).f_At) + (mnI x10 ((F_Run.at_ p0 x12).f_N))))), (34, .pointer (some ⟨b1, 1, none⟩))]) (by kernel_rfl) (by kernel_rfl) fun a hS => ?_
            refine wl_val (d := (some 35)) (op := (Op.load 3 (Operand.tmp 34))) (g := none) hS (by kernel_rfl) (by kernel_rfl) (r_ldb (li := 1) (off := 1) (u := .int .i64 ((F_Run.at_ p0 x12).f_N)) C rfl (by kernel_rfl) (by kernel_rfl) (by kernel_rfl)) fun a hS => ?_
            refine wl_pures (j := 10) hS 4 [1, 2, 7, 9, 15, 16, 17, 33, 39] (m' := [(1, .int .i64 (W64 (x10 - (mnI x10 ((F_Run.at_ p0 x12).f_N))))), (2, .int .i64 x11), (7, v5), (9, .pointer (some ⟨b1, 0, none⟩)), (15, v_0), (16, .int .i64 (p0.length : Int)), (17, .int .i64 x12), (33, .int .i64 (W64 (((F_Run.at_ p0 x12).f_At) + (mnI x10 ((F_Run.at_ p0 x12).f_N))))), (39, .int .i64 (mnI (W64 (((F_Run.at_ p0 x12).f_N) - (mnI x10 ((F_Run.at_ p0 x12).f_N)))) x11))]) (by kernel_rfl) (by kernel_rfl) fun a hS => ?_
            refine wl_val (d := (some 40)) (op := (Op.build 24 #[(0, (Operand.tmp 33)), (1, (Operand.tmp 39))])) (g := none) hS (by kernel_rfl) (by kernel_rfl) (r_build (v := (.agg #[.int .i64 (W64 (((F_Run.at_ p0 x12).f_At) + (mnI x10 ((F_Run.at_ p0 x12).f_N)))), .int .i64 (mnI (W64 (((F_Run.at_ p0 x12).f_N) - (mnI x10 ((F_Run.at_ p0 x12).f_N)))) x11)])) (by kernel_rfl)) fun a hS => ?_
            refine wl_eff (d := none) (op := (Op.store 24 (Operand.tmp 9) (Operand.tmp 40))) (g := none) hS (by kernel_rfl) (by kernel_rfl) (eff_stb (li := 1) (off := 0) (us := [.int .i64 (W64 (((F_Run.at_ p0 x12).f_At) + (mnI x10 ((F_Run.at_ p0 x12).f_N)))), .int .i64 (mnI (W64 (((F_Run.at_ p0 x12).f_N) - (mnI x10 ((F_Run.at_ p0 x12).f_N)))) x11)]) (cs' := [.int .i64 (W64 (((F_Run.at_ p0 x12).f_At) + (mnI x10 ((F_Run.at_ p0 x12).f_N)))), .int .i64 (mnI (W64 (((F_Run.at_ p0 x12).f_N) - (mnI x10 ((F_Run.at_ p0 x12).f_N)))) x11)]) C rfl (by kernel_rfl) (by kernel_rfl) (by kernel_rfl) (by simp) (by kernel_rfl) (by kernel_rfl)) ?_
            rintro _ _ C a hS
            refine wl_nil (by kernel_rfl) ?_
            refine q_then ?_
            refine c_seq (by kernel_rfl) ?_
            refine c_region (by kernel_rfl) ?_
            refine wl_pures (j := 1) hS 1 [1, 2, 7, 9, 15, 16, 17, 41] (m' := [(1, .int .i64 (W64 (x10 - (mnI x10 ((F_Run.at_ p0 x12).f_N))))), (2, .int .i64 x11), (7, v5), (9, .pointer (some ⟨b1, 0, none⟩)), (15, v_0), (16, .int .i64 (p0.length : Int)), (17, .int .i64 x12), (41, .pointer (some ⟨b1, 1, none⟩))]) (by kernel_rfl) (by kernel_rfl) fun a hS => ?_
            refine wl_val (d := (some 42)) (op := (Op.load 3 (Operand.tmp 41))) (g := none) hS (by kernel_rfl) (by kernel_rfl) (r_ldb (li := 1) (off := 1) (u := .int .i64 (mnI (W64 (((F_Run.at_ p0 x12).f_N) - (mnI x10 ((F_Run.at_ p0 x12).f_N)))) x11)) C rfl (by kernel_rfl) (by kernel_rfl) (by kernel_rfl)) fun a hS => ?_
            refine wl_pures (j := 3) hS 1 [1, 2, 7, 9, 15, 16, 17, 43] (m' := [(1, .int .i64 (W64 (x10 - (mnI x10 ((F_Run.at_ p0 x12).f_N))))), (2, .int .i64 x11), (7, v5), (9, .pointer (some ⟨b1, 0, none⟩)), (15, v_0), (16, .int .i64 (p0.length : Int)), (17, .int .i64 x12), (43, .bool (decide ((mnI (W64 (((F_Run.at_ p0 x12).f_N) - (mnI x10 ((F_Run.at_ p0 x12).f_N)))) x11) > 0)))]) (by kernel_rfl) (by kernel_rfl) fun a hS => ?_
            refine wl_nil (by kernel_rfl) ?_
            refine q_then ?_
            refine c_if (b := (decide ((mnI (W64 (((F_Run.at_ p0 x12).f_N) - (mnI x10 ((F_Run.at_ p0 x12).f_N)))) x11) > 0))) hS (by kernel_rfl) (by kernel_rfl) (fun hb => ?_) (fun hb => ?_)
            · have hf := opt_t hb hf
              refine c_seq (by kernel_rfl) ?_
              refine c_region (by kernel_rfl) ?_
              refine wl_pures (j := 1) hS 1 [1, 2, 7, 9, 15, 16, 17, 44] (m' := [(1, .int .i64 (W64 (x10 - (mnI x10 ((F_Run.at_ p0 x12).f_N))))), (2, .int .i64 x11), (7, v5), (9, .pointer (some ⟨b1, 0, none⟩)), (15, v_0), (16, .int .i64 (p0.length : Int)), (17, .int .i64 x12), (44, v5)]) (by kernel_rfl) (by kernel_rfl) fun a hS => ?_
              refine wl_val (d := (some 45)) (op := (Op.load 24 (Operand.tmp 9))) (g := none) hS (by kernel_rfl) (by kernel_rfl) (r_ldbs (li := 1) (off := 0) (seg := [.int .i64 (W64 (((F_Run.at_ p0 x12).f_At) + (mnI x10 ((F_Run.at_ p0 x12).f_N)))), .int .i64 (mnI (W64 (((F_Run.at_ p0 x12).f_N) - (mnI x10 ((F_Run.at_ p0 x12).f_N)))) x11)]) C rfl (by kernel_rfl) (by kernel_rfl) (by kernel_rfl)) fun a hS => ?_
              refine wl_eff (d := (some 46)) (op := (Op.buildSlice 22 1 #[(0, (Operand.tmp 45))])) (g := none) hS (by kernel_rfl) (by kernel_rfl) (eff_slit (e := 24) (sz := 2) (cs := [.int .i64 (W64 (((F_Run.at_ p0 x12).f_At) + (mnI x10 ((F_Run.at_ p0 x12).f_N)))), .int .i64 (mnI (W64 (((F_Run.at_ p0 x12).f_N) - (mnI x10 ((F_Run.at_ p0 x12).f_N)))) x11)]) C (by kernel_rfl) (by kernel_rfl) (by decide)) ?_
              rintro v7 _ ⟨-, C⟩ a hS
              have C := ctx_relist (li := 2) (F := F_Run) (l := [(⟨(W64 (((F_Run.at_ p0 x12).f_At) + (mnI x10 ((F_Run.at_ p0 x12).f_N)))), (mnI (W64 (((F_Run.at_ p0 x12).f_N) - (mnI x10 ((F_Run.at_ p0 x12).f_N)))) x11)⟩ : S_Run)]) C rfl rfl rfl
              obtain ⟨hl1, hf⟩ := ite_some hf
              refine wl_eff (d := (some 47)) (op := (Op.call { callee := (Callee.builtin Builtin.append), args := #[(Operand.tmp 44), (Operand.tmp 46)], argTypes := #[22, 22] })) (g := none) hS (by kernel_rfl) (by kernel_rfl) (eff_append (li := 0) (n := l5.length) (m := ([(⟨(W64 (((F_Run.at_ p0 x12).f_At) + (mnI x10 ((F_Run.at_ p0 x12).f_N)))), (mnI (W64 (((F_Run.at_ p0 x12).f_N) - (mnI x10 ((F_Run.at_ p0 x12).f_N)))) x11)⟩ : S_Run)]).length) (sz := 2) (bytes := 16) (z := (.agg #[.int .i64 0, .int .i64 0])) C rfl (by kernel_rfl) (by kernel_rfl) (rds_of_row (C.okL 2 _ rfl)) (all_one (flat_all _ _)) (by kernel_rfl) rfl (by decide) hl1 (by decide)) ?_
              rintro v8 _ C a hS
              have C := ctx_relist (li := 0) (F := F_Run) (l := (l5 ++ [(⟨(W64 (((F_Run.at_ p0 x12).f_At) + (mnI x10 ((F_Run.at_ p0 x12).f_N)))), (mnI (W64 (((F_Run.at_ p0 x12).f_N) - (mnI x10 ((F_Run.at_ p0 x12).f_N)))) x11)⟩ : S_Run)])) C rfl (by simp only [List.length_append, List.length_set]) List.flatMap_append.symm
              refine wl_pures (j := 5) hS 1 [1, 2, 7, 9, 15, 16, 17] (m' := [(1, .int .i64 (W64 (x10 - (mnI x10 ((F_Run.at_ p0 x12).f_N))))), (2, .int .i64 x11), (7, v8), (9, .pointer (some ⟨b1, 0, none⟩)), (15, v_0), (16, .int .i64 (p0.length : Int)), (17, .int .i64 x12)]) (by kernel_rfl) (by kernel_rfl) fun a hS => ?_
              refine wl_nil (by kernel_rfl) ?_
              refine q_then ?_
              refine c_region (by kernel_rfl) ?_
              refine wl_pures (j := 2) hS 2 [1, 2, 7, 15, 16, 17, 48, 49] (m' := [(1, .int .i64 (W64 (x10 - (mnI x10 ((F_Run.at_ p0 x12).f_N))))), (2, .int .i64 x11), (7, v8), (15, v_0), (16, .int .i64 (p0.length : Int)), (17, .int .i64 x12), (48, .int .i64 x11), (49, .pointer (some ⟨b1, 1, none⟩))]) (by kernel_rfl) (by kernel_rfl) fun a hS => ?_
              refine wl_val (d := (some 50)) (op := (Op.load 3 (Operand.tmp 49))) (g := none) hS (by kernel_rfl) (by kernel_rfl) (r_ldb (li := 1) (off := 1) (u := .int .i64 (mnI (W64 (((F_Run.at_ p0 x12).f_N) - (mnI x10 ((F_Run.at_ p0 x12).f_N)))) x11)) C rfl (by kernel_rfl) (by kernel_rfl) (by kernel_rfl)) fun a hS => ?_
              refine wl_pures (j := 5) hS 2 [1, 2, 7, 15, 16, 17] (m' := [(1, .int .i64 (W64 (x10 - (mnI x10 ((F_Run.at_ p0 x12).f_N))))), (2, .int .i64 (W64 (x11 - (mnI (W64 (((F_Run.at_ p0 x12).f_N) - (mnI x10 ((F_Run.at_ p0 x12).f_N)))) x11)))), (7, v8), (15, v_0), (16, .int .i64 (p0.length : Int)), (17, .int .i64 x12)]) (by kernel_rfl) (by kernel_rfl) fun a hS => ?_
              refine wl_nil (by kernel_rfl) ?_
              refine q_in ?_
              exact q_then ⟨(W64 (x11 - (mnI (W64 (((F_Run.at_ p0 x12).f_N) - (mnI x10 ((F_Run.at_ p0 x12).f_N)))) x11))), (l5 ++ [(⟨(W64 (((F_Run.at_ p0 x12).f_At) + (mnI x10 ((F_Run.at_ p0 x12).f_N)))), (mnI (W64 (((F_Run.at_ p0 x12).f_N) - (mnI x10 ((F_Run.at_ p0 x12).f_N)))) x11)⟩ : S_Run)]), v8, hf, hS.keep [1, 2, 7, 15, 16, 17] (by kernel_rfl), ctx_pick [0] [0] C (by kernel_rfl) rfl rfl⟩
            · have hf := opt_f hb hf
              refine c_skip (by kernel_rfl) ?_
              refine q_in ?_
              exact q_then ⟨x11, l5, v5, hf, hS.keep [1, 2, 7, 15, 16, 17] (by kernel_rfl), ctx_pick [0] [0] C (by kernel_rfl) rfl rfl⟩
      · have hf := opt_f hb hf
        refine c_exit (i := 0) (by kernel_rfl) ?_
        refine q_thenx ?_
        refine q_thenx ?_
        refine q_inx ?_
        exact q_then ⟨l5, v5, hf, hS.keep [7] (by kernel_rfl), ctx_pick [0] [] C (by kernel_rfl) rfl rfl⟩

def extent_Cut.f (k : Nat) (p0 : (List S_Run)) (p1 : Int) : Option ((List S_Run) × (List S_Run)) := ((extent_Rest.f k p0 0 p1).bind fun t1 => ((extent_Rest.f k p0 p1 1125899906842624).bind fun t2 => (some (t1, t2))))
theorem extent_Cut_ok (k : Nat) (w0 : World) (p0 : (List S_Run)) (p1 : Int) (v_0 : Value) (h_0 : Rds v_0 p0.length 2 (p0.flatMap F_Run.cells) w0) (res : ((List S_Run) × (List S_Run))) (hf : extent_Cut.f k p0 p1 = some res) :
    Fn Try.prog 27 [v_0, .int .i64 p1] w0 (fun v w' => ∃ u0 : Value, ∃ u1 : Value, v = .tuple #[u0, u1] ∧ Fr nob w0 w' ∧ Lies w0 nob F_Run u0 res.1 w' ∧ Lies w0 nob F_Run u1 res.2 w') := by
  have C := ctx_start w0 [rdE v_0 p0.length 2 (p0.flatMap F_Run.cells)] (start1 h_0)
  generalize allDom [rdE v_0 p0.length 2 (p0.flatMap F_Run.cells)] = A0 at C
  refine f_enter (fn := Try.f27) (k := 10) rfl rfl rfl fun a hS => ?_
  have hS : Sl 12 [(0, v_0), (1, .int .i64 p1)] a := hS
  rw [extent_Cut.f] at hf
  refine c_seq (by kernel_rfl) ?_
  refine c_region (by kernel_rfl) ?_
  refine wl_pures (j := 2) hS 2 [0, 1] (m' := [(0, v_0), (1, .int .i64 p1)]) (by kernel_rfl) (by kernel_rfl) fun a hS => ?_
  refine wl_nil (by kernel_rfl) ?_
  refine q_then ?_
  refine c_seq (by kernel_rfl) ?_
  refine c_region (by kernel_rfl) ?_
  refine wl_pures (j := 2) hS 2 [0, 1, 6, 7] (m' := [(0, v_0), (1, .int .i64 p1), (6, v_0), (7, .int .i64 p1)]) (by kernel_rfl) (by kernel_rfl) fun a hS => ?_
  obtain ⟨t1, ht1, hf⟩ := bind_some hf
  refine wl_eff (d := (some 8)) (op := (Op.call { callee := (Callee.value (Operand.func 23)), args := #[(Operand.tmp 6), (Operand.const (Value.int IntKind.i64 0)), (Operand.tmp 7)], argTypes := #[22, 3, 3] })) (g := none) hS (by kernel_rfl) (by kernel_rfl) (eff_fn (by kernel_rfl) rfl (by kernel_rfl) (extent_Rest_ok k _ p0 0 p1 v_0 (C.okR 0 _ rfl) t1 ht1)) ?_
  rintro v1 _ ⟨hw, hr1⟩ a hS
  have C := got_own C hw hr1
  refine wl_pures (j := 5) hS 2 [8, 9, 10] (m' := [(8, v1), (9, v_0), (10, .int .i64 p1)]) (by kernel_rfl) (by kernel_rfl) fun a hS => ?_
  obtain ⟨t2, ht2, hf⟩ := bind_some hf
  refine wl_eff (d := (some 11)) (op := (Op.call { callee := (Callee.value (Operand.func 23)), args := #[(Operand.tmp 9), (Operand.tmp 10), (Operand.const (Value.int IntKind.i64 1125899906842624))], argTypes := #[22, 3, 3] })) (g := none) hS (by kernel_rfl) (by kernel_rfl) (eff_fn (by kernel_rfl) rfl (by kernel_rfl) (extent_Rest_ok k _ p0 p1 1125899906842624 v_0 (C.okR 0 _ rfl) t2 ht2)) ?_
  rintro v2 _ ⟨hw, hr2⟩ a hS
  have C := got_own C hw hr2
  refine wl_pures (j := 8) hS 2 [4, 5] (m' := [(4, v1), (5, v2)]) (by kernel_rfl) (by kernel_rfl) fun a hS => ?_
  refine wl_nil (by kernel_rfl) ?_
  refine q_then ?_
  refine c_ret (by kernel_rfl) ?_
  refine q_ret hS (vs := [v1, v2]) (by kernel_rfl) ?_
  obtain rfl := Option.some.inj hf
  exact ⟨_, rfl, v1, v2, rfl, C.fr, own_lies (e := 24) (ret_own (li := 0) C rfl rfl), own_lies (e := 24) (ret_own (li := 1) C rfl rfl)⟩

def extent_Take.j1 (k : Nat) (p0 : (List S_Run)) (p1 : Int) (x1 : Bool) : Option ((List S_Run) × (List S_Run) × Bool) := (if x1 = true then (some ([], p0, false)) else ((extent_Cut.f k p0 p1).bind fun t1 => (some (t1.1, t1.2, true))))
def extent_Take.f (k : Nat) (p0 : (List S_Run)) (p1 : Int) : Option ((List S_Run) × (List S_Run) × Bool) := (if (decide (p1 < 0)) = true then extent_Take.j1 k p0 p1 true else ((extent_Check.f k p0).bind fun t2 => (if (t2 != 0) = true then extent_Take.j1 k p0 p1 true else ((extent_Total.f k p0).bind fun t3 => extent_Take.j1 k p0 p1 (decide (t3 < p1))))))
theorem extent_Take_ok (k : Nat) (w0 : World) (p0 : (List S_Run)) (p1 : Int) (v_0 : Value) (h_0 : Rds v_0 p0.length 2 (p0.flatMap F_Run.cells) w0) (res : ((List S_Run) × (List S_Run) × Bool)) (hf : extent_Take.f k p0 p1 = some res) :
    Fn Try.prog 12 [v_0, .int .i64 p1] w0 (fun v w' => ∃ u0 : Value, ∃ u1 : Value, v = .tuple #[u0, u1, .bool res.2.2] ∧ Fr nob w0 w' ∧ Lies w0 (allDom [rdE v_0 p0.length 2 (p0.flatMap F_Run.cells)]) F_Run u0 res.1 w' ∧ Lies w0 (allDom [rdE v_0 p0.length 2 (p0.flatMap F_Run.cells)]) F_Run u1 res.2.1 w') := by
  have C := ctx_start w0 [rdE v_0 p0.length 2 (p0.flatMap F_Run.cells)] (start1 h_0)
  generalize allDom [rdE v_0 p0.length 2 (p0.flatMap F_Run.cells)] = A0 at C
  refine f_enter (fn := Try.f12) (k := 29) rfl rfl rfl fun a hS => ?_
  have hS : Sl 31 [(0, v_0), (1, .int .i64 p1)] a := hS
  rw [extent_Take.f] at hf
  refine c_seq (by kernel_rfl) ?_
  refine c_region (by kernel_rfl) ?_
  refine wl_pures (j := 3) hS 3 [0, 1] (m' := [(0, v_0), (1, .int .i64 p1)]) (by kernel_rfl) (by kernel_rfl) fun a hS => ?_
  refine wl_nil (by kernel_rfl) ?_
  refine q_then ?_
  refine c_seq (by kernel_rfl) ?_
  refine c_join (by kernel_rfl) (fun a w => ∃ x1 : Bool, extent_Take.j1 k p0 p1 x1 = some res ∧ Sl 31 [(0, v_0), (1, .int .i64 p1), (21, .bool x1)] a ∧ Ctx w0 nob A0 [] [rdE v_0 p0.length 2 (p0.flatMap F_Run.cells)] w) ?_ ?_
  · rintro a w ⟨x1, hf, hS, C⟩
    rw [extent_Take.j1] at hf
    refine c_if (b := x1) hS (by kernel_rfl) (by kernel_rfl) (fun hb => ?_) (fun hb => ?_)
    · have hf := opt_t hb hf
      refine c_seq (by kernel_rfl) ?_
      refine c_region (by kernel_rfl) ?_
      refine wl_pures (j := 4) hS 4 [4, 5, 6] (m' := [(4, (.slice none 0 0)), (5, v_0), (6, .bool false)]) (by kernel_rfl) (by kernel_rfl) fun a hS => ?_
      refine wl_nil (by kernel_rfl) ?_
      refine q_then ?_
      refine c_ret (by kernel_rfl) ?_
      refine q_thenr ?_
      refine q_ret hS (vs := [(.slice none 0 0), v_0, .bool false]) (by kernel_rfl) ?_
      obtain rfl := Option.some.inj hf
      exact ⟨_, rfl, (.slice none 0 0), v_0, rfl, C.fr, own_lies (e := 24) (ret_nil _ _), ret_lies (ri := 0) C rfl rfl⟩
    · have hf := opt_f hb hf
      refine c_skip (by kernel_rfl) ?_
      refine q_then ?_
      refine c_seq (by kernel_rfl) ?_
      refine c_region (by kernel_rfl) ?_
      refine wl_pures (j := 2) hS 2 [24, 25] (m' := [(24, v_0), (25, .int .i64 p1)]) (by kernel_rfl) (by kernel_rfl) fun a hS => ?_
      obtain ⟨t1, ht1, hf⟩ := bind_some hf
      refine wl_eff (d := (some 26)) (op := (Op.call { callee := (Callee.value (Operand.func 27)), args := #[(Operand.tmp 24), (Operand.tmp 25)], argTypes := #[22, 3] })) (g := none) hS (by kernel_rfl) (by kernel_rfl) (eff_fn (by kernel_rfl) rfl (by kernel_rfl) (extent_Cut_ok k _ p0 p1 v_0 (C.okR 0 _ rfl) t1 ht1)) ?_
      rintro _ _ ⟨v1, v2, rfl, hw, hr1, hr2⟩ a hS
      have CC := C
      have C := got_lies C hw hr1 (fun _ h => h.elim)
      have C := got_more CC C hw hr2 (fun _ h => h.elim)
      refine wl_pures (j := 8) hS 5 [7, 8] (m' := [(7, v1), (8, v2)]) (by kernel_rfl) (by kernel_rfl) fun a hS => ?_
      refine wl_nil (by kernel_rfl) ?_
      refine q_then ?_
      refine c_seq (by kernel_rfl) ?_
      refine c_region (by kernel_rfl) ?_
      refine wl_pures (j := 5) hS 5 [4, 5, 6] (m' := [(4, v1), (5, v2), (6, .bool true)]) (by kernel_rfl) (by kernel_rfl) fun a hS => ?_
      refine wl_nil (by kernel_rfl) ?_
      refine q_then ?_
      refine c_ret (by kernel_rfl) ?_
      refine q_ret hS (vs := [v1, v2, .bool true]) (by kernel_rfl) ?_
      obtain rfl := Option.some.inj hf
      exact ⟨_, rfl, v1, v2, rfl, C.fr, ret_lies (ri := 1) C rfl rfl, ret_lies (ri := 2) C rfl rfl⟩
  · refine c_region (by kernel_rfl) ?_
    refine wl_pures (j := 3) hS 3 [0, 1, 11] (m' := [(0, v_0), (1, .int .i64 p1), (11, .bool (decide (p1 < 0)))]) (by kernel_rfl) (by kernel_rfl) fun a hS => ?_
    rcases Bool.eq_false_or_eq_true (decide (p1 < 0)) with hb | hb
    · rw [hb] at hS
      have hf := opt_t hb hf
      refine wl_pures (j := 13) hS 10 [0, 1, 21] (m' := [(0, v_0), (1, .int .i64 p1), (21, .bool true)]) (by kernel_rfl) (by kernel_rfl) fun a hS => ?_
      refine wl_nil (by kernel_rfl) ?_
      exact q_then ⟨true, hf, hS.keep [0, 1, 21] (by kernel_rfl), ctx_pick [] [0] C (by kernel_rfl) rfl rfl⟩
    · rw [hb] at hS
      have hf := opt_f hb hf
      refine wl_pures (j := 4) hS 1 [0, 1, 11, 12] (m' := [(0, v_0), (1, .int .i64 p1), (11, .bool false), (12, v_0)]) (by kernel_rfl) (by kernel_rfl) fun a hS => ?_
      obtain ⟨t2, ht2, hf⟩ := bind_some hf
      refine wl_eff (d := (some 13)) (op := (Op.call { callee := (Callee.value (Operand.func 20)), args := #[(Operand.tmp 12)], argTypes := #[22] })) (g := (some (2, false))) hS (by kernel_rfl) (by kernel_rfl) (eff_fn (by kernel_rfl) rfl (by kernel_rfl) (extent_Check_ok k _ p0 v_0 (C.okR 0 _ rfl) t2 ht2)) ?_
      rintro _ _ ⟨rfl, hw⟩ a hS
      have C := ctx_still C hw
      refine wl_pures (j := 8) hS 3 [0, 1, 16] (m' := [(0, v_0), (1, .int .i64 p1), (16, .bool (t2 != 0))]) (by kernel_rfl) (by kernel_rfl) fun a hS => ?_
      rcases Bool.eq_false_or_eq_true (t2 != 0) with hb | hb
      · rw [hb] at hS
        have hf := opt_t hb hf
        refine wl_pures (j := 13) hS 5 [0, 1, 21] (m' := [(0, v_0), (1, .int .i64 p1), (21, .bool true)]) (by kernel_rfl) (by kernel_rfl) fun a hS => ?_
        refine wl_nil (by kernel_rfl) ?_
        exact q_then ⟨true, hf, hS.keep [0, 1, 21] (by kernel_rfl), ctx_pick [] [0] C (by kernel_rfl) rfl rfl⟩
      · rw [hb] at hS
        have hf := opt_f hb hf
        refine wl_pures (j := 9) hS 1 [0, 1, 16, 17] (m' := [(0, v_0), (1, .int .i64 p1), (16, .bool false), (17, v_0)]) (by kernel_rfl) (by kernel_rfl) fun a hS => ?_
        obtain ⟨t3, ht3, hf⟩ := bind_some hf
        refine wl_eff (d := (some 18)) (op := (Op.call { callee := (Callee.value (Operand.func 17)), args := #[(Operand.tmp 17)], argTypes := #[22] })) (g := (some (7, false))) hS (by kernel_rfl) (by kernel_rfl) (eff_fn (by kernel_rfl) rfl (by kernel_rfl) (extent_Total_ok k _ p0 v_0 (C.okR 0 _ rfl) t3 ht3)) ?_
        rintro _ _ ⟨rfl, hw⟩ a hS
        have C := ctx_still C hw
        refine wl_pures (j := 13) hS 3 [0, 1, 21] (m' := [(0, v_0), (1, .int .i64 p1), (21, .bool (decide (t3 < p1)))]) (by kernel_rfl) (by kernel_rfl) fun a hS => ?_
        refine wl_nil (by kernel_rfl) ?_
        exact q_then ⟨(decide (t3 < p1)), hf, hS.keep [0, 1, 21] (by kernel_rfl), ctx_pick [] [0] C (by kernel_rfl) rfl rfl⟩

def slices_IndexFunc_api_Run.l1 (p0 : (List S_Run)) (p1 : (S_Run → Option Bool)) : Nat → Int → Option Int
  | 0, _ => none
  | kk1 + 1, x4 => (if (decide (x4 < (p0.length : Int))) = true then (if 0 ≤ x4 ∧ x4 < (p0.length : Int) then ((p1 (F_Run.at_ p0 x4)).bind fun t1 => (if t1 = true then (some x4) else (slices_IndexFunc_api_Run.l1 p0 p1 kk1) (W64 (x4 + 1)))) else none) else (some (-1)))
def slices_IndexFunc_api_Run.f (k : Nat) (p0 : (List S_Run)) (p1 : (S_Run → Option Bool)) : Option Int := slices_IndexFunc_api_Run.l1 p0 p1 k 0
theorem slices_IndexFunc_api_Run_ok (k : Nat) (w0 : World) (p0 : (List S_Run)) (p1 : (S_Run → Option Bool)) (v_0 : Value) (v_1 : Value) (h_0 : Rds v_0 p0.length 2 (p0.flatMap F_Run.cells) w0) (h_1 : ∀ w', Fr nob w0 w' → ∀ (y0 : S_Run) (r : Bool), p1 y0 = some r → Fv Try.prog v_1 [.agg #[.int .i64 y0.f_At, .int .i64 y0.f_N]] w' (fun v w'' => v = .bool r ∧ Fr nob w' w'')) (res : Int) (hf : slices_IndexFunc_api_Run.f k p0 p1 = some res) :
    Fn Try.prog 40 [v_0, v_1] w0 (fun v w' => v = .int .i64 res ∧ Fr nob w0 w') := by
  have C := ctx_start w0 [rdE v_0 p0.length 2 (p0.flatMap F_Run.cells)] (start1 h_0)
  generalize allDom [rdE v_0 p0.length 2 (p0.flatMap F_Run.cells)] = A0 at C
  refine f_enter (fn := Try.f40) (k := 17) rfl rfl rfl fun a hS => ?_
  have hS : Sl 19 [(0, v_0), (1, v_1)] a := hS
  rw [slices_IndexFunc_api_Run.f] at hf
  refine c_seq (by kernel_rfl) ?_
  refine c_region (by kernel_rfl) ?_
  refine wl_pures (j := 1) hS 1 [0, 1] (m' := [(0, v_0), (1, v_1)]) (by kernel_rfl) (by kernel_rfl) fun a hS => ?_
  refine wl_nil (by kernel_rfl) ?_
  refine q_then ?_
  refine c_seq (by kernel_rfl) ?_
  refine c_seq (by kernel_rfl) ?_
  refine c_region (by kernel_rfl) ?_
  refine wl_pures (j := 1) hS 1 [0, 1, 6] (m' := [(0, v_0), (1, v_1), (6, v_0)]) (by kernel_rfl) (by kernel_rfl) fun a hS => ?_
  refine wl_val (d := (some 7)) (op := (Op.call { callee := (Callee.builtin Builtin.len), args := #[(Operand.tmp 6)], argTypes := #[22] })) (g := none) hS (by kernel_rfl) (by kernel_rfl) (r_len (n := p0.length) (v := v_0) (rds_shp (C.okR 0 _ rfl)) (by kernel_rfl) (by kernel_rfl)) fun a hS => ?_
  refine wl_pures (j := 3) hS 1 [0, 1, 7, 8] (m' := [(0, v_0), (1, v_1), (7, .int .i64 (p0.length : Int)), (8, .int .i64 0)]) (by kernel_rfl) (by kernel_rfl) fun a hS => ?_
  refine wl_nil (by kernel_rfl) ?_
  refine q_then ?_
  refine c_block (i := 0) (by kernel_rfl) ?_
  refine c_loop (by kernel_rfl) (fun kk1 a w => ∃ x4 : Int, slices_IndexFunc_api_Run.l1 p0 p1 kk1 x4 = some res ∧ Sl 19 [(0, v_0), (1, v_1), (7, .int .i64 (p0.length : Int)), (8, .int .i64 x4)] a ∧ Ctx w0 nob A0 [] [rdE v_0 p0.length 2 (p0.flatMap F_Run.cells)] w) k ⟨0, hf, hS.keep [0, 1, 7, 8] (by kernel_rfl), ctx_pick [] [0] C (by kernel_rfl) rfl rfl⟩ ?_
  rintro kk1 a w ⟨x4, hf, hS, C⟩
  cases kk1 with
  | zero => exact no_none hf
  | succ kk1 =>
    rw [slices_IndexFunc_api_Run.l1] at hf
    refine c_seq (by kernel_rfl) ?_
    refine c_region (by kernel_rfl) ?_
    refine wl_pures (j := 1) hS 1 [0, 1, 7, 8, 9] (m' := [(0, v_0), (1, v_1), (7, .int .i64 (p0.length : Int)), (8, .int .i64 x4), (9, .bool (decide (x4 < (p0.length : Int))))]) (by kernel_rfl) (by kernel_rfl) fun a hS => ?_
    refine wl_nil (by kernel_rfl) ?_
    refine q_then ?_
    refine c_seq (by kernel_rfl) ?_
    refine c_if (b := (decide (x4 < (p0.length : Int)))) hS (by kernel_rfl) (by kernel_rfl) (fun hb => ?_) (fun hb => ?_)
    · have hf := opt_t hb hf
      refine c_skip (by kernel_rfl) ?_
      refine q_then ?_
      refine c_seq (by kernel_rfl) ?_
      refine c_block (i := 1) (by kernel_rfl) ?_
      refine c_seq (by kernel_rfl) ?_
      refine c_region (by kernel_rfl) ?_
      refine wl_pures (j := 2) hS 2 [0, 1, 5, 7, 8] (m' := [(0, v_0), (1, v_1), (5, .int .i64 x4), (7, .int .i64 (p0.length : Int)), (8, .int .i64 x4)]) (by kernel_rfl) (by kernel_rfl) fun a hS => ?_
      refine wl_nil (by kernel_rfl) ?_
      refine q_then ?_
      refine c_seq (by kernel_rfl) ?_
      refine c_region (by kernel_rfl) ?_
      refine wl_pures (j := 3) hS 3 [0, 1, 5, 7, 8, 11, 12, 13] (m' := [(0, v_0), (1, v_1), (5, .int .i64 x4), (7, .int .i64 (p0.length : Int)), (8, .int .i64 x4), (11, v_1), (12, v_0), (13, .int .i64 x4)]) (by kernel_rfl) (by kernel_rfl) fun a hS => ?_
      obtain ⟨hi1, hf⟩ := ite_some hf
      refine wl_val (d := (some 14)) (op := (Op.indexAddr 22 (Operand.tmp 12) (Operand.tmp 13))) (g := none) hS (by kernel_rfl) (by kernel_rfl) (r_idx (i := x4) (k := .i64) (v := v_0) (sz := 2) (rds_shp (C.okR 0 _ rfl)) (by kernel_rfl) (by kernel_rfl) hi1.1 hi1.2 (by kernel_rfl)) fun a hS => ?_
      refine wl_val (d := (some 15)) (op := (Op.load 24 (Operand.tmp 14))) (g := none) hS (by kernel_rfl) (by kernel_rfl) (r_ldFs F_Run (i := x4) (seg := [.int .i64 ((F_Run.at_ p0 x4).f_At), .int .i64 ((F_Run.at_ p0 x4).f_N)]) (C.okR 0 _ rfl) (by kernel_rfl) hi1.1 hi1.2 (by kernel_rfl) (by kernel_rfl)) fun a hS => ?_
      obtain ⟨t1, ht1, hf⟩ := bind_some hf
      refine wl_eff (d := (some 16)) (op := (Op.call { callee := (Callee.value (Operand.tmp 11)), args := #[(Operand.tmp 15)], argTypes := #[24] })) (g := none) hS (by kernel_rfl) (by kernel_rfl) (eff_fv (by kernel_rfl) (h_1 _ C.fr (F_Run.at_ p0 x4) t1 ht1)) ?_
      rintro _ _ ⟨rfl, hw⟩ a hS
      have C := ctx_still C hw
      refine wl_nil (by kernel_rfl) ?_
      refine q_then ?_
      refine c_if (b := t1) hS (by kernel_rfl) (by kernel_rfl) (fun hb => ?_) (fun hb => ?_)
      · have hf := opt_t hb hf
        refine c_seq (by kernel_rfl) ?_
        refine c_region (by kernel_rfl) ?_
        refine wl_pures (j := 2) hS 2 [4] (m' := [(4, .int .i64 x4)]) (by kernel_rfl) (by kernel_rfl) fun a hS => ?_
        refine wl_nil (by kernel_rfl) ?_
        refine q_then ?_
        refine c_ret (by kernel_rfl) ?_
        refine q_inr ?_
        refine q_thenr ?_
        refine q_thenr ?_
        refine q_inr ?_
        refine q_thenr ?_
        refine q_ret hS (vs := [.int .i64 x4]) (by kernel_rfl) ?_
        obtain rfl := Option.some.inj hf
        exact ⟨_, rfl, rfl, C.fr⟩
      · have hf := opt_f hb hf
        refine c_skip (by kernel_rfl) ?_
        refine q_in ?_
        refine q_then ?_
        refine c_region (by kernel_rfl) ?_
        refine wl_pures (j := 2) hS 2 [0, 1, 7, 8] (m' := [(0, v_0), (1, v_1), (7, .int .i64 (p0.length : Int)), (8, .int .i64 (W64 (x4 + 1)))]) (by kernel_rfl) (by kernel_rfl) fun a hS => ?_
        refine wl_nil (by kernel_rfl) ?_
        exact q_then ⟨kk1, Nat.lt_succ_self kk1, (W64 (x4 + 1)), hf, hS.keep [0, 1, 7, 8] (by kernel_rfl), ctx_pick [] [0] C (by kernel_rfl) rfl rfl⟩
    · have hf := opt_f hb hf
      refine c_exit (i := 0) (by kernel_rfl) ?_
      refine q_thenx ?_
      refine q_thenx ?_
      refine q_inx ?_
      refine q_then ?_
      refine c_seq (by kernel_rfl) ?_
      refine c_region (by kernel_rfl) ?_
      refine wl_pures (j := 1) hS 1 [4] (m' := [(4, .int .i64 (-1))]) (by kernel_rfl) (by kernel_rfl) fun a hS => ?_
      refine wl_nil (by kernel_rfl) ?_
      refine q_then ?_
      refine c_ret (by kernel_rfl) ?_
      refine q_ret hS (vs := [.int .i64 (-1)]) (by kernel_rfl) ?_
      obtain rfl := Option.some.inj hf
      exact ⟨_, rfl, rfl, C.fr⟩

def extent_place_api_Run.f (k : Nat) (p0 : (List S_Run)) (p1 : (S_Run → Option Bool)) : Option Int := ((slices_IndexFunc_api_Run.f k p0 p1).bind fun t1 => (if (decide (t1 < 0)) = true then (some (p0.length : Int)) else (some t1)))
theorem extent_place_api_Run_ok (k : Nat) (w0 : World) (p0 : (List S_Run)) (p1 : (S_Run → Option Bool)) (v_0 : Value) (v_1 : Value) (h_0 : Rds v_0 p0.length 2 (p0.flatMap F_Run.cells) w0) (h_1 : ∀ w', Fr nob w0 w' → ∀ (y0 : S_Run) (r : Bool), p1 y0 = some r → Fv Try.prog v_1 [.agg #[.int .i64 y0.f_At, .int .i64 y0.f_N]] w' (fun v w'' => v = .bool r ∧ Fr nob w' w'')) (res : Int) (hf : extent_place_api_Run.f k p0 p1 = some res) :
    Fn Try.prog 32 [v_0, v_1] w0 (fun v w' => v = .int .i64 res ∧ Fr nob w0 w') := by
  have C := ctx_start w0 [rdE v_0 p0.length 2 (p0.flatMap F_Run.cells)] (start1 h_0)
  generalize allDom [rdE v_0 p0.length 2 (p0.flatMap F_Run.cells)] = A0 at C
  refine f_enter (fn := Try.f32) (k := 12) rfl rfl rfl fun a hS => ?_
  have hS : Sl 14 [(0, v_0), (1, v_1)] a := hS
  rw [extent_place_api_Run.f] at hf
  refine c_seq (by kernel_rfl) ?_
  refine c_region (by kernel_rfl) ?_
  refine wl_pures (j := 1) hS 1 [0, 1] (m' := [(0, v_0), (1, v_1)]) (by kernel_rfl) (by kernel_rfl) fun a hS => ?_
  refine wl_nil (by kernel_rfl) ?_
  refine q_then ?_
  refine c_seq (by kernel_rfl) ?_
  refine c_region (by kernel_rfl) ?_
  refine wl_pures (j := 2) hS 2 [0, 6, 7] (m' := [(0, v_0), (6, v_0), (7, v_1)]) (by kernel_rfl) (by kernel_rfl) fun a hS => ?_
  obtain ⟨t1, ht1, hf⟩ := bind_some hf
  refine wl_eff (d := (some 8)) (op := (Op.call { callee := (Callee.value (Operand.func 40)), args := #[(Operand.tmp 6), (Operand.tmp 7)], argTypes := #[22, 47] })) (g := none) hS (by kernel_rfl) (by kernel_rfl) (eff_fn (by kernel_rfl) rfl (by kernel_rfl) (slices_IndexFunc_api_Run_ok k _ p0 p1 v_0 v_1 (C.okR 0 _ rfl) (fun w' hw' => h_1 w' (C.fr.then hw')) t1 ht1)) ?_
  rintro _ _ ⟨rfl, hw⟩ a hS
  have C := ctx_still C hw
  refine wl_pures (j := 4) hS 1 [0, 5] (m' := [(0, v_0), (5, .int .i64 t1)]) (by kernel_rfl) (by kernel_rfl) fun a hS => ?_
  refine wl_nil (by kernel_rfl) ?_
  refine q_then ?_
  refine c_seq (by kernel_rfl) ?_
  refine c_seq (by kernel_rfl) ?_
  refine c_region (by kernel_rfl) ?_
  refine wl_pures (j := 2) hS 2 [0, 5, 10] (m' := [(0, v_0), (5, .int .i64 t1), (10, .bool (decide (t1 < 0)))]) (by kernel_rfl) (by kernel_rfl) fun a hS => ?_
  refine wl_nil (by kernel_rfl) ?_
  refine q_then ?_
  refine c_if (b := (decide (t1 < 0))) hS (by kernel_rfl) (by kernel_rfl) (fun hb => ?_) (fun hb => ?_)
  · have hf := opt_t hb hf
    refine c_seq (by kernel_rfl) ?_
    refine c_region (by kernel_rfl) ?_
    refine wl_pures (j := 1) hS 1 [11] (m' := [(11, v_0)]) (by kernel_rfl) (by kernel_rfl) fun a hS => ?_
    refine wl_val (d := (some 12)) (op := (Op.call { callee := (Callee.builtin Builtin.len), args := #[(Operand.tmp 11)], argTypes := #[22] })) (g := none) hS (by kernel_rfl) (by kernel_rfl) (r_len (n := p0.length) (v := v_0) (rds_shp (C.okR 0 _ rfl)) (by kernel_rfl) (by kernel_rfl)) fun a hS => ?_
    refine wl_pures (j := 3) hS 1 [4] (m' := [(4, .int .i64 (p0.length : Int))]) (by kernel_rfl) (by kernel_rfl) fun a hS => ?_
    refine wl_nil (by kernel_rfl) ?_
    refine q_then ?_
    refine c_ret (by kernel_rfl) ?_
    refine q_thenr ?_
    refine q_ret hS (vs := [.int .i64 (p0.length : Int)]) (by kernel_rfl) ?_
    obtain rfl := Option.some.inj hf
    exact ⟨_, rfl, rfl, C.fr⟩
  · have hf := opt_f hb hf
    refine c_skip (by kernel_rfl) ?_
    refine q_then ?_
    refine c_seq (by kernel_rfl) ?_
    refine c_region (by kernel_rfl) ?_
    refine wl_pures (j := 2) hS 2 [4] (m' := [(4, .int .i64 t1)]) (by kernel_rfl) (by kernel_rfl) fun a hS => ?_
    refine wl_nil (by kernel_rfl) ?_
    refine q_then ?_
    refine c_ret (by kernel_rfl) ?_
    refine q_ret hS (vs := [.int .i64 t1]) (by kernel_rfl) ?_
    obtain rfl := Option.some.inj hf
    exact ⟨_, rfl, rfl, C.fr⟩

def extent_Give_1.f (k : Nat) (p0 : S_Run) (c0_0 : Int) (c0_1 : Int) : Option Bool := (some (decide (p0.f_At ≥ c0_0)))
theorem extent_Give_1_ok (k : Nat) (w0 : World) (p0 : S_Run) (c0_0 : Int) (c0_1 : Int) (b_0 : Nat) (hb_0 : (boxE b_0 24 [.int .i64 c0_0, .int .i64 c0_1]).ok w0) (res : Bool) (hf : extent_Give_1.f k p0 c0_0 c0_1 = some res) :
    Fn Try.prog 33 [.agg #[.int .i64 p0.f_At, .int .i64 p0.f_N], .pointer (some ⟨b_0, 0, none⟩)] w0 (fun v w' => v = .bool res ∧ Fr nob w0 w') := by
  have C := ctx_start w0 [boxE b_0 24 [.int .i64 c0_0, .int .i64 c0_1]] (start1 hb_0)
  generalize allDom [boxE b_0 24 [.int .i64 c0_0, .int .i64 c0_1]] = A0 at C
  refine f_enter (fn := Try.f33) (k := 7) rfl rfl rfl fun a hS => ?_
  have hS : Sl 9 [(0, .agg #[.int .i64 p0.f_At, .int .i64 p0.f_N]), (1, .pointer (some ⟨b_0, 0, none⟩))] a := hS
  rw [extent_Give_1.f] at hf
  refine c_seq (by kernel_rfl) ?_
  refine c_region (by kernel_rfl) ?_
  refine wl_eff (d := (some 2)) (op := (Op.box 24 (Operand.tmp 0))) (g := none) hS (by kernel_rfl) (by kernel_rfl) (eff_box C (cs := [.int .i64 p0.f_At, .int .i64 p0.f_N]) (by kernel_rfl)) ?_
  rintro _ _ ⟨b1, rfl, C⟩ a hS
  refine wl_pures (j := 2) hS 1 [1, 2] (m' := [(1, .pointer (some ⟨b_0, 0, none⟩)), (2, .pointer (some ⟨b1, 0, none⟩))]) (by kernel_rfl) (by kernel_rfl) fun a hS => ?_
  refine wl_nil (by kernel_rfl) ?_
  refine q_then ?_
  refine c_seq (by kernel_rfl) ?_
  refine c_region (by kernel_rfl) ?_
  refine wl_pures (j := 1) hS 1 [1, 4] (m' := [(1, .pointer (some ⟨b_0, 0, none⟩)), (4, .pointer (some ⟨b1, 0, none⟩))]) (by kernel_rfl) (by kernel_rfl) fun a hS => ?_
  refine wl_val (d := (some 5)) (op := (Op.load 3 (Operand.tmp 4))) (g := none) hS (by kernel_rfl) (by kernel_rfl) (r_ldb (li := 0) (off := 0) (u := .int .i64 p0.f_At) C rfl (by kernel_rfl) (by kernel_rfl) (by kernel_rfl)) fun a hS => ?_
  refine wl_pures (j := 3) hS 1 [5, 6] (m' := [(5, .int .i64 p0.f_At), (6, .pointer (some ⟨b_0, 0, none⟩))]) (by kernel_rfl) (by kernel_rfl) fun a hS => ?_
  refine wl_val (d := (some 7)) (op := (Op.load 3 (Operand.tmp 6))) (g := none) hS (by kernel_rfl) (by kernel_rfl) (r_ldRb (li := 0) (off := 0) (u := .int .i64 c0_0) C rfl (by kernel_rfl) (by kernel_rfl) (by kernel_rfl)) fun a hS => ?_
  refine wl_pures (j := 6) hS 2 [3] (m' := [(3, .bool (decide (p0.f_At ≥ c0_0)))]) (by kernel_rfl) (by kernel_rfl) fun a hS => ?_
  refine wl_nil (by kernel_rfl) ?_
  refine q_then ?_
  refine c_ret (by kernel_rfl) ?_
  refine q_ret hS (vs := [.bool (decide (p0.f_At ≥ c0_0))]) (by kernel_rfl) ?_
  obtain rfl := Option.some.inj hf
  exact ⟨_, rfl, rfl, C.fr⟩

def slices_Clone_api_Run.f (k : Nat) (p0 : (List S_Run)) : Option (List S_Run) := (if (([] : (List S_Run)).length + p0.length) * 16 ≤ 140737488355328 then (some (([] : (List S_Run)) ++ p0)) else none)
theorem slices_Clone_api_Run_ok (k : Nat) (w0 : World) (p0 : (List S_Run)) (v_0 : Value) (h_0 : Rds v_0 p0.length 2 (p0.flatMap F_Run.cells) w0) (res : (List S_Run)) (hf : slices_Clone_api_Run.f k p0 = some res) :
    Fn Try.prog 38 [v_0] w0 (fun v w' => Fr nob w0 w' ∧ Own w0 F_Run 24 v res w') := by
  have C := ctx_start w0 [rdE v_0 p0.length 2 (p0.flatMap F_Run.cells)] (start1 h_0)
  generalize allDom [rdE v_0 p0.length 2 (p0.flatMap F_Run.cells)] = A0 at C
  refine f_enter (fn := Try.f38) (k := 7) rfl rfl rfl fun a hS => ?_
  have hS : Sl 8 [(0, v_0)] a := hS
  rw [slices_Clone_api_Run.f] at hf
  refine c_seq (by kernel_rfl) ?_
  refine c_region (by kernel_rfl) ?_
  refine wl_pures (j := 1) hS 1 [0] (m' := [(0, v_0)]) (by kernel_rfl) (by kernel_rfl) fun a hS => ?_
  refine wl_nil (by kernel_rfl) ?_
  refine q_then ?_
  refine c_seq (by kernel_rfl) ?_
  refine c_seq (by kernel_rfl) ?_
  refine c_region (by kernel_rfl) ?_
  refine wl_pures (j := 1) hS 1 [0, 3] (m' := [(0, v_0), (3, v_0)]) (by kernel_rfl) (by kernel_rfl) fun a hS => ?_
  refine wl_val (d := (some 4)) (op := (Op.binOp BinOp.eql 22 (Operand.tmp 3) (Operand.const (Value.slice none 0 0)) 22)) (g := none) hS (by kernel_rfl) (by kernel_rfl) (r_nileq (v := v_0) (s := (isNil v_0)) (rds_shp (C.okR 0 _ rfl)) (by kernel_rfl) (by kernel_rfl) (by kernel_rfl) (by kernel_rfl)) fun a hS => ?_
  refine wl_nil (by kernel_rfl) ?_
  refine q_then ?_
  refine c_if (b := (isNil v_0)) hS (by kernel_rfl) (by kernel_rfl) (fun hb => ?_) (fun hb => ?_)
  · have hnil := List.eq_nil_of_length_eq_zero (isNil_len (C.okR 0 _ rfl) hb)
    rw [hnil] at hf
    have hf : some ([] : (List S_Run)) = some res := by simpa using hf
    refine c_seq (by kernel_rfl) ?_
    refine c_region (by kernel_rfl) ?_
    refine wl_pures (j := 1) hS 1 [2] (m' := [(2, (.slice none 0 0))]) (by kernel_rfl) (by kernel_rfl) fun a hS => ?_
    refine wl_nil (by kernel_rfl) ?_
    refine q_then ?_
    refine c_ret (by kernel_rfl) ?_
    refine q_thenr ?_
    refine q_ret hS (vs := [(.slice none 0 0)]) (by kernel_rfl) ?_
    obtain rfl := Option.some.inj hf
    exact ⟨_, rfl, C.fr, ret_nil _ _⟩
  · refine c_skip (by kernel_rfl) ?_
    refine q_then ?_
    refine c_seq (by kernel_rfl) ?_
    refine c_region (by kernel_rfl) ?_
    refine wl_eff (d := (some 5)) (op := (Op.buildSlice 22 0 #[])) (g := none) hS (by kernel_rfl) (by kernel_rfl) (eff_slit (e := 24) (sz := 2) (cs := []) C (by kernel_rfl) (by kernel_rfl) (by decide)) ?_
    rintro v1 _ ⟨-, C⟩ a hS
    have C := ctx_relist (li := 0) (F := F_Run) (l := ([] : (List S_Run))) C rfl rfl rfl
    refine wl_pures (j := 2) hS 1 [5, 6] (m' := [(5, v1), (6, v_0)]) (by kernel_rfl) (by kernel_rfl) fun a hS => ?_
    obtain ⟨hl1, hf⟩ := ite_some hf
    refine wl_eff (d := (some 7)) (op := (Op.call { callee := (Callee.builtin Builtin.append), args := #[(Operand.tmp 5), (Operand.tmp 6)], argTypes := #[22, 22] })) (g := none) hS (by kernel_rfl) (by kernel_rfl) (eff_append (li := 0) (n := ([] : (List S_Run)).length) (m := p0.length) (sz := 2) (bytes := 16) (z := (.agg #[.int .i64 0, .int .i64 0])) C rfl (by kernel_rfl) (by kernel_rfl) (C.okR 0 _ rfl) (all_one (flat_all _ _)) (by kernel_rfl) rfl (by decide) hl1 (by decide)) ?_
    rintro v2 _ C a hS
    have C := ctx_relist (li := 0) (F := F_Run) (l := (([] : (List S_Run)) ++ p0)) C rfl (by simp only [List.length_append, List.length_set]) List.flatMap_append.symm
    refine wl_pures (j := 4) hS 1 [2] (m' := [(2, v2)]) (by kernel_rfl) (by kernel_rfl) fun a hS => ?_
    refine wl_nil (by kernel_rfl) ?_
    refine q_then ?_
    refine c_ret (by kernel_rfl) ?_
    refine q_ret hS (vs := [v2]) (by kernel_rfl) ?_
    obtain rfl := Option.some.inj hf
    exact ⟨_, rfl, C.fr, ret_own (li := 0) C rfl rfl⟩

def extent_Join.j1 (l1 : List S_Run) (l2 : List S_Run) : Option (List S_Run) := (if (0 : Int) ≤ (l2.length : Int) ∧ (l2.length : Int) ≤ (l2.length : Int) then (if ((l2.take (l2.length : Int).toNat).length + l1.length) * 16 ≤ 140737488355328 then (some ((l2.take (l2.length : Int).toNat) ++ l1)) else none) else none)
def extent_Join.j2 (p0 : (List S_Run)) (p1 : (List S_Run)) (l3 : List S_Run) (x1 : Bool) : Option (List S_Run) := (if x1 = true then (if 0 ≤ (W64 ((p0.length : Int) - 1)) ∧ (W64 ((p0.length : Int) - 1)) < (l3.length : Int) then (if 0 ≤ (0 : Int) ∧ (0 : Int) < (p1.length : Int) then (if 0 ≤ (W64 ((p0.length : Int) - 1)) ∧ (W64 ((p0.length : Int) - 1)) < (l3.length : Int) then (if 0 ≤ (1 : Int) ∧ (1 : Int) ≤ (p1.length : Int) then extent_Join.j1 (p1.drop 1) (l3.set (W64 ((p0.length : Int) - 1)).toNat (⟨(F_Run.at_ l3 (W64 ((p0.length : Int) - 1))).f_At, (W64 (((F_Run.at_ l3 (W64 ((p0.length : Int) - 1))).f_N) + ((F_Run.at_ p1 (0 : Int)).f_N)))⟩ : S_Run)) else none) else none) else none) else none) else extent_Join.j1 p1 l3)
def extent_Join.f (k : Nat) (p0 : (List S_Run)) (p1 : (List S_Run)) : Option (List S_Run) := ((slices_Clone_api_Run.f k p0).bind fun t1 => (if (decide ((p0.length : Int) > 0)) = true then (if (decide ((p1.length : Int) > 0)) = true then (if 0 ≤ (W64 ((p0.length : Int) - 1)) ∧ (W64 ((p0.length : Int) - 1)) < (p0.length : Int) then (if 0 ≤ (0 : Int) ∧ (0 : Int) < (p1.length : Int) then ((extent_end.f k (F_Run.at_ p0 (W64 ((p0.length : Int) - 1)))).bind fun t2 => extent_Join.j2 p0 p1 t1 (t2 == ((F_Run.at_ p1 (0 : Int)).f_At))) else none) else none) else extent_Join.j2 p0 p1 t1 false) else extent_Join.j2 p0 p1 t1 false))
theorem extent_Join_ok (k : Nat) (w0 : World) (p0 : (List S_Run)) (p1 : (List S_Run)) (v_0 : Value) (v_1 : Value) (h_0 : Rds v_0 p0.length 2 (p0.flatMap F_Run.cells) w0) (h_1 : Rds v_1 p1.length 2 (p1.flatMap F_Run.cells) w0) (res : (List S_Run)) (hf : extent_Join.f k p0 p1 = some res) :
    Fn Try.prog 25 [v_0, v_1] w0 (fun v w' => Fr nob w0 w' ∧ Lies w0 (allDom [rdE v_0 p0.length 2 (p0.flatMap F_Run.cells), rdE v_1 p1.length 2 (p1.flatMap F_Run.cells)]) F_Run v res w') := by
  have C := ctx_start w0 [rdE v_0 p0.length 2 (p0.flatMap F_Run.cells), rdE v_1 p1.length 2 (p1.flatMap F_Run.cells)] (start2 h_0 h_1)
  generalize allDom [rdE v_0 p0.length 2 (p0.flatMap F_Run.cells), rdE v_1 p1.length 2 (p1.flatMap F_Run.cells)] = A0 at C
  refine f_enter (fn := Try.f25) (k := 52) rfl rfl rfl fun a hS => ?_
  have hS : Sl 54 [(0, v_0), (1, v_1)] a := hS
  rw [extent_Join.f] at hf
  refine c_seq (by kernel_rfl) ?_
  refine c_region (by kernel_rfl) ?_
  refine wl_pures (j := 1) hS 1 [0, 1] (m' := [(0, v_0), (1, v_1)]) (by kernel_rfl) (by kernel_rfl) fun a hS => ?_
  refine wl_nil (by kernel_rfl) ?_
  refine q_then ?_
  refine c_seq (by kernel_rfl) ?_
  refine c_region (by kernel_rfl) ?_
  refine wl_pures (j := 1) hS 1 [0, 1, 6] (m' := [(0, v_0), (1, v_1), (6, v_0)]) (by kernel_rfl) (by kernel_rfl) fun a hS => ?_
  obtain ⟨t1, ht1, hf⟩ := bind_some hf
  refine wl_eff (d := (some 7)) (op := (Op.call { callee := (Callee.value (Operand.func 38)), args := #[(Operand.tmp 6)], argTypes := #[22] })) (g := none) hS (by kernel_rfl) (by kernel_rfl) (eff_fn (by kernel_rfl) rfl (by kernel_rfl) (slices_Clone_api_Run_ok k _ p0 v_0 (C.okR 0 _ rfl) t1 ht1)) ?_
  rintro v1 _ ⟨hw, hr1⟩ a hS
  have C := got_own C hw hr1
  refine wl_pures (j := 3) hS 1 [0, 1, 5] (m' := [(0, v_0), (1, v_1), (5, v1)]) (by kernel_rfl) (by kernel_rfl) fun a hS => ?_
  refine wl_nil (by kernel_rfl) ?_
  refine q_then ?_
  refine c_join (by kernel_rfl) (fun a w => ∃ l1 : List S_Run, ∃ v2 : Value, ∃ l2 : List S_Run, ∃ v3 : Value, extent_Join.j1 l1 l2 = some res ∧ Sl 54 [(1, v2), (5, v3)] a ∧ Ctx w0 nob A0 [rowE v3 24 2 l2.length (l2.flatMap F_Run.cells)] [rdE v2 l1.length 2 (l1.flatMap F_Run.cells)] w) ?_ ?_
  · rintro a w ⟨l1, v2, l2, v3, hf, hS, C⟩
    rw [extent_Join.j1] at hf
    refine c_seq (by kernel_rfl) ?_
    refine c_region (by kernel_rfl) ?_
    refine wl_pures (j := 2) hS 2 [1, 5, 46, 47] (m' := [(1, v2), (5, v3), (46, v3), (47, v3)]) (by kernel_rfl) (by kernel_rfl) fun a hS => ?_
    refine wl_val (d := (some 48)) (op := (Op.call { callee := (Callee.builtin Builtin.len), args := #[(Operand.tmp 47)], argTypes := #[22] })) (g := none) hS (by kernel_rfl) (by kernel_rfl) (r_len (n := l2.length) (v := v3) (rds_shp (rds_of_row (C.okL 0 _ rfl))) (by kernel_rfl) (by kernel_rfl)) fun a hS => ?_
    refine wl_pures (j := 4) hS 1 [1, 46, 48, 49] (m' := [(1, v2), (46, v3), (48, .int .i64 (l2.length : Int)), (49, v3)]) (by kernel_rfl) (by kernel_rfl) fun a hS => ?_
    refine wl_val (d := (some 50)) (op := (Op.call { callee := (Callee.builtin Builtin.len), args := #[(Operand.tmp 49)], argTypes := #[22] })) (g := none) hS (by kernel_rfl) (by kernel_rfl) (r_len (n := l2.length) (v := v3) (rds_shp (rds_of_row (C.okL 0 _ rfl))) (by kernel_rfl) (by kernel_rfl)) fun a hS => ?_
    obtain ⟨hc1, hf⟩ := ite_some hf
    refine wl_val (d := (some 51)) (op := (Op.slice 22 (Operand.tmp 46) none (some (Operand.tmp 48)) (some (Operand.tmp 50)))) (g := none) hS (by kernel_rfl) (by kernel_rfl) (r_cut3 (h := (l2.length : Int).toNat) (l := 0) (v := v3) (sz := 2) (rds_shp (rds_of_row (C.okL 0 _ rfl))) (by kernel_rfl) (by kernel_rfl) (hi_ok .i64 (l2.length : Int) (by omega) (by omega)) (rfl) (by kernel_rfl)) fun a hS => ?_
    have C := ctx_unown (li := 0) C rfl
    have C := got_cut (ri := 1) (F := F_Run) (l := l2) (l' := (l2.take (l2.length : Int).toNat)) (h := (l2.length : Int).toNat) (lo := 0) C rfl (cut3_rds (C.okR 1 _ rfl) (by omega) (by omega)) (cut3_addr _ _ _ _) (by omega) (by simp)
    refine wl_pures (j := 7) hS 1 [51, 52] (m' := [(51, (cutV3 v3 0 (l2.length : Int).toNat 2)), (52, v2)]) (by kernel_rfl) (by kernel_rfl) fun a hS => ?_
    obtain ⟨hl1, hf⟩ := ite_some hf
    refine wl_eff (d := (some 53)) (op := (Op.call { callee := (Callee.builtin Builtin.append), args := #[(Operand.tmp 51), (Operand.tmp 52)], argTypes := #[22, 22] })) (g := none) hS (by kernel_rfl) (by kernel_rfl) (eff_appfull (e := 24) (n := (l2.take (l2.length : Int).toNat).length) (m := l1.length) (sz := 2) (bytes := 16) (z := (.agg #[.int .i64 0, .int .i64 0])) (cut3_cap _ _ _ _ (rds_shp (C.okR 2 _ rfl))) (C.okR 2 _ rfl) (by kernel_rfl) (by kernel_rfl) (C.okR 0 _ rfl) (all_one (flat_all _ _)) (by kernel_rfl) rfl (by decide) hl1 (by decide)) ?_
    rintro v4 _ ⟨hw, hr, hd⟩ a hS
    have C := got_full (F := F_Run) (l := (l2.take (l2.length : Int).toNat)) (l' := l1) (ri := 2) C rfl hw hr hd rfl rfl
    refine wl_pures (j := 9) hS 1 [4] (m' := [(4, v4)]) (by kernel_rfl) (by kernel_rfl) fun a hS => ?_
    refine wl_nil (by kernel_rfl) ?_
    refine q_then ?_
    refine c_ret (by kernel_rfl) ?_
    refine q_ret hS (vs := [v4]) (by kernel_rfl) ?_
    obtain rfl := Option.some.inj hf
    exact ⟨_, rfl, C.fr, ret_lies (ri := 3) C rfl rfl⟩
  · refine c_join (by kernel_rfl) (fun a w => ∃ l3 : List S_Run, ∃ v5 : Value, ∃ x1 : Bool, extent_Join.j2 p0 p1 l3 x1 = some res ∧ Sl 54 [(0, v_0), (1, v_1), (5, v5), (29, .bool x1)] a ∧ Ctx w0 nob A0 [rowE v5 24 2 l3.length (l3.flatMap F_Run.cells)] [rdE v_0 p0.length 2 (p0.flatMap F_Run.cells), rdE v_1 p1.length 2 (p1.flatMap F_Run.cells)] w) ?_ ?_
    · rintro a w ⟨l3, v5, x1, hf, hS, C⟩
      rw [extent_Join.j2] at hf
      refine c_if (b := x1) hS (by kernel_rfl) (by kernel_rfl) (fun hb => ?_) (fun hb => ?_)
      · have hf := opt_t hb hf
        refine c_seq (by kernel_rfl) ?_
        refine c_drawsC [0] [0, 1] 14 C (by kernel_rfl) (by kernel_rfl) (by kernel_rfl) (N := 15) (by kernel_rfl) (by kernel_rfl) fun _ C => ?_
        refine dr_pures (fuel := 12) (l' := [7, 1, 0]) hS (ctx_pick [0] [0, 1] C (by kernel_rfl) rfl rfl) [0, 1, 7] [1, 5, 30, 31, 37] (m' := [(1, v_1), (5, v5), (30, v5), (31, v_0), (37, v_1)]) (by kernel_rfl) (by kernel_rfl) (by kernel_rfl) fun a hS => ?_
        refine dr_take (fuel := 11) (j := 2) (v := .int .i64 (p0.length : Int)) (d := (some 32)) (op := (Op.call { callee := (Callee.builtin Builtin.len), args := #[(Operand.tmp 31)], argTypes := #[22] })) (g := none) hS (by kernel_rfl) (by kernel_rfl) (fun _ CS => r_len (n := p0.length) (v := v_0) (rds_shp (C.okR 0 _ rfl)) (by kernel_rfl) (by kernel_rfl)) (ctx_pick [0] [0, 1] C (by kernel_rfl) rfl rfl) fun a hS => ?_
        refine dr_pures (fuel := 10) (l' := [3, 2, 7, 1, 0]) hS (ctx_pick [0] [0, 1] C (by kernel_rfl) rfl rfl) [3] [1, 5, 30, 33, 37] (m' := [(1, v_1), (5, v5), (30, v5), (33, .int .i64 (W64 ((p0.length : Int) - 1))), (37, v_1)]) (by kernel_rfl) (by kernel_rfl) (by kernel_rfl) fun a hS => ?_
        obtain ⟨hi1, hf⟩ := ite_some hf
        refine dr_take (fuel := 9) (j := 4) (v := .pointer (some (elemA v5 ((W64 ((p0.length : Int) - 1)).toNat * 2)))) (d := (some 34)) (op := (Op.indexAddr 22 (Operand.tmp 30) (Operand.tmp 33))) (g := none) hS (by kernel_rfl) (by kernel_rfl) (fun _ CS => r_idx (i := (W64 ((p0.length : Int) - 1))) (k := .i64) (v := v5) (sz := 2) (rds_shp (rds_of_row (C.okL 0 _ rfl))) (by kernel_rfl) (by kernel_rfl) hi1.1 hi1.2 (by kernel_rfl)) (ctx_pick [0] [0, 1] C (by kernel_rfl) rfl rfl) fun a hS => ?_
        refine dr_pures (fuel := 8) (l' := [5, 4, 3, 2, 7, 1, 0]) hS (ctx_pick [0] [0, 1] C (by kernel_rfl) rfl rfl) [5] [1, 5, 30, 33, 35, 37] (m' := [(1, v_1), (5, v5), (30, v5), (33, .int .i64 (W64 ((p0.length : Int) - 1))), (35, .pointer (some ((elemA v5 ((W64 ((p0.length : Int) - 1)).toNat * 2)).add 1))), (37, v_1)]) (by kernel_rfl) (by kernel_rfl) (by kernel_rfl) fun a hS => ?_
        refine dr_take (fuel := 7) (j := 6) (v := .int .i64 ((F_Run.at_ l3 (W64 ((p0.length : Int) - 1))).f_N)) (d := (some 36)) (op := (Op.load 3 (Operand.tmp 35))) (g := none) hS (by kernel_rfl) (by kernel_rfl) (fun _ CS => r_ldF F_Run (i := (W64 ((p0.length : Int) - 1))) (off := 1) (u := .int .i64 ((F_Run.at_ l3 (W64 ((p0.length : Int) - 1))).f_N)) (rds_of_row (CS.okL 0 _ rfl)) (by kernel_rfl) hi1.1 hi1.2 (by decide) (by kernel_rfl) (by kernel_rfl)) (ctx_pick [0] [0, 1] C (by kernel_rfl) rfl rfl) fun a hS => ?_
        obtain ⟨hi2, hf⟩ := ite_some hf
        refine dr_take (fuel := 6) (j := 8) (v := .pointer (some (elemA v_1 ((0 : Int).toNat * 2)))) (d := (some 38)) (op := (Op.indexAddr 22 (Operand.tmp 37) (Operand.const (Value.int IntKind.i64 0)))) (g := none) hS (by kernel_rfl) (by kernel_rfl) (fun _ CS => r_idx (i := 0) (k := .i64) (v := v_1) (sz := 2) (rds_shp (C.okR 1 _ rfl)) (by kernel_rfl) (by kernel_rfl) hi2.1 hi2.2 (by kernel_rfl)) (ctx_pick [0] [0, 1] C (by kernel_rfl) rfl rfl) fun a hS => ?_
        refine dr_pures (fuel := 5) (l' := [9, 8, 6, 5, 4, 3, 2, 7, 1, 0]) hS (ctx_pick [0] [0, 1] C (by kernel_rfl) rfl rfl) [9] [1, 5, 30, 33, 36, 39] (m' := [(1, v_1), (5, v5), (30, v5), (33, .int .i64 (W64 ((p0.length : Int) - 1))), (36, .int .i64 ((F_Run.at_ l3 (W64 ((p0.length : Int) - 1))).f_N)), (39, .pointer (some ((elemA v_1 ((0 : Int).toNat * 2)).add 1)))]) (by kernel_rfl) (by kernel_rfl) (by kernel_rfl) fun a hS => ?_
        refine dr_take (fuel := 4) (j := 10) (v := .int .i64 ((F_Run.at_ p1 (0 : Int)).f_N)) (d := (some 40)) (op := (Op.load 3 (Operand.tmp 39))) (g := none) hS (by kernel_rfl) (by kernel_rfl) (fun _ CS => r_ldF F_Run (i := (0 : Int)) (off := 1) (u := .int .i64 ((F_Run.at_ p1 (0 : Int)).f_N)) (CS.okR 1 _ rfl) (by kernel_rfl) hi2.1 hi2.2 (by decide) (by kernel_rfl) (by kernel_rfl)) (ctx_pick [0] [0, 1] C (by kernel_rfl) rfl rfl) fun a hS => ?_
        refine dr_pures (fuel := 3) (l' := [11, 10, 9, 8, 6, 5, 4, 3, 2, 7, 1, 0]) hS (ctx_pick [0] [0, 1] C (by kernel_rfl) rfl rfl) [11] [1, 5, 30, 33, 41] (m' := [(1, v_1), (5, v5), (30, v5), (33, .int .i64 (W64 ((p0.length : Int) - 1))), (41, .int .i64 (W64 (((F_Run.at_ l3 (W64 ((p0.length : Int) - 1))).f_N) + ((F_Run.at_ p1 (0 : Int)).f_N))))]) (by kernel_rfl) (by kernel_rfl) (by kernel_rfl) fun a hS => ?_
        obtain ⟨hi3, hf⟩ := ite_some hf
        refine dr_take (fuel := 2) (j := 12) (v := .pointer (some (elemA v5 ((W64 ((p0.length : Int) - 1)).toNat * 2)))) (d := (some 42)) (op := (Op.indexAddr 22 (Operand.tmp 30) (Operand.tmp 33))) (g := none) hS (by kernel_rfl) (by kernel_rfl) (fun _ CS => r_idx (i := (W64 ((p0.length : Int) - 1))) (k := .i64) (v := v5) (sz := 2) (rds_shp (rds_of_row (C.okL 0 _ rfl))) (by kernel_rfl) (by kernel_rfl) hi3.1 hi3.2 (by kernel_rfl)) (ctx_pick [0] [0, 1] C (by kernel_rfl) rfl rfl) fun a hS => ?_
        refine dr_pures (fuel := 1) (l' := [13, 12, 11, 10, 9, 8, 6, 5, 4, 3, 2, 7, 1, 0]) hS (ctx_pick [0] [0, 1] C (by kernel_rfl) rfl rfl) [13] [1, 5, 41, 43] (m' := [(1, v_1), (5, v5), (41, .int .i64 (W64 (((F_Run.at_ l3 (W64 ((p0.length : Int) - 1))).f_N) + ((F_Run.at_ p1 (0 : Int)).f_N)))), (43, .pointer (some ((elemA v5 ((W64 ((p0.length : Int) - 1)).toNat * 2)).add 1)))]) (by kernel_rfl) (by kernel_rfl) (by kernel_rfl) fun a hS => ?_
        refine dr_eff (fuel := 0) (j := 14) (d := none) (op := (Op.store 3 (Operand.tmp 43) (Operand.tmp 41))) (g := none) hS (by kernel_rfl) (by kernel_rfl) (by kernel_rfl) (eff_sto (F := F_Run) (l := l3) (li := 0) (off := 1) (i := (W64 ((p0.length : Int) - 1))) (us := [.int .i64 (W64 (((F_Run.at_ l3 (W64 ((p0.length : Int) - 1))).f_N) + ((F_Run.at_ p1 (0 : Int)).f_N)))]) (x' := (⟨(F_Run.at_ l3 (W64 ((p0.length : Int) - 1))).f_At, (W64 (((F_Run.at_ l3 (W64 ((p0.length : Int) - 1))).f_N) + ((F_Run.at_ p1 (0 : Int)).f_N)))⟩ : S_Run)) C rfl rfl (id (by kernel_rfl)) hi3.1 hi3.2 (by kernel_rfl) (by kernel_rfl) (by kernel_rfl) (by kernel_rfl) (by kernel_rfl)) ?_
        rintro _ _ C
        refine ⟨.inl rfl, fun a hS => ?_⟩
        refine dr_done (by kernel_rfl) ?_
        refine q_then ?_
        refine c_region (by kernel_rfl) ?_
        refine wl_pures (j := 1) hS 1 [1, 5, 44] (m' := [(1, v_1), (5, v5), (44, v_1)]) (by kernel_rfl) (by kernel_rfl) fun a hS => ?_
        obtain ⟨hc2, hf⟩ := ite_some hf
        refine wl_val (d := (some 45)) (op := (Op.slice 22 (Operand.tmp 44) (some (Operand.const (Value.int IntKind.i64 1))) none none)) (g := none) hS (by kernel_rfl) (by kernel_rfl) (r_cut (h := p1.length) (l := 1) (v := v_1) (sz := 2) (rds_shp (C.okR 1 _ rfl)) (by kernel_rfl) (by kernel_rfl) (rfl) (lo_ok .i64 (1 : Int) (by omega) (by omega))) fun a hS => ?_
        have C := got_cut (ri := 1) (F := F_Run) (l := p1) (l' := (p1.drop 1)) (h := p1.length) (lo := 1) C rfl (cut_rds (C.okR 1 _ rfl) (by omega) (by omega)) (cut_addr _ _ _ _) (by omega) (by simp)
        refine wl_pures (j := 3) hS 1 [1, 5] (m' := [(1, (cutV v_1 1 p1.length 2)), (5, v5)]) (by kernel_rfl) (by kernel_rfl) fun a hS => ?_
        refine wl_nil (by kernel_rfl) ?_
        exact q_then ⟨(p1.drop 1), (cutV v_1 1 p1.length 2), (l3.set (W64 ((p0.length : Int) - 1)).toNat (⟨(F_Run.at_ l3 (W64 ((p0.length : Int) - 1))).f_At, (W64 (((F_Run.at_ l3 (W64 ((p0.length : Int) - 1))).f_N) + ((F_Run.at_ p1 (0 : Int)).f_N)))⟩ : S_Run)), v5, hf, hS.keep [1, 5] (by kernel_rfl), ctx_pick [0] [2] C (by kernel_rfl) rfl rfl⟩
      · have hf := opt_f hb hf
        refine c_skip (by kernel_rfl) ?_
        exact q_then ⟨p1, v_1, l3, v5, hf, hS.keep [1, 5] (by kernel_rfl), ctx_pick [0] [1] C (by kernel_rfl) rfl rfl⟩
    · refine c_drawsC [0] [0, 1] 22 C (by kernel_rfl) (by kernel_rfl) (by kernel_rfl) (N := 22) (by kernel_rfl) (by kernel_rfl) fun _ C => ?_
      refine dr_pures (fuel := 21) (l' := [0]) hS (ctx_pick [0] [0, 1] C (by kernel_rfl) rfl rfl) [0] [0, 1, 5, 8] (m' := [(0, v_0), (1, v_1), (5, v1), (8, v_0)]) (by kernel_rfl) (by kernel_rfl) (by kernel_rfl) fun a hS => ?_
      refine dr_take (fuel := 20) (j := 1) (v := .int .i64 (p0.length : Int)) (d := (some 9)) (op := (Op.call { callee := (Callee.builtin Builtin.len), args := #[(Operand.tmp 8)], argTypes := #[22] })) (g := none) hS (by kernel_rfl) (by kernel_rfl) (fun _ CS => r_len (n := p0.length) (v := v_0) (rds_shp (C.okR 0 _ rfl)) (by kernel_rfl) (by kernel_rfl)) (ctx_pick [0] [0, 1] C (by kernel_rfl) rfl rfl) fun a hS => ?_
      refine dr_pures (fuel := 18) (l' := [3, 2, 1, 0]) hS (ctx_pick [0] [0, 1] C (by kernel_rfl) rfl rfl) [2, 3] [0, 1, 5, 11] (m' := [(0, v_0), (1, v_1), (5, v1), (11, .bool (decide ((p0.length : Int) > 0)))]) (by kernel_rfl) (by kernel_rfl) (by kernel_rfl) fun a hS => ?_
      rcases Bool.eq_false_or_eq_true (decide ((p0.length : Int) > 0)) with hb | hb
      · rw [hb] at hS
        have hf := opt_t hb hf
        refine dr_pures (fuel := 17) (l' := [4, 3, 2, 1, 0]) hS (ctx_pick [0] [0, 1] C (by kernel_rfl) rfl rfl) [4] [0, 1, 5, 11, 12] (m' := [(0, v_0), (1, v_1), (5, v1), (11, .bool true), (12, v_1)]) (by kernel_rfl) (by kernel_rfl) (by kernel_rfl) fun a hS => ?_
        refine dr_take (fuel := 16) (j := 5) (v := .int .i64 (p1.length : Int)) (d := (some 13)) (op := (Op.call { callee := (Callee.builtin Builtin.len), args := #[(Operand.tmp 12)], argTypes := #[22] })) (g := (some (3, true))) hS (by kernel_rfl) (by kernel_rfl) (fun _ CS => r_len (n := p1.length) (v := v_1) (rds_shp (C.okR 1 _ rfl)) (by kernel_rfl) (by kernel_rfl)) (ctx_pick [0] [0, 1] C (by kernel_rfl) rfl rfl) fun a hS => ?_
        refine dr_pures (fuel := 13) (l' := [8, 7, 6, 5, 4, 3, 2, 1, 0]) hS (ctx_pick [0] [0, 1] C (by kernel_rfl) rfl rfl) [6, 7, 8] [0, 1, 5, 16] (m' := [(0, v_0), (1, v_1), (5, v1), (16, .bool (decide ((p1.length : Int) > 0)))]) (by kernel_rfl) (by kernel_rfl) (by kernel_rfl) fun a hS => ?_
        rcases Bool.eq_false_or_eq_true (decide ((p1.length : Int) > 0)) with hb | hb
        · rw [hb] at hS
          have hf := opt_t hb hf
          refine dr_pures (fuel := 10) (l' := [16, 10, 9, 8, 7, 6, 5, 4, 3, 2, 1, 0]) hS (ctx_pick [0] [0, 1] C (by kernel_rfl) rfl rfl) [9, 10, 16] [0, 1, 5, 16, 17, 18, 24] (m' := [(0, v_0), (1, v_1), (5, v1), (16, .bool true), (17, v_0), (18, v_0), (24, v_1)]) (by kernel_rfl) (by kernel_rfl) (by kernel_rfl) fun a hS => ?_
          refine dr_take (fuel := 9) (j := 11) (v := .int .i64 (p0.length : Int)) (d := (some 19)) (op := (Op.call { callee := (Callee.builtin Builtin.len), args := #[(Operand.tmp 18)], argTypes := #[22] })) (g := (some (8, true))) hS (by kernel_rfl) (by kernel_rfl) (fun _ CS => r_len (n := p0.length) (v := v_0) (rds_shp (C.okR 0 _ rfl)) (by kernel_rfl) (by kernel_rfl)) (ctx_pick [0] [0, 1] C (by kernel_rfl) rfl rfl) fun a hS => ?_
          refine dr_pures (fuel := 8) (l' := [12, 11, 16, 10, 9, 8, 7, 6, 5, 4, 3, 2, 1, 0]) hS (ctx_pick [0] [0, 1] C (by kernel_rfl) rfl rfl) [12] [0, 1, 5, 16, 17, 20, 24] (m' := [(0, v_0), (1, v_1), (5, v1), (16, .bool true), (17, v_0), (20, .int .i64 (W64 ((p0.length : Int) - 1))), (24, v_1)]) (by kernel_rfl) (by kernel_rfl) (by kernel_rfl) fun a hS => ?_
          obtain ⟨hi4, hf⟩ := ite_some hf
          refine dr_take (fuel := 7) (j := 13) (v := .pointer (some (elemA v_0 ((W64 ((p0.length : Int) - 1)).toNat * 2)))) (d := (some 21)) (op := (Op.indexAddr 22 (Operand.tmp 17) (Operand.tmp 20))) (g := (some (8, true))) hS (by kernel_rfl) (by kernel_rfl) (fun _ CS => r_idx (i := (W64 ((p0.length : Int) - 1))) (k := .i64) (v := v_0) (sz := 2) (rds_shp (C.okR 0 _ rfl)) (by kernel_rfl) (by kernel_rfl) hi4.1 hi4.2 (by kernel_rfl)) (ctx_pick [0] [0, 1] C (by kernel_rfl) rfl rfl) fun a hS => ?_
          refine dr_take (fuel := 6) (j := 14) (v := .agg #[.int .i64 ((F_Run.at_ p0 (W64 ((p0.length : Int) - 1))).f_At), .int .i64 ((F_Run.at_ p0 (W64 ((p0.length : Int) - 1))).f_N)]) (d := (some 22)) (op := (Op.load 24 (Operand.tmp 21))) (g := (some (8, true))) hS (by kernel_rfl) (by kernel_rfl) (fun _ CS => r_ldFs F_Run (i := (W64 ((p0.length : Int) - 1))) (seg := [.int .i64 ((F_Run.at_ p0 (W64 ((p0.length : Int) - 1))).f_At), .int .i64 ((F_Run.at_ p0 (W64 ((p0.length : Int) - 1))).f_N)]) (CS.okR 0 _ rfl) (by kernel_rfl) hi4.1 hi4.2 (by kernel_rfl) (by kernel_rfl)) (ctx_pick [0] [0, 1] C (by kernel_rfl) rfl rfl) fun a hS => ?_
          obtain ⟨hi5, hf⟩ := ite_some hf
          refine dr_take (fuel := 5) (j := 17) (v := .pointer (some (elemA v_1 ((0 : Int).toNat * 2)))) (d := (some 25)) (op := (Op.indexAddr 22 (Operand.tmp 24) (Operand.const (Value.int IntKind.i64 0)))) (g := (some (8, true))) hS (by kernel_rfl) (by kernel_rfl) (fun _ CS => r_idx (i := 0) (k := .i64) (v := v_1) (sz := 2) (rds_shp (C.okR 1 _ rfl)) (by kernel_rfl) (by kernel_rfl) hi5.1 hi5.2 (by kernel_rfl)) (ctx_pick [0] [0, 1] C (by kernel_rfl) rfl rfl) fun a hS => ?_
          refine dr_pures (fuel := 4) (l' := [18, 17, 14, 13, 12, 11, 16, 10, 9, 8, 7, 6, 5, 4, 3, 2, 1, 0]) hS (ctx_pick [0] [0, 1] C (by kernel_rfl) rfl rfl) [18] [0, 1, 5, 16, 22, 26] (m' := [(0, v_0), (1, v_1), (5, v1), (16, .bool true), (22, .agg #[.int .i64 ((F_Run.at_ p0 (W64 ((p0.length : Int) - 1))).f_At), .int .i64 ((F_Run.at_ p0 (W64 ((p0.length : Int) - 1))).f_N)]), (26, .pointer (some ((elemA v_1 ((0 : Int).toNat * 2)).add 0)))]) (by kernel_rfl) (by kernel_rfl) (by kernel_rfl) fun a hS => ?_
          refine dr_take (fuel := 3) (j := 19) (v := .int .i64 ((F_Run.at_ p1 (0 : Int)).f_At)) (d := (some 27)) (op := (Op.load 3 (Operand.tmp 26))) (g := (some (8, true))) hS (by kernel_rfl) (by kernel_rfl) (fun _ CS => r_ldF F_Run (i := (0 : Int)) (off := 0) (u := .int .i64 ((F_Run.at_ p1 (0 : Int)).f_At)) (CS.okR 1 _ rfl) (by kernel_rfl) hi5.1 hi5.2 (by decide) (by kernel_rfl) (by kernel_rfl)) (ctx_pick [0] [0, 1] C (by kernel_rfl) rfl rfl) fun a hS => ?_
          obtain ⟨t2, ht2, hf⟩ := bind_some hf
          refine dr_eff (fuel := 2) (j := 15) (d := (some 23)) (op := (Op.call { callee := (Callee.value (Operand.func 34)), args := #[(Operand.tmp 22)], argTypes := #[24] })) (g := (some (8, true))) hS (by kernel_rfl) (by kernel_rfl) (by kernel_rfl) (eff_fn (by kernel_rfl) rfl (by kernel_rfl) (extent_end_ok k _ (F_Run.at_ p0 (W64 ((p0.length : Int) - 1))) t2 ht2)) ?_
          rintro _ _ ⟨rfl, hw⟩
          have C := ctx_still C hw
          refine ⟨.inr (ctx_pick [0] [0, 1] C (by kernel_rfl) rfl rfl), fun a hS => ?_⟩
          refine dr_pures (fuel := 0) (l' := [21, 20, 15, 19, 18, 17, 14, 13, 12, 11, 16, 10, 9, 8, 7, 6, 5, 4, 3, 2, 1, 0]) hS (ctx_pick [0] [0, 1] C (by kernel_rfl) rfl rfl) [20, 21] [0, 1, 5, 29] (m' := [(0, v_0), (1, v_1), (5, v1), (29, .bool (t2 == ((F_Run.at_ p1 (0 : Int)).f_At)))]) (by kernel_rfl) (by kernel_rfl) (by kernel_rfl) fun a hS => ?_
          refine dr_done (by kernel_rfl) ?_
          exact q_then ⟨t1, v1, (t2 == ((F_Run.at_ p1 (0 : Int)).f_At)), hf, hS.keep [0, 1, 5, 29] (by kernel_rfl), ctx_pick [0] [0, 1] C (by kernel_rfl) rfl rfl⟩
        · rw [hb] at hS
          have hf := opt_f hb hf
          refine dr_pures (fuel := 0) (l' := [21, 20, 19, 18, 17, 16, 15, 14, 13, 12, 11, 10, 9, 8, 7, 6, 5, 4, 3, 2, 1, 0]) hS (ctx_pick [0] [0, 1] C (by kernel_rfl) rfl rfl) [9, 10, 11, 12, 13, 14, 15, 16, 17, 18, 19, 20, 21] [0, 1, 5, 29] (m' := [(0, v_0), (1, v_1), (5, v1), (29, .bool false)]) (by kernel_rfl) (by kernel_rfl) (by kernel_rfl) fun a hS => ?_
          refine dr_done (by kernel_rfl) ?_
          exact q_then ⟨t1, v1, false, hf, hS.keep [0, 1, 5, 29] (by kernel_rfl), ctx_pick [0] [0, 1] C (by kernel_rfl) rfl rfl⟩
      · rw [hb] at hS
        have hf := opt_f hb hf
        refine dr_pures (fuel := 0) (l' := [21, 20, 19, 18, 17, 16, 15, 14, 13, 12, 11, 10, 9, 8, 7, 6, 5, 4, 3, 2, 1, 0]) hS (ctx_pick [0] [0, 1] C (by kernel_rfl) rfl rfl) [4, 5, 6, 7, 8, 9, 10, 11, 12, 13, 14, 15, 16, 17, 18, 19, 20, 21] [0, 1, 5, 29] (m' := [(0, v_0), (1, v_1), (5, v1), (29, .bool false)]) (by kernel_rfl) (by kernel_rfl) (by kernel_rfl) fun a hS => ?_
        refine dr_done (by kernel_rfl) ?_
        exact q_then ⟨t1, v1, false, hf, hS.keep [0, 1, 5, 29] (by kernel_rfl), ctx_pick [0] [0, 1] C (by kernel_rfl) rfl rfl⟩

def extent_Give.j1 (k : Nat) (p0 : (List S_Run)) (p1 : S_Run) (x2 : Int) (x3 : Bool) : Option ((List S_Run) × Bool) := (if x3 = true then (some (p0, false)) else (if (0 : Int) ≤ x2 ∧ x2 ≤ (p0.length : Int) then (if 0 ≤ x2 ∧ x2 ≤ (p0.length : Int) then ((extent_Join.f k (p0.take x2.toNat) ([(⟨p1.f_At, p1.f_N⟩ : S_Run)])).bind fun t2 => ((extent_Join.f k t2 (p0.drop x2.toNat)).bind fun t3 => (some (t3, true)))) else none) else none))
def extent_Give.j2 (k : Nat) (p0 : (List S_Run)) (p1 : S_Run) (x1 : Bool) : Option ((List S_Run) × Bool) := (if x1 = true then (some (p0, false)) else ((extent_place_api_Run.f k p0 (fun y0 => extent_Give_1.f k y0 p1.f_At p1.f_N)).bind fun t1 => (if (decide (t1 > 0)) = true then (if 0 ≤ (W64 (t1 - 1)) ∧ (W64 (t1 - 1)) < (p0.length : Int) then ((extent_end.f k (F_Run.at_ p0 (W64 (t1 - 1)))).bind fun t4 => (if (decide (t4 > p1.f_At)) = true then extent_Give.j1 k p0 p1 t1 true else (if (decide (t1 < (p0.length : Int))) = true then (if 0 ≤ t1 ∧ t1 < (p0.length : Int) then ((extent_end.f k (⟨p1.f_At, p1.f_N⟩ : S_Run)).bind fun t5 => extent_Give.j1 k p0 p1 t1 (decide (((F_Run.at_ p0 t1).f_At) < t5))) else none) else extent_Give.j1 k p0 p1 t1 false))) else none) else (if (decide (t1 < (p0.length : Int))) = true then (if 0 ≤ t1 ∧ t1 < (p0.length : Int) then ((extent_end.f k (⟨p1.f_At, p1.f_N⟩ : S_Run)).bind fun t6 => extent_Give.j1 k p0 p1 t1 (decide (((F_Run.at_ p0 t1).f_At) < t6))) else none) else extent_Give.j1 k p0 p1 t1 false))))
def extent_Give.f (k : Nat) (p0 : (List S_Run)) (p1 : S_Run) : Option ((List S_Run) × Bool) := ((extent_Check.f k p0).bind fun t7 => (if (t7 != 0) = true then extent_Give.j2 k p0 p1 true else ((extent_good.f k (⟨p1.f_At, p1.f_N⟩ : S_Run)).bind fun t8 => extent_Give.j2 k p0 p1 (!t8))))
theorem extent_Give_ok (k : Nat) (w0 : World) (p0 : (List S_Run)) (p1 : S_Run) (v_0 : Value) (h_0 : Rds v_0 p0.length 2 (p0.flatMap F_Run.cells) w0) (res : ((List S_Run) × Bool)) (hf : extent_Give.f k p0 p1 = some res) :
    Fn Try.prog 14 [v_0, .agg #[.int .i64 p1.f_At, .int .i64 p1.f_N]] w0 (fun v w' => ∃ u0 : Value, v = .tuple #[u0, .bool res.2] ∧ Fr nob w0 w' ∧ Lies w0 (allDom [rdE v_0 p0.length 2 (p0.flatMap F_Run.cells)]) F_Run u0 res.1 w') := by
  have C := ctx_start w0 [rdE v_0 p0.length 2 (p0.flatMap F_Run.cells)] (start1 h_0)
  generalize allDom [rdE v_0 p0.length 2 (p0.flatMap F_Run.cells)] = A0 at C
  refine f_enter (fn := Try.f14) (k := 58) rfl rfl rfl fun a hS => ?_
  have hS : Sl 60 [(0, v_0), (1, .agg #[.int .i64 p1.f_At, .int .i64 p1.f_N])] a := hS
  rw [extent_Give.f] at hf
  refine c_seq (by kernel_rfl) ?_
  refine c_region (by kernel_rfl) ?_
  refine wl_eff (d := (some 3)) (op := (Op.box 24 (Operand.tmp 1))) (g := none) hS (by kernel_rfl) (by kernel_rfl) (eff_box C (cs := [.int .i64 p1.f_At, .int .i64 p1.f_N]) (by kernel_rfl)) ?_
  rintro _ _ ⟨b1, rfl, C⟩ a hS
  refine wl_pures (j := 3) hS 2 [0, 3] (m' := [(0, v_0), (3, .pointer (some ⟨b1, 0, none⟩))]) (by kernel_rfl) (by kernel_rfl) fun a hS => ?_
  refine wl_nil (by kernel_rfl) ?_
  refine q_then ?_
  refine c_seq (by kernel_rfl) ?_
  refine c_join (by kernel_rfl) (fun a w => ∃ b2 : Nat, ∃ x1 : Bool, extent_Give.j2 k p0 p1 x1 = some res ∧ Sl 60 [(0, v_0), (3, .pointer (some ⟨b2, 0, none⟩)), (14, .bool x1)] a ∧ Ctx w0 nob A0 [boxE b2 24 [.int .i64 p1.f_At, .int .i64 p1.f_N]] [rdE v_0 p0.length 2 (p0.flatMap F_Run.cells)] w) ?_ ?_
  · rintro a w ⟨b2, x1, hf, hS, C⟩
    rw [extent_Give.j2] at hf
    refine c_if (b := x1) hS (by kernel_rfl) (by kernel_rfl) (fun hb => ?_) (fun hb => ?_)
    · have hf := opt_t hb hf
      refine c_seq (by kernel_rfl) ?_
      refine c_region (by kernel_rfl) ?_
      refine wl_pures (j := 3) hS 3 [4, 5] (m' := [(4, v_0), (5, .bool false)]) (by kernel_rfl) (by kernel_rfl) fun a hS => ?_
      refine wl_nil (by kernel_rfl) ?_
      refine q_then ?_
      refine c_ret (by kernel_rfl) ?_
      refine q_thenr ?_
      refine q_ret hS (vs := [v_0, .bool false]) (by kernel_rfl) ?_
      obtain rfl := Option.some.inj hf
      exact ⟨_, rfl, v_0, rfl, C.fr, ret_lies (ri := 0) C rfl rfl⟩
    · have hf := opt_f hb hf
      refine c_skip (by kernel_rfl) ?_
      refine q_then ?_
      refine c_seq (by kernel_rfl) ?_
      refine c_region (by kernel_rfl) ?_
      refine wl_pures (j := 2) hS 2 [0, 3, 16, 17] (m' := [(0, v_0), (3, .pointer (some ⟨b2, 0, none⟩)), (16, v_0), (17, .func (.func 33) #[] #[.pointer (some ⟨b2, 0, none⟩)])]) (by kernel_rfl) (by kernel_rfl) fun a hS => ?_
      obtain ⟨t1, ht1, hf⟩ := bind_some hf
      refine wl_eff (d := (some 18)) (op := (Op.call { callee := (Callee.value (Operand.func 32)), args := #[(Operand.tmp 16), (Operand.tmp 17)], argTypes := #[22, 47] })) (g := none) hS (by kernel_rfl) (by kernel_rfl) (eff_fn (by kernel_rfl) rfl (by kernel_rfl) (extent_place_api_Run_ok k _ p0 (fun y0 => extent_Give_1.f k y0 p1.f_At p1.f_N) v_0 (.func (.func 33) #[] #[.pointer (some ⟨b2, 0, none⟩)]) (C.okR 0 _ rfl) (fun w' hw' y0 r hr => ⟨33, _, rfl, by kernel_rfl, extent_Give_1_ok k w' y0 p1.f_At p1.f_N b2 ((ctx_still C hw').okL 0 _ rfl) r hr⟩) t1 ht1)) ?_
      rintro _ _ ⟨rfl, hw⟩ a hS
      have C := ctx_still C hw
      refine wl_pures (j := 4) hS 1 [0, 3, 6] (m' := [(0, v_0), (3, .pointer (some ⟨b2, 0, none⟩)), (6, .int .i64 t1)]) (by kernel_rfl) (by kernel_rfl) fun a hS => ?_
      refine wl_nil (by kernel_rfl) ?_
      refine q_then ?_
      refine c_seq (by kernel_rfl) ?_
      refine c_join (by kernel_rfl) (fun a w => ∃ x2 : Int, ∃ x3 : Bool, extent_Give.j1 k p0 p1 x2 x3 = some res ∧ Sl 60 [(0, v_0), (3, .pointer (some ⟨b2, 0, none⟩)), (6, .int .i64 x2), (47, .bool x3)] a ∧ Ctx w0 nob A0 [boxE b2 24 [.int .i64 p1.f_At, .int .i64 p1.f_N]] [rdE v_0 p0.length 2 (p0.flatMap F_Run.cells)] w) ?_ ?_
      · rintro a w ⟨x2, x3, hf, hS, C⟩
        rw [extent_Give.j1] at hf
        refine c_if (b := x3) hS (by kernel_rfl) (by kernel_rfl) (fun hb => ?_) (fun hb => ?_)
        · have hf := opt_t hb hf
          refine c_seq (by kernel_rfl) ?_
          refine c_region (by kernel_rfl) ?_
          refine wl_pures (j := 3) hS 3 [4, 5] (m' := [(4, v_0), (5, .bool false)]) (by kernel_rfl) (by kernel_rfl) fun a hS => ?_
          refine wl_nil (by kernel_rfl) ?_
          refine q_then ?_
          refine c_ret (by kernel_rfl) ?_
          refine q_thenr ?_
          refine q_ret hS (vs := [v_0, .bool false]) (by kernel_rfl) ?_
          obtain rfl := Option.some.inj hf
          exact ⟨_, rfl, v_0, rfl, C.fr, ret_lies (ri := 0) C rfl rfl⟩
        · have hf := opt_f hb hf
          refine c_skip (by kernel_rfl) ?_
          refine q_then ?_
          refine c_seq (by kernel_rfl) ?_
          refine c_drawsC [0] [0] 13 C (by kernel_rfl) (by kernel_rfl) (by kernel_rfl) (N := 13) (by kernel_rfl) (by kernel_rfl) fun _ C => ?_
          refine dr_pures (fuel := 8) (l' := [8, 7, 2, 1, 0]) hS (ctx_pick [0] [0] C (by kernel_rfl) rfl rfl) [0, 1, 2, 7, 8] [3, 49, 50, 51, 56, 57] (m' := [(3, .pointer (some ⟨b2, 0, none⟩)), (49, v_0), (50, .int .i64 x2), (51, .int .i64 x2), (56, v_0), (57, .int .i64 x2)]) (by kernel_rfl) (by kernel_rfl) (by kernel_rfl) fun a hS => ?_
          obtain ⟨hc1, hf⟩ := ite_some hf
          refine dr_take (fuel := 7) (j := 3) (v := (cutV3 v_0 0 x2.toNat 2)) (d := (some 52)) (op := (Op.slice 22 (Operand.tmp 49) none (some (Operand.tmp 50)) (some (Operand.tmp 51)))) (g := none) hS (by kernel_rfl) (by kernel_rfl) (fun _ CS => r_cut3 (h := x2.toNat) (l := 0) (v := v_0) (sz := 2) (rds_shp (C.okR 0 _ rfl)) (by kernel_rfl) (by kernel_rfl) (hi_ok .i64 x2 (by omega) (by omega)) (rfl) (by kernel_rfl)) (ctx_pick [0] [0] C (by kernel_rfl) rfl rfl) fun a hS => ?_
          have C := got_cut (ri := 0) (F := F_Run) (l := p0) (l' := (p0.take x2.toNat)) (h := x2.toNat) (lo := 0) C rfl (cut3_rds (C.okR 0 _ rfl) (by omega) (by omega)) (cut3_addr _ _ _ _) (by omega) (by simp)
          refine dr_take (fuel := 6) (j := 4) (v := .agg #[.int .i64 p1.f_At, .int .i64 p1.f_N]) (d := (some 53)) (op := (Op.load 24 (Operand.tmp 3))) (g := none) hS (by kernel_rfl) (by kernel_rfl) (fun _ CS => r_ldbs (li := 0) (off := 0) (seg := [.int .i64 p1.f_At, .int .i64 p1.f_N]) CS rfl (by kernel_rfl) (by kernel_rfl) (by kernel_rfl)) (ctx_pick [0] [0] C (by kernel_rfl) rfl rfl) fun a hS => ?_
          obtain ⟨hc2, hf⟩ := ite_some hf
          refine dr_take (fuel := 5) (j := 9) (v := (cutV v_0 x2.toNat p0.length 2)) (d := (some 58)) (op := (Op.slice 22 (Operand.tmp 56) (some (Operand.tmp 57)) none none)) (g := none) hS (by kernel_rfl) (by kernel_rfl) (fun _ CS => r_cut (h := p0.length) (l := x2.toNat) (v := v_0) (sz := 2) (rds_shp (C.okR 0 _ rfl)) (by kernel_rfl) (by kernel_rfl) (rfl) (lo_ok .i64 x2 (by omega) (by omega))) (ctx_pick [0] [0] C (by kernel_rfl) rfl rfl) fun a hS => ?_
          have C := got_cut (ri := 0) (F := F_Run) (l := p0) (l' := (p0.drop x2.toNat)) (h := p0.length) (lo := x2.toNat) C rfl (cut_rds (C.okR 0 _ rfl) (by omega) (by omega)) (cut_addr _ _ _ _) (by omega) (by simp)
          refine dr_eff (fuel := 4) (j := 5) (d := (some 54)) (op := (Op.buildSlice 22 1 #[(0, (Operand.tmp 53))])) (g := none) hS (by kernel_rfl) (by kernel_rfl) (by kernel_rfl) (eff_slit (e := 24) (sz := 2) (cs := [.int .i64 p1.f_At, .int .i64 p1.f_N]) C (by kernel_rfl) (by kernel_rfl) (by decide)) ?_
          rintro v1 _ ⟨-, C⟩
          have C := ctx_relist (li := 1) (F := F_Run) (l := [(⟨p1.f_At, p1.f_N⟩ : S_Run)]) C rfl rfl rfl
          refine ⟨.inr (ctx_pick [0] [0] C (by kernel_rfl) rfl rfl), fun a hS => ?_⟩
          obtain ⟨t2, ht2, hf⟩ := bind_some hf
          have C := ctx_unown (li := 1) C rfl
          refine dr_eff (fuel := 3) (j := 6) (d := (some 55)) (op := (Op.call { callee := (Callee.value (Operand.func 25)), args := #[(Operand.tmp 52), (Operand.tmp 54)], argTypes := #[22, 22] })) (g := none) hS (by kernel_rfl) (by kernel_rfl) (by kernel_rfl) (eff_fn (by kernel_rfl) rfl (by kernel_rfl) (extent_Join_ok k _ (p0.take x2.toNat) ([(⟨p1.f_At, p1.f_N⟩ : S_Run)]) (cutV3 v_0 0 x2.toNat 2) v1 (C.okR 1 _ rfl) (C.okR 3 _ rfl) t2 ht2)) ?_
          rintro v2 _ ⟨hw, hr1⟩
          have C := got_lies C hw hr1 (dom_two (j := 1) (k := 3) rfl rfl)
          refine ⟨.inr (ctx_pick [0] [0] C (by kernel_rfl) rfl rfl), fun a hS => ?_⟩
          obtain ⟨t3, ht3, hf⟩ := bind_some hf
          refine dr_eff (fuel := 2) (j := 10) (d := (some 59)) (op := (Op.call { callee := (Callee.value (Operand.func 25)), args := #[(Operand.tmp 55), (Operand.tmp 58)], argTypes := #[22, 22] })) (g := none) hS (by kernel_rfl) (by kernel_rfl) (by kernel_rfl) (eff_fn (by kernel_rfl) rfl (by kernel_rfl) (extent_Join_ok k _ t2 (p0.drop x2.toNat) v2 (cutV v_0 x2.toNat p0.length 2) (C.okR 4 _ rfl) (C.okR 2 _ rfl) t3 ht3)) ?_
          rintro v3 _ ⟨hw, hr2⟩
          have C := got_lies C hw hr2 (dom_two (j := 4) (k := 2) rfl rfl)
          refine ⟨.inr (ctx_pick [0] [0] C (by kernel_rfl) rfl rfl), fun a hS => ?_⟩
          refine dr_pures (fuel := 0) (l' := [12, 11, 10, 6, 5, 9, 4, 3, 8, 7, 2, 1, 0]) hS (ctx_pick [0] [0] C (by kernel_rfl) rfl rfl) [11, 12] [4, 5] (m' := [(4, v3), (5, .bool true)]) (by kernel_rfl) (by kernel_rfl) (by kernel_rfl) fun a hS => ?_
          refine dr_done (by kernel_rfl) ?_
          refine q_then ?_
          refine c_ret (by kernel_rfl) ?_
          refine q_ret hS (vs := [v3, .bool true]) (by kernel_rfl) ?_
          obtain rfl := Option.some.inj hf
          exact ⟨_, rfl, v3, rfl, C.fr, ret_lies (ri := 5) C rfl rfl⟩
      · refine c_drawsC [0] [0] 29 C (by kernel_rfl) (by kernel_rfl) (by kernel_rfl) (N := 29) (by kernel_rfl) (by kernel_rfl) fun _ C => ?_
        refine dr_pures (fuel := 26) (l' := [2, 1, 0]) hS (ctx_pick [0] [0] C (by kernel_rfl) rfl rfl) [0, 1, 2] [0, 3, 6, 21] (m' := [(0, v_0), (3, .pointer (some ⟨b2, 0, none⟩)), (6, .int .i64 t1), (21, .bool (decide (t1 > 0)))]) (by kernel_rfl) (by kernel_rfl) (by kernel_rfl) fun a hS => ?_
        rcases Bool.eq_false_or_eq_true (decide (t1 > 0)) with hb | hb
        · rw [hb] at hS
          have hf := opt_t hb hf
          refine dr_pures (fuel := 22) (l' := [9, 5, 4, 3, 2, 1, 0]) hS (ctx_pick [0] [0] C (by kernel_rfl) rfl rfl) [3, 4, 5, 9] [0, 3, 6, 21, 22, 24, 28] (m' := [(0, v_0), (3, .pointer (some ⟨b2, 0, none⟩)), (6, .int .i64 t1), (21, .bool true), (22, v_0), (24, .int .i64 (W64 (t1 - 1))), (28, .pointer (some ⟨b2, 0, none⟩))]) (by kernel_rfl) (by kernel_rfl) (by kernel_rfl) fun a hS => ?_
          obtain ⟨hi1, hf⟩ := ite_some hf
          refine dr_take (fuel := 21) (j := 6) (v := .pointer (some (elemA v_0 ((W64 (t1 - 1)).toNat * 2)))) (d := (some 25)) (op := (Op.indexAddr 22 (Operand.tmp 22) (Operand.tmp 24))) (g := (some (2, true))) hS (by kernel_rfl) (by kernel_rfl) (fun _ CS => r_idx (i := (W64 (t1 - 1))) (k := .i64) (v := v_0) (sz := 2) (rds_shp (C.okR 0 _ rfl)) (by kernel_rfl) (by kernel_rfl) hi1.1 hi1.2 (by kernel_rfl)) (ctx_pick [0] [0] C (by kernel_rfl) rfl rfl) fun a hS => ?_
          refine dr_take (fuel := 20) (j := 7) (v := .agg #[.int .i64 ((F_Run.at_ p0 (W64 (t1 - 1))).f_At), .int .i64 ((F_Run.at_ p0 (W64 (t1 - 1))).f_N)]) (d := (some 26)) (op := (Op.load 24 (Operand.tmp 25))) (g := (some (2, true))) hS (by kernel_rfl) (by kernel_rfl) (fun _ CS => r_ldFs F_Run (i := (W64 (t1 - 1))) (seg := [.int .i64 ((F_Run.at_ p0 (W64 (t1 - 1))).f_At), .int .i64 ((F_Run.at_ p0 (W64 (t1 - 1))).f_N)]) (CS.okR 0 _ rfl) (by kernel_rfl) hi1.1 hi1.2 (by kernel_rfl) (by kernel_rfl)) (ctx_pick [0] [0] C (by kernel_rfl) rfl rfl) fun a hS => ?_
          refine dr_take (fuel := 19) (j := 10) (v := .int .i64 p1.f_At) (d := (some 29)) (op := (Op.load 3 (Operand.tmp 28))) (g := (some (2, true))) hS (by kernel_rfl) (by kernel_rfl) (fun _ CS => r_ldb (li := 0) (off := 0) (u := .int .i64 p1.f_At) CS rfl (by kernel_rfl) (by kernel_rfl) (by kernel_rfl)) (ctx_pick [0] [0] C (by kernel_rfl) rfl rfl) fun a hS => ?_
          obtain ⟨t4, ht4, hf⟩ := bind_some hf
          refine dr_eff (fuel := 18) (j := 8) (d := (some 27)) (op := (Op.call { callee := (Callee.value (Operand.func 34)), args := #[(Operand.tmp 26)], argTypes := #[24] })) (g := (some (2, true))) hS (by kernel_rfl) (by kernel_rfl) (by kernel_rfl) (eff_fn (by kernel_rfl) rfl (by kernel_rfl) (extent_end_ok k _ (F_Run.at_ p0 (W64 (t1 - 1))) t4 ht4)) ?_
          rintro _ _ ⟨rfl, hw⟩
          have C := ctx_still C hw
          refine ⟨.inr (ctx_pick [0] [0] C (by kernel_rfl) rfl rfl), fun a hS => ?_⟩
          refine dr_pures (fuel := 15) (l' := [13, 12, 11, 8, 10, 7, 6, 9, 5, 4, 3, 2, 1, 0]) hS (ctx_pick [0] [0] C (by kernel_rfl) rfl rfl) [11, 12, 13] [0, 3, 6, 32] (m' := [(0, v_0), (3, .pointer (some ⟨b2, 0, none⟩)), (6, .int .i64 t1), (32, .bool (decide (t4 > p1.f_At)))]) (by kernel_rfl) (by kernel_rfl) (by kernel_rfl) fun a hS => ?_
          rcases Bool.eq_false_or_eq_true (decide (t4 > p1.f_At)) with hb | hb
          · rw [hb] at hS
            have hf := opt_t hb hf
            refine dr_pures (fuel := 0) (l' := [28, 27, 26, 25, 24, 23, 22, 21, 20, 19, 18, 17, 16, 15, 14, 13, 12, 11, 8, 10, 7, 6, 9, 5, 4, 3, 2, 1, 0]) hS (ctx_pick [0] [0] C (by kernel_rfl) rfl rfl) [14, 15, 16, 17, 18, 19, 20, 21, 22, 23, 24, 25, 26, 27, 28] [0, 3, 6, 47] (m' := [(0, v_0), (3, .pointer (some ⟨b2, 0, none⟩)), (6, .int .i64 t1), (47, .bool true)]) (by kernel_rfl) (by kernel_rfl) (by kernel_rfl) fun a hS => ?_
            refine dr_done (by kernel_rfl) ?_
            exact q_then ⟨t1, true, hf, hS.keep [0, 3, 6, 47] (by kernel_rfl), ctx_pick [0] [0] C (by kernel_rfl) rfl rfl⟩
          · rw [hb] at hS
            have hf := opt_f hb hf
            refine dr_pures (fuel := 13) (l' := [15, 14, 13, 12, 11, 8, 10, 7, 6, 9, 5, 4, 3, 2, 1, 0]) hS (ctx_pick [0] [0] C (by kernel_rfl) rfl rfl) [14, 15] [0, 3, 6, 32, 33, 34] (m' := [(0, v_0), (3, .pointer (some ⟨b2, 0, none⟩)), (6, .int .i64 t1), (32, .bool false), (33, .int .i64 t1), (34, v_0)]) (by kernel_rfl) (by kernel_rfl) (by kernel_rfl) fun a hS => ?_
            refine dr_take (fuel := 12) (j := 16) (v := .int .i64 (p0.length : Int)) (d := (some 35)) (op := (Op.call { callee := (Callee.builtin Builtin.len), args := #[(Operand.tmp 34)], argTypes := #[22] })) (g := (some (13, false))) hS (by kernel_rfl) (by kernel_rfl) (fun _ CS => r_len (n := p0.length) (v := v_0) (rds_shp (C.okR 0 _ rfl)) (by kernel_rfl) (by kernel_rfl)) (ctx_pick [0] [0] C (by kernel_rfl) rfl rfl) fun a hS => ?_
            refine dr_pures (fuel := 10) (l' := [18, 17, 16, 15, 14, 13, 12, 11, 8, 10, 7, 6, 9, 5, 4, 3, 2, 1, 0]) hS (ctx_pick [0] [0] C (by kernel_rfl) rfl rfl) [17, 18] [0, 3, 6, 32, 37] (m' := [(0, v_0), (3, .pointer (some ⟨b2, 0, none⟩)), (6, .int .i64 t1), (32, .bool false), (37, .bool (decide (t1 < (p0.length : Int))))]) (by kernel_rfl) (by kernel_rfl) (by kernel_rfl) fun a hS => ?_
            rcases Bool.eq_false_or_eq_true (decide (t1 < (p0.length : Int))) with hb | hb
            · rw [hb] at hS
              have hf := opt_t hb hf
              refine dr_pures (fuel := 8) (l' := [20, 19, 18, 17, 16, 15, 14, 13, 12, 11, 8, 10, 7, 6, 9, 5, 4, 3, 2, 1, 0]) hS (ctx_pick [0] [0] C (by kernel_rfl) rfl rfl) [19, 20] [0, 3, 6, 32, 37, 38, 39] (m' := [(0, v_0), (3, .pointer (some ⟨b2, 0, none⟩)), (6, .int .i64 t1), (32, .bool false), (37, .bool true), (38, v_0), (39, .int .i64 t1)]) (by kernel_rfl) (by kernel_rfl) (by kernel_rfl) fun a hS => ?_
              obtain ⟨hi2, hf⟩ := ite_some hf
              refine dr_take (fuel := 7) (j := 21) (v := .pointer (some (elemA v_0 (t1.toNat * 2)))) (d := (some 40)) (op := (Op.indexAddr 22 (Operand.tmp 38) (Operand.tmp 39))) (g := (some (18, true))) hS (by kernel_rfl) (by kernel_rfl) (fun _ CS => r_idx (i := t1) (k := .i64) (v := v_0) (sz := 2) (rds_shp (C.okR 0 _ rfl)) (by kernel_rfl) (by kernel_rfl) hi2.1 hi2.2 (by kernel_rfl)) (ctx_pick [0] [0] C (by kernel_rfl) rfl rfl) fun a hS => ?_
              refine dr_pures (fuel := 6) (l' := [22, 21, 20, 19, 18, 17, 16, 15, 14, 13, 12, 11, 8, 10, 7, 6, 9, 5, 4, 3, 2, 1, 0]) hS (ctx_pick [0] [0] C (by kernel_rfl) rfl rfl) [22] [0, 3, 6, 32, 37, 41] (m' := [(0, v_0), (3, .pointer (some ⟨b2, 0, none⟩)), (6, .int .i64 t1), (32, .bool false), (37, .bool true), (41, .pointer (some ((elemA v_0 (t1.toNat * 2)).add 0)))]) (by kernel_rfl) (by kernel_rfl) (by kernel_rfl) fun a hS => ?_
              refine dr_take (fuel := 5) (j := 23) (v := .int .i64 ((F_Run.at_ p0 t1).f_At)) (d := (some 42)) (op := (Op.load 3 (Operand.tmp 41))) (g := (some (18, true))) hS (by kernel_rfl) (by kernel_rfl) (fun _ CS => r_ldF F_Run (i := t1) (off := 0) (u := .int .i64 ((F_Run.at_ p0 t1).f_At)) (CS.okR 0 _ rfl) (by kernel_rfl) hi2.1 hi2.2 (by decide) (by kernel_rfl) (by kernel_rfl)) (ctx_pick [0] [0] C (by kernel_rfl) rfl rfl) fun a hS => ?_
              refine dr_take (fuel := 4) (j := 24) (v := .agg #[.int .i64 p1.f_At, .int .i64 p1.f_N]) (d := (some 43)) (op := (Op.load 24 (Operand.tmp 3))) (g := (some (18, true))) hS (by kernel_rfl) (by kernel_rfl) (fun _ CS => r_ldbs (li := 0) (off := 0) (seg := [.int .i64 p1.f_At, .int .i64 p1.f_N]) CS rfl (by kernel_rfl) (by kernel_rfl) (by kernel_rfl)) (ctx_pick [0] [0] C (by kernel_rfl) rfl rfl) fun a hS => ?_
              obtain ⟨t5, ht5, hf⟩ := bind_some hf
              refine dr_eff (fuel := 3) (j := 25) (d := (some 44)) (op := (Op.call { callee := (Callee.value (Operand.func 34)), args := #[(Operand.tmp 43)], argTypes := #[24] })) (g := (some (18, true))) hS (by kernel_rfl) (by kernel_rfl) (by kernel_rfl) (eff_fn (by kernel_rfl) rfl (by kernel_rfl) (extent_end_ok k _ (⟨p1.f_At, p1.f_N⟩ : S_Run) t5 ht5)) ?_
              rintro _ _ ⟨rfl, hw⟩
              have C := ctx_still C hw
              refine ⟨.inr (ctx_pick [0] [0] C (by kernel_rfl) rfl rfl), fun a hS => ?_⟩
              refine dr_pures (fuel := 0) (l' := [28, 27, 26, 25, 24, 23, 22, 21, 20, 19, 18, 17, 16, 15, 14, 13, 12, 11, 8, 10, 7, 6, 9, 5, 4, 3, 2, 1, 0]) hS (ctx_pick [0] [0] C (by kernel_rfl) rfl rfl) [26, 27, 28] [0, 3, 6, 47] (m' := [(0, v_0), (3, .pointer (some ⟨b2, 0, none⟩)), (6, .int .i64 t1), (47, .bool (decide (((F_Run.at_ p0 t1).f_At) < t5)))]) (by kernel_rfl) (by kernel_rfl) (by kernel_rfl) fun a hS => ?_
              refine dr_done (by kernel_rfl) ?_
              exact q_then ⟨t1, (decide (((F_Run.at_ p0 t1).f_At) < t5)), hf, hS.keep [0, 3, 6, 47] (by kernel_rfl), ctx_pick [0] [0] C (by kernel_rfl) rfl rfl⟩
            · rw [hb] at hS
              have hf := opt_f hb hf
              refine dr_pures (fuel := 0) (l' := [28, 27, 26, 25, 24, 23, 22, 21, 20, 19, 18, 17, 16, 15, 14, 13, 12, 11, 8, 10, 7, 6, 9, 5, 4, 3, 2, 1, 0]) hS (ctx_pick [0] [0] C (by kernel_rfl) rfl rfl) [19, 20, 21, 22, 23, 24, 25, 26, 27, 28] [0, 3, 6, 47] (m' := [(0, v_0), (3, .pointer (some ⟨b2, 0, none⟩)), (6, .int .i64 t1), (47, .bool false)]) (by kernel_rfl) (by kernel_rfl) (by kernel_rfl) fun a hS => ?_
              refine dr_done (by kernel_rfl) ?_
              exact q_then ⟨t1, false, hf, hS.keep [0, 3, 6, 47] (by kernel_rfl), ctx_pick [0] [0] C (by kernel_rfl) rfl rfl⟩
        · rw [hb] at hS
          have hf := opt_f hb hf
          refine dr_pures (fuel := 13) (l' := [15, 14, 13, 12, 11, 10, 9, 8, 7, 6, 5, 4, 3, 2, 1, 0]) hS (ctx_pick [0] [0] C (by kernel_rfl) rfl rfl) [3, 4, 5, 6, 7, 8, 9, 10, 11, 12, 13, 14, 15] [0, 3, 6, 32, 33, 34] (m' := [(0, v_0), (3, .pointer (some ⟨b2, 0, none⟩)), (6, .int .i64 t1), (32, .bool false), (33, .int .i64 t1), (34, v_0)]) (by kernel_rfl) (by kernel_rfl) (by kernel_rfl) fun a hS => ?_
          refine dr_take (fuel := 12) (j := 16) (v := .int .i64 (p0.length : Int)) (d := (some 35)) (op := (Op.call { callee := (Callee.builtin Builtin.len), args := #[(Operand.tmp 34)], argTypes := #[22] })) (g := (some (13, false))) hS (by kernel_rfl) (by kernel_rfl) (fun _ CS => r_len (n := p0.length) (v := v_0) (rds_shp (C.okR 0 _ rfl)) (by kernel_rfl) (by kernel_rfl)) (ctx_pick [0] [0] C (by kernel_rfl) rfl rfl) fun a hS => ?_
          refine dr_pures (fuel := 10) (l' := [18, 17, 16, 15, 14, 13, 12, 11, 10, 9, 8, 7, 6, 5, 4, 3, 2, 1, 0]) hS (ctx_pick [0] [0] C (by kernel_rfl) rfl rfl) [17, 18] [0, 3, 6, 32, 37] (m' := [(0, v_0), (3, .pointer (some ⟨b2, 0, none⟩)), (6, .int .i64 t1), (32, .bool false), (37, .bool (decide (t1 < (p0.length : Int))))]) (by kernel_rfl) (by kernel_rfl) (by kernel_rfl) fun a hS => ?_
          rcases Bool.eq_false_or_eq_true (decide (t1 < (p0.length : Int))) with hb | hb
          · rw [hb] at hS
            have hf := opt_t hb hf
            refine dr_pures (fuel := 8) (l' := [20, 19, 18, 17, 16, 15, 14, 13, 12, 11, 10, 9, 8, 7, 6, 5, 4, 3, 2, 1, 0]) hS (ctx_pick [0] [0] C (by kernel_rfl) rfl rfl) [19, 20] [0, 3, 6, 32, 37, 38, 39] (m' := [(0, v_0), (3, .pointer (some ⟨b2, 0, none⟩)), (6, .int .i64 t1), (32, .bool false), (37, .bool true), (38, v_0), (39, .int .i64 t1)]) (by kernel_rfl) (by kernel_rfl) (by kernel_rfl) fun a hS => ?_
            obtain ⟨hi3, hf⟩ := ite_some hf
            refine dr_take (fuel := 7) (j := 21) (v := .pointer (some (elemA v_0 (t1.toNat * 2)))) (d := (some 40)) (op := (Op.indexAddr 22 (Operand.tmp 38) (Operand.tmp 39))) (g := (some (18, true))) hS (by kernel_rfl) (by kernel_rfl) (fun _ CS => r_idx (i := t1) (k := .i64) (v := v_0) (sz := 2) (rds_shp (C.okR 0 _ rfl)) (by kernel_rfl) (by kernel_rfl) hi3.1 hi3.2 (by kernel_rfl)) (ctx_pick [0] [0] C (by kernel_rfl) rfl rfl) fun a hS => ?_
            refine dr_pures (fuel := 6) (l' := [22, 21, 20, 19, 18, 17, 16, 15, 14, 13, 12, 11, 10, 9, 8, 7, 6, 5, 4, 3, 2, 1, 0]) hS (ctx_pick [0] [0] C (by kernel_rfl) rfl rfl) [22] [0, 3, 6, 32, 37, 41] (m' := [(0, v_0), (3, .pointer (some ⟨b2, 0, none⟩)), (6, .int .i64 t1), (32, .bool false), (37, .bool true), (41, .pointer (some ((elemA v_0 (t1.toNat * 2)).add 0)))]) (by kernel_rfl) (by kernel_rfl) (by kernel_rfl) fun a hS => ?_
            refine dr_take (fuel := 5) (j := 23) (v := .int .i64 ((F_Run.at_ p0 t1).f_At)) (d := (some 42)) (op := (Op.load 3 (Operand.tmp 41))) (g := (some (18, true))) hS (by kernel_rfl) (by kernel_rfl) (fun _ CS => r_ldF F_Run (i := t1) (off := 0) (u := .int .i64 ((F_Run.at_ p0 t1).f_At)) (CS.okR 0 _ rfl) (by kernel_rfl) hi3.1 hi3.2 (by decide) (by kernel_rfl) (by kernel_rfl)) (ctx_pick [0] [0] C (by kernel_rfl) rfl rfl) fun a hS => ?_
            refine dr_take (fuel := 4) (j := 24) (v := .agg #[.int .i64 p1.f_At, .int .i64 p1.f_N]) (d := (some 43)) (op := (Op.load 24 (Operand.tmp 3))) (g := (some (18, true))) hS (by kernel_rfl) (by kernel_rfl) (fun _ CS => r_ldbs (li := 0) (off := 0) (seg := [.int .i64 p1.f_At, .int .i64 p1.f_N]) CS rfl (by kernel_rfl) (by kernel_rfl) (by kernel_rfl)) (ctx_pick [0] [0] C (by kernel_rfl) rfl rfl) fun a hS => ?_
            obtain ⟨t6, ht6, hf⟩ := bind_some hf
            refine dr_eff (fuel := 3) (j := 25) (d := (some 44)) (op := (Op.call { callee := (Callee.value (Operand.func 34)), args := #[(Operand.tmp 43)], argTypes := #[24] })) (g := (some (18, true))) hS (by kernel_rfl) (by kernel_rfl) (by kernel_rfl) (eff_fn (by kernel_rfl) rfl (by kernel_rfl) (extent_end_ok k _ (⟨p1.f_At, p1.f_N⟩ : S_Run) t6 ht6)) ?_
            rintro _ _ ⟨rfl, hw⟩
            have C := ctx_still C hw
            refine ⟨.inr (ctx_pick [0] [0] C (by kernel_rfl) rfl rfl), fun a hS => ?_⟩
            refine dr_pures (fuel := 0) (l' := [28, 27, 26, 25, 24, 23, 22, 21, 20, 19, 18, 17, 16, 15, 14, 13, 12, 11, 10, 9, 8, 7, 6, 5, 4, 3, 2, 1, 0]) hS (ctx_pick [0] [0] C (by kernel_rfl) rfl rfl) [26, 27, 28] [0, 3, 6, 47] (m' := [(0, v_0), (3, .pointer (some ⟨b2, 0, none⟩)), (6, .int .i64 t1), (47, .bool (decide (((F_Run.at_ p0 t1).f_At) < t6)))]) (by kernel_rfl) (by kernel_rfl) (by kernel_rfl) fun a hS => ?_
            refine dr_done (by kernel_rfl) ?_
            exact q_then ⟨t1, (decide (((F_Run.at_ p0 t1).f_At) < t6)), hf, hS.keep [0, 3, 6, 47] (by kernel_rfl), ctx_pick [0] [0] C (by kernel_rfl) rfl rfl⟩
          · rw [hb] at hS
            have hf := opt_f hb hf
            refine dr_pures (fuel := 0) (l' := [28, 27, 26, 25, 24, 23, 22, 21, 20, 19, 18, 17, 16, 15, 14, 13, 12, 11, 10, 9, 8, 7, 6, 5, 4, 3, 2, 1, 0]) hS (ctx_pick [0] [0] C (by kernel_rfl) rfl rfl) [19, 20, 21, 22, 23, 24, 25, 26, 27, 28] [0, 3, 6, 47] (m' := [(0, v_0), (3, .pointer (some ⟨b2, 0, none⟩)), (6, .int .i64 t1), (47, .bool false)]) (by kernel_rfl) (by kernel_rfl) (by kernel_rfl) fun a hS => ?_
            refine dr_done (by kernel_rfl) ?_
            exact q_then ⟨t1, false, hf, hS.keep [0, 3, 6, 47] (by kernel_rfl), ctx_pick [0] [0] C (by kernel_rfl) rfl rfl⟩
  · refine c_region (by kernel_rfl) ?_
    refine wl_pures (j := 1) hS 1 [0, 3, 7] (m' := [(0, v_0), (3, .pointer (some ⟨b1, 0, none⟩)), (7, v_0)]) (by kernel_rfl) (by kernel_rfl) fun a hS => ?_
    obtain ⟨t7, ht7, hf⟩ := bind_some hf
    refine wl_eff (d := (some 8)) (op := (Op.call { callee := (Callee.value (Operand.func 20)), args := #[(Operand.tmp 7)], argTypes := #[22] })) (g := none) hS (by kernel_rfl) (by kernel_rfl) (eff_fn (by kernel_rfl) rfl (by kernel_rfl) (extent_Check_ok k _ p0 v_0 (C.okR 0 _ rfl) t7 ht7)) ?_
    rintro _ _ ⟨rfl, hw⟩ a hS
    have C := ctx_still C hw
    refine wl_pures (j := 4) hS 2 [0, 3, 10] (m' := [(0, v_0), (3, .pointer (some ⟨b1, 0, none⟩)), (10, .bool (t7 != 0))]) (by kernel_rfl) (by kernel_rfl) fun a hS => ?_
    rcases Bool.eq_false_or_eq_true (t7 != 0) with hb | hb
    · rw [hb] at hS
      have hf := opt_t hb hf
      refine wl_pures (j := 8) hS 4 [0, 3, 14] (m' := [(0, v_0), (3, .pointer (some ⟨b1, 0, none⟩)), (14, .bool true)]) (by kernel_rfl) (by kernel_rfl) fun a hS => ?_
      refine wl_nil (by kernel_rfl) ?_
      exact q_then ⟨b1, true, hf, hS.keep [0, 3, 14] (by kernel_rfl), ctx_pick [0] [0] C (by kernel_rfl) rfl rfl⟩
    · rw [hb] at hS
      have hf := opt_f hb hf
      refine wl_val (d := (some 11)) (op := (Op.load 24 (Operand.tmp 3))) (g := (some (3, false))) hS (by kernel_rfl) (by kernel_rfl) (r_ldbs (li := 0) (off := 0) (seg := [.int .i64 p1.f_At, .int .i64 p1.f_N]) C rfl (by kernel_rfl) (by kernel_rfl) (by kernel_rfl)) fun a hS => ?_
      obtain ⟨t8, ht8, hf⟩ := bind_some hf
      refine wl_eff (d := (some 12)) (op := (Op.call { callee := (Callee.value (Operand.func 31)), args := #[(Operand.tmp 11)], argTypes := #[24] })) (g := (some (3, false))) hS (by kernel_rfl) (by kernel_rfl) (eff_fn (by kernel_rfl) rfl (by kernel_rfl) (extent_good_ok k _ (⟨p1.f_At, p1.f_N⟩ : S_Run) t8 ht8)) ?_
      rintro _ _ ⟨rfl, hw⟩ a hS
      have C := ctx_still C hw
      refine wl_pures (j := 8) hS 2 [0, 3, 14] (m' := [(0, v_0), (3, .pointer (some ⟨b1, 0, none⟩)), (14, .bool (!t8))]) (by kernel_rfl) (by kernel_rfl) fun a hS => ?_
      refine wl_nil (by kernel_rfl) ?_
      exact q_then ⟨b1, (!t8), hf, hS.keep [0, 3, 14] (by kernel_rfl), ctx_pick [0] [0] C (by kernel_rfl) rfl rfl⟩

def scriniumlaw06_awake.f (k : Nat)  : Option Bool := ((extent_Take.f k ([(⟨2, 3⟩ : S_Run), (⟨9, 1⟩ : S_Run)]) 4).bind fun t1 => (if (0 : Int) ≤ (1 : Int) ∧ (1 : Int) ≤ (([(⟨2, 3⟩ : S_Run), (⟨9, 1⟩ : S_Run)]).length : Int) then ((extent_Give.f k (([(⟨2, 3⟩ : S_Run), (⟨9, 1⟩ : S_Run)]).take 1) (⟨5, 1⟩ : S_Run)).bind fun t2 => (if (0 : Int) ≤ (1 : Int) ∧ (1 : Int) ≤ (([(⟨2, 3⟩ : S_Run), (⟨9, 1⟩ : S_Run)]).length : Int) then ((extent_Give.f k (([(⟨2, 3⟩ : S_Run), (⟨9, 1⟩ : S_Run)]).take 1) (⟨4, 1⟩ : S_Run)).bind fun t3 => (if ((t1.1.length : Int) == 2) = true then (if 0 ≤ (0 : Int) ∧ (0 : Int) < (t1.1.length : Int) then (if 0 ≤ (0 : Int) ∧ (0 : Int) < (([(⟨2, 3⟩ : S_Run), (⟨9, 1⟩ : S_Run)]).length : Int) then (if ((((F_Run.at_ t1.1 (0 : Int)).f_At) == ((F_Run.at_ ([(⟨2, 3⟩ : S_Run), (⟨9, 1⟩ : S_Run)]) (0 : Int)).f_At)) && ((((F_Run.at_ t1.1 (0 : Int)).f_N) == ((F_Run.at_ ([(⟨2, 3⟩ : S_Run), (⟨9, 1⟩ : S_Run)]) (0 : Int)).f_N)) && true)) = true then (if 0 ≤ (1 : Int) ∧ (1 : Int) < (t1.1.length : Int) then (if 0 ≤ (1 : Int) ∧ (1 : Int) < (([(⟨2, 3⟩ : S_Run), (⟨9, 1⟩ : S_Run)]).length : Int) then (if ((((F_Run.at_ t1.1 (1 : Int)).f_At) == ((F_Run.at_ ([(⟨2, 3⟩ : S_Run), (⟨9, 1⟩ : S_Run)]) (1 : Int)).f_At)) && ((((F_Run.at_ t1.1 (1 : Int)).f_N) == ((F_Run.at_ ([(⟨2, 3⟩ : S_Run), (⟨9, 1⟩ : S_Run)]) (1 : Int)).f_N)) && true)) = true then (if ((t1.2.1.length : Int) == 0) = true then (if t1.2.2 = true then (if ((t2.1.length : Int) == 1) = true then (if 0 ≤ (0 : Int) ∧ (0 : Int) < (t2.1.length : Int) then (if (((F_Run.at_ t2.1 (0 : Int)).f_N) == 4) = true then (if t2.2 = true then (some (!t3.2)) else (some false)) else (some false)) else none) else (some false)) else (some false)) else (some false)) else (some false)) else none) else none) else (some false)) else none) else none) else (some false))) else none)) else none))
theorem scriniumlaw06_awake_ok (k : Nat) (w0 : World)    (res : Bool) (hf : scriniumlaw06_awake.f k  = some res) :
    Fn Try.prog 9 [] w0 (fun v w' => v = .bool res ∧ Fr nob w0 w') := by
  have C := ctx_start w0 [] (by simp)
  generalize allDom [] = A0 at C
  refine f_enter (fn := Try.f9) (k := 80) rfl rfl rfl fun a hS => ?_
  have hS : Sl 80 [] a := hS
  rw [scriniumlaw06_awake.f] at hf
  refine c_seq (by kernel_rfl) ?_
  refine c_region (by kernel_rfl) ?_
  refine wl_pures (j := 1) hS 1 [] (m' := []) (by kernel_rfl) (by kernel_rfl) fun a hS => ?_
  refine wl_nil (by kernel_rfl) ?_
  refine q_then ?_
  refine c_seq (by kernel_rfl) ?_
  refine c_region (by kernel_rfl) ?_
  refine wl_val (d := (some 9)) (op := (Op.build 24 #[(0, (Operand.const (Value.int IntKind.i64 2))), (1, (Operand.const (Value.int IntKind.i64 3)))])) (g := none) hS (by kernel_rfl) (by kernel_rfl) (r_build (v := (.agg #[.int .i64 2, .int .i64 3])) (by kernel_rfl)) fun a hS => ?_
  refine wl_val (d := (some 10)) (op := (Op.build 24 #[(0, (Operand.const (Value.int IntKind.i64 9))), (1, (Operand.const (Value.int IntKind.i64 1)))])) (g := none) hS (by kernel_rfl) (by kernel_rfl) (r_build (v := (.agg #[.int .i64 9, .int .i64 1])) (by kernel_rfl)) fun a hS => ?_
  refine wl_eff (d := (some 11)) (op := (Op.buildSlice 22 2 #[(0, (Operand.tmp 9)), (1, (Operand.tmp 10))])) (g := none) hS (by kernel_rfl) (by kernel_rfl) (eff_slit (e := 24) (sz := 2) (cs := [.int .i64 2, .int .i64 3, .int .i64 9, .int .i64 1]) C (by kernel_rfl) (by kernel_rfl) (by decide)) ?_
  rintro v1 _ ⟨-, C⟩ a hS
  have C := ctx_relist (li := 0) (F := F_Run) (l := [(⟨2, 3⟩ : S_Run), (⟨9, 1⟩ : S_Run)]) C rfl rfl rfl
  refine wl_pures (j := 4) hS 1 [1] (m' := [(1, v1)]) (by kernel_rfl) (by kernel_rfl) fun a hS => ?_
  refine wl_nil (by kernel_rfl) ?_
  refine q_then ?_
  refine c_seq (by kernel_rfl) ?_
  refine c_region (by kernel_rfl) ?_
  refine wl_pures (j := 1) hS 1 [1, 13] (m' := [(1, v1), (13, v1)]) (by kernel_rfl) (by kernel_rfl) fun a hS => ?_
  obtain ⟨t1, ht1, hf⟩ := bind_some hf
  have C := ctx_unown (li := 0) C rfl
  refine wl_eff (d := (some 14)) (op := (Op.call { callee := (Callee.value (Operand.func 12)), args := #[(Operand.tmp 13), (Operand.const (Value.int IntKind.i64 4))], argTypes := #[22, 3] })) (g := none) hS (by kernel_rfl) (by kernel_rfl) (eff_fn (by kernel_rfl) rfl (by kernel_rfl) (extent_Take_ok k _ ([(⟨2, 3⟩ : S_Run), (⟨9, 1⟩ : S_Run)]) 4 v1 (C.okR 0 _ rfl) t1 ht1)) ?_
  rintro _ _ ⟨v2, v3, rfl, hw, hr1, hr2⟩ a hS
  have CC := C
  have C := got_lies C hw hr1 (dom_one (j := 0) rfl)
  have C := got_more CC C hw hr2 (dom_one (j := 0) rfl)
  refine wl_pures (j := 9) hS 7 [1, 2, 3, 4] (m' := [(1, v1), (2, v2), (3, v3), (4, .bool t1.2.2)]) (by kernel_rfl) (by kernel_rfl) fun a hS => ?_
  refine wl_nil (by kernel_rfl) ?_
  refine q_then ?_
  refine c_seq (by kernel_rfl) ?_
  refine c_region (by kernel_rfl) ?_
  refine wl_pures (j := 1) hS 1 [1, 2, 3, 4, 19] (m' := [(1, v1), (2, v2), (3, v3), (4, .bool t1.2.2), (19, v1)]) (by kernel_rfl) (by kernel_rfl) fun a hS => ?_
  obtain ⟨hc1, hf⟩ := ite_some hf
  refine wl_val (d := (some 20)) (op := (Op.slice 22 (Operand.tmp 19) none (some (Operand.const (Value.int IntKind.i64 1))) none)) (g := none) hS (by kernel_rfl) (by kernel_rfl) (r_cut (h := 1) (l := 0) (v := v1) (sz := 2) (rds_shp (C.okR 0 _ rfl)) (by kernel_rfl) (by kernel_rfl) (hi_ok .i64 (1 : Int) (by omega) (by omega)) (rfl)) fun a hS => ?_
  have C := got_cut (ri := 0) (F := F_Run) (l := ([(⟨2, 3⟩ : S_Run), (⟨9, 1⟩ : S_Run)])) (l' := (([(⟨2, 3⟩ : S_Run), (⟨9, 1⟩ : S_Run)]).take 1)) (h := 1) (lo := 0) C rfl (cut_rds (C.okR 0 _ rfl) (by omega) (by omega)) (cut_addr _ _ _ _) (by omega) (by simp)
  refine wl_val (d := (some 21)) (op := (Op.build 24 #[(0, (Operand.const (Value.int IntKind.i64 5))), (1, (Operand.const (Value.int IntKind.i64 1)))])) (g := none) hS (by kernel_rfl) (by kernel_rfl) (r_build (v := (.agg #[.int .i64 5, .int .i64 1])) (by kernel_rfl)) fun a hS => ?_
  obtain ⟨t2, ht2, hf⟩ := bind_some hf
  refine wl_eff (d := (some 22)) (op := (Op.call { callee := (Callee.value (Operand.func 14)), args := #[(Operand.tmp 20), (Operand.tmp 21)], argTypes := #[22, 24] })) (g := none) hS (by kernel_rfl) (by kernel_rfl) (eff_fn (by kernel_rfl) rfl (by kernel_rfl) (extent_Give_ok k _ (([(⟨2, 3⟩ : S_Run), (⟨9, 1⟩ : S_Run)]).take 1) (⟨5, 1⟩ : S_Run) (cutV v1 0 1 2) (C.okR 3 _ rfl) t2 ht2)) ?_
  rintro _ _ ⟨v4, rfl, hw, hr3⟩ a hS
  have C := got_lies C hw hr3 (dom_one (j := 3) rfl)
  refine wl_pures (j := 9) hS 5 [1, 2, 3, 4, 5, 6] (m' := [(1, v1), (2, v2), (3, v3), (4, .bool t1.2.2), (5, v4), (6, .bool t2.2)]) (by kernel_rfl) (by kernel_rfl) fun a hS => ?_
  refine wl_nil (by kernel_rfl) ?_
  refine q_then ?_
  refine c_seq (by kernel_rfl) ?_
  refine c_region (by kernel_rfl) ?_
  refine wl_pures (j := 1) hS 1 [1, 2, 3, 4, 5, 6, 26] (m' := [(1, v1), (2, v2), (3, v3), (4, .bool t1.2.2), (5, v4), (6, .bool t2.2), (26, v1)]) (by kernel_rfl) (by kernel_rfl) fun a hS => ?_
  obtain ⟨hc2, hf⟩ := ite_some hf
  refine wl_val (d := (some 27)) (op := (Op.slice 22 (Operand.tmp 26) none (some (Operand.const (Value.int IntKind.i64 1))) none)) (g := none) hS (by kernel_rfl) (by kernel_rfl) (r_cut (h := 1) (l := 0) (v := v1) (sz := 2) (rds_shp (C.okR 0 _ rfl)) (by kernel_rfl) (by kernel_rfl) (hi_ok .i64 (1 : Int) (by omega) (by omega)) (rfl)) fun a hS => ?_
  have C := got_cut (ri := 0) (F := F_Run) (l := ([(⟨2, 3⟩ : S_Run), (⟨9, 1⟩ : S_Run)])) (l' := (([(⟨2, 3⟩ : S_Run), (⟨9, 1⟩ : S_Run)]).take 1)) (h := 1) (lo := 0) C rfl (cut_rds (C.okR 0 _ rfl) (by omega) (by omega)) (cut_addr _ _ _ _) (by omega) (by simp)
  refine wl_val (d := (some 28)) (op := (Op.build 24 #[(0, (Operand.const (Value.int IntKind.i64 4))), (1, (Operand.const (Value.int IntKind.i64 1)))])) (g := none) hS (by kernel_rfl) (by kernel_rfl) (r_build (v := (.agg #[.int .i64 4, .int .i64 1])) (by kernel_rfl)) fun a hS => ?_
  obtain ⟨t3, ht3, hf⟩ := bind_some hf
  refine wl_eff (d := (some 29)) (op := (Op.call { callee := (Callee.value (Operand.func 14)), args := #[(Operand.tmp 27), (Operand.tmp 28)], argTypes := #[22, 24] })) (g := none) hS (by kernel_rfl) (by kernel_rfl) (eff_fn (by kernel_rfl) rfl (by kernel_rfl) (extent_Give_ok k _ (([(⟨2, 3⟩ : S_Run), (⟨9, 1⟩ : S_Run)]).take 1) (⟨4, 1⟩ : S_Run) (cutV v1 0 1 2) (C.okR 5 _ rfl) t3 ht3)) ?_
  rintro _ _ ⟨v5, rfl, hw, hr4⟩ a hS
  have C := got_lies C hw hr4 (dom_one (j := 5) rfl)
  refine wl_pures (j := 9) hS 5 [1, 2, 3, 4, 5, 6, 8] (m' := [(1, v1), (2, v2), (3, v3), (4, .bool t1.2.2), (5, v4), (6, .bool t2.2), (8, .bool t3.2)]) (by kernel_rfl) (by kernel_rfl) fun a hS => ?_
  refine wl_nil (by kernel_rfl) ?_
  refine q_then ?_
  refine c_seq (by kernel_rfl) ?_
  refine c_drawsC [0] [0, 1, 2, 3, 4, 5, 6] 49 C (by kernel_rfl) (by kernel_rfl) (by kernel_rfl) (N := 49) (by kernel_rfl) (by kernel_rfl) fun _ C => ?_
  refine dr_pures (fuel := 48) (l' := [0]) hS (ctx_pick [0] [0, 1, 2, 3, 4, 5, 6] C (by kernel_rfl) rfl rfl) [0] [1, 2, 3, 4, 5, 6, 8, 32] (m' := [(1, v1), (2, v2), (3, v3), (4, .bool t1.2.2), (5, v4), (6, .bool t2.2), (8, .bool t3.2), (32, v2)]) (by kernel_rfl) (by kernel_rfl) (by kernel_rfl) fun a hS => ?_
  refine dr_take (fuel := 47) (j := 1) (v := .int .i64 (t1.1.length : Int)) (d := (some 33)) (op := (Op.call { callee := (Callee.builtin Builtin.len), args := #[(Operand.tmp 32)], argTypes := #[22] })) (g := none) hS (by kernel_rfl) (by kernel_rfl) (fun _ CS => r_len (n := t1.1.length) (v := v2) (rds_shp (C.okR 1 _ rfl)) (by kernel_rfl) (by kernel_rfl)) (ctx_pick [0] [0, 1, 2, 3, 4, 5, 6] C (by kernel_rfl) rfl rfl) fun a hS => ?_
  refine dr_pures (fuel := 45) (l' := [3, 2, 1, 0]) hS (ctx_pick [0] [0, 1, 2, 3, 4, 5, 6] C (by kernel_rfl) rfl rfl) [2, 3] [1, 2, 3, 4, 5, 6, 8, 35] (m' := [(1, v1), (2, v2), (3, v3), (4, .bool t1.2.2), (5, v4), (6, .bool t2.2), (8, .bool t3.2), (35, .bool ((t1.1.length : Int) == 2))]) (by kernel_rfl) (by kernel_rfl) (by kernel_rfl) fun a hS => ?_
  rcases Bool.eq_false_or_eq_true ((t1.1.length : Int) == 2) with hb | hb
  · rw [hb] at hS
    have hf := opt_t hb hf
    refine dr_pures (fuel := 43) (l' := [7, 4, 3, 2, 1, 0]) hS (ctx_pick [0] [0, 1, 2, 3, 4, 5, 6] C (by kernel_rfl) rfl rfl) [4, 7] [1, 2, 3, 4, 5, 6, 8, 35, 36, 39] (m' := [(1, v1), (2, v2), (3, v3), (4, .bool t1.2.2), (5, v4), (6, .bool t2.2), (8, .bool t3.2), (35, .bool true), (36, v2), (39, v1)]) (by kernel_rfl) (by kernel_rfl) (by kernel_rfl) fun a hS => ?_
    obtain ⟨hi1, hf⟩ := ite_some hf
    refine dr_take (fuel := 42) (j := 5) (v := .pointer (some (elemA v2 ((0 : Int).toNat * 2)))) (d := (some 37)) (op := (Op.indexAddr 22 (Operand.tmp 36) (Operand.const (Value.int IntKind.i64 0)))) (g := (some (3, true))) hS (by kernel_rfl) (by kernel_rfl) (fun _ CS => r_idx (i := 0) (k := .i64) (v := v2) (sz := 2) (rds_shp (C.okR 1 _ rfl)) (by kernel_rfl) (by kernel_rfl) hi1.1 hi1.2 (by kernel_rfl)) (ctx_pick [0] [0, 1, 2, 3, 4, 5, 6] C (by kernel_rfl) rfl rfl) fun a hS => ?_
    refine dr_take (fuel := 41) (j := 6) (v := .agg #[.int .i64 ((F_Run.at_ t1.1 (0 : Int)).f_At), .int .i64 ((F_Run.at_ t1.1 (0 : Int)).f_N)]) (d := (some 38)) (op := (Op.load 24 (Operand.tmp 37))) (g := (some (3, true))) hS (by kernel_rfl) (by kernel_rfl) (fun _ CS => r_ldFs F_Run (i := (0 : Int)) (seg := [.int .i64 ((F_Run.at_ t1.1 (0 : Int)).f_At), .int .i64 ((F_Run.at_ t1.1 (0 : Int)).f_N)]) (CS.okR 1 _ rfl) (by kernel_rfl) hi1.1 hi1.2 (by kernel_rfl) (by kernel_rfl)) (ctx_pick [0] [0, 1, 2, 3, 4, 5, 6] C (by kernel_rfl) rfl rfl) fun a hS => ?_
    obtain ⟨hi2, hf⟩ := ite_some hf
    refine dr_take (fuel := 40) (j := 8) (v := .pointer (some (elemA v1 ((0 : Int).toNat * 2)))) (d := (some 40)) (op := (Op.indexAddr 22 (Operand.tmp 39) (Operand.const (Value.int IntKind.i64 0)))) (g := (some (3, true))) hS (by kernel_rfl) (by kernel_rfl) (fun _ CS => r_idx (i := 0) (k := .i64) (v := v1) (sz := 2) (rds_shp (C.okR 0 _ rfl)) (by kernel_rfl) (by kernel_rfl) hi2.1 hi2.2 (by kernel_rfl)) (ctx_pick [0] [0, 1, 2, 3, 4, 5, 6] C (by kernel_rfl) rfl rfl) fun a hS => ?_
    refine dr_take (fuel := 39) (j := 9) (v := .agg #[.int .i64 ((F_Run.at_ ([(⟨2, 3⟩ : S_Run), (⟨9, 1⟩ : S_Run)]) (0 : Int)).f_At), .int .i64 ((F_Run.at_ ([(⟨2, 3⟩ : S_Run), (⟨9, 1⟩ : S_Run)]) (0 : Int)).f_N)]) (d := (some 41)) (op := (Op.load 24 (Operand.tmp 40))) (g := (some (3, true))) hS (by kernel_rfl) (by kernel_rfl) (fun _ CS => r_ldFs F_Run (i := (0 : Int)) (seg := [.int .i64 ((F_Run.at_ ([(⟨2, 3⟩ : S_Run), (⟨9, 1⟩ : S_Run)]) (0 : Int)).f_At), .int .i64 ((F_Run.at_ ([(⟨2, 3⟩ : S_Run), (⟨9, 1⟩ : S_Run)]) (0 : Int)).f_N)]) (CS.okR 0 _ rfl) (by kernel_rfl) hi2.1 hi2.2 (by kernel_rfl) (by kernel_rfl)) (ctx_pick [0] [0, 1, 2, 3, 4, 5, 6] C (by kernel_rfl) rfl rfl) fun a hS => ?_
    refine dr_take (fuel := 38) (j := 10) (v := .bool ((((F_Run.at_ t1.1 (0 : Int)).f_At) == ((F_Run.at_ ([(⟨2, 3⟩ : S_Run), (⟨9, 1⟩ : S_Run)]) (0 : Int)).f_At)) && ((((F_Run.at_ t1.1 (0 : Int)).f_N) == ((F_Run.at_ ([(⟨2, 3⟩ : S_Run), (⟨9, 1⟩ : S_Run)]) (0 : Int)).f_N)) && true))) (d := (some 42)) (op := (Op.binOp BinOp.eql 24 (Operand.tmp 38) (Operand.tmp 41) 24)) (g := (some (3, true))) hS (by kernel_rfl) (by kernel_rfl) (fun _ CS => r_eqst (xs := [.int .i64 ((F_Run.at_ t1.1 (0 : Int)).f_At), .int .i64 ((F_Run.at_ t1.1 (0 : Int)).f_N)]) (ys := [.int .i64 ((F_Run.at_ ([(⟨2, 3⟩ : S_Run), (⟨9, 1⟩ : S_Run)]) (0 : Int)).f_At), .int .i64 ((F_Run.at_ ([(⟨2, 3⟩ : S_Run), (⟨9, 1⟩ : S_Run)]) (0 : Int)).f_N)]) (r := ((((F_Run.at_ t1.1 (0 : Int)).f_At) == ((F_Run.at_ ([(⟨2, 3⟩ : S_Run), (⟨9, 1⟩ : S_Run)]) (0 : Int)).f_At)) && ((((F_Run.at_ t1.1 (0 : Int)).f_N) == ((F_Run.at_ ([(⟨2, 3⟩ : S_Run), (⟨9, 1⟩ : S_Run)]) (0 : Int)).f_N)) && true))) (by kernel_rfl) (by kernel_rfl) (by kernel_rfl) (by kernel_rfl)) (ctx_pick [0] [0, 1, 2, 3, 4, 5, 6] C (by kernel_rfl) rfl rfl) fun a hS => ?_
    refine dr_pures (fuel := 36) (l' := [12, 11, 10, 9, 8, 6, 5, 7, 4, 3, 2, 1, 0]) hS (ctx_pick [0] [0, 1, 2, 3, 4, 5, 6] C (by kernel_rfl) rfl rfl) [11, 12] [1, 2, 3, 4, 5, 6, 8, 44] (m' := [(1, v1), (2, v2), (3, v3), (4, .bool t1.2.2), (5, v4), (6, .bool t2.2), (8, .bool t3.2), (44, .bool ((((F_Run.at_ t1.1 (0 : Int)).f_At) == ((F_Run.at_ ([(⟨2, 3⟩ : S_Run), (⟨9, 1⟩ : S_Run)]) (0 : Int)).f_At)) && ((((F_Run.at_ t1.1 (0 : Int)).f_N) == ((F_Run.at_ ([(⟨2, 3⟩ : S_Run), (⟨9, 1⟩ : S_Run)]) (0 : Int)).f_N)) && true)))]) (by kernel_rfl) (by kernel_rfl) (by kernel_rfl) fun a hS => ?_
    rcases Bool.eq_false_or_eq_true ((((F_Run.at_ t1.1 (0 : Int)).f_At) == ((F_Run.at_ ([(⟨2, 3⟩ : S_Run), (⟨9, 1⟩ : S_Run)]) (0 : Int)).f_At)) && ((((F_Run.at_ t1.1 (0 : Int)).f_N) == ((F_Run.at_ ([(⟨2, 3⟩ : S_Run), (⟨9, 1⟩ : S_Run)]) (0 : Int)).f_N)) && true)) with hb | hb
    · rw [hb] at hS
      have hf := opt_t hb hf
      refine dr_pures (fuel := 34) (l' := [16, 13, 12, 11, 10, 9, 8, 6, 5, 7, 4, 3, 2, 1, 0]) hS (ctx_pick [0] [0, 1, 2, 3, 4, 5, 6] C (by kernel_rfl) rfl rfl) [13, 16] [3, 4, 5, 6, 8, 44, 45, 48] (m' := [(3, v3), (4, .bool t1.2.2), (5, v4), (6, .bool t2.2), (8, .bool t3.2), (44, .bool true), (45, v2), (48, v1)]) (by kernel_rfl) (by kernel_rfl) (by kernel_rfl) fun a hS => ?_
      obtain ⟨hi3, hf⟩ := ite_some hf
      refine dr_take (fuel := 33) (j := 14) (v := .pointer (some (elemA v2 ((1 : Int).toNat * 2)))) (d := (some 46)) (op := (Op.indexAddr 22 (Operand.tmp 45) (Operand.const (Value.int IntKind.i64 1)))) (g := (some (12, true))) hS (by kernel_rfl) (by kernel_rfl) (fun _ CS => r_idx (i := 1) (k := .i64) (v := v2) (sz := 2) (rds_shp (C.okR 1 _ rfl)) (by kernel_rfl) (by kernel_rfl) hi3.1 hi3.2 (by kernel_rfl)) (ctx_pick [0] [0, 1, 2, 3, 4, 5, 6] C (by kernel_rfl) rfl rfl) fun a hS => ?_
      refine dr_take (fuel := 32) (j := 15) (v := .agg #[.int .i64 ((F_Run.at_ t1.1 (1 : Int)).f_At), .int .i64 ((F_Run.at_ t1.1 (1 : Int)).f_N)]) (d := (some 47)) (op := (Op.load 24 (Operand.tmp 46))) (g := (some (12, true))) hS (by kernel_rfl) (by kernel_rfl) (fun _ CS => r_ldFs F_Run (i := (1 : Int)) (seg := [.int .i64 ((F_Run.at_ t1.1 (1 : Int)).f_At), .int .i64 ((F_Run.at_ t1.1 (1 : Int)).f_N)]) (CS.okR 1 _ rfl) (by kernel_rfl) hi3.1 hi3.2 (by kernel_rfl) (by kernel_rfl)) (ctx_pick [0] [0, 1, 2, 3, 4, 5, 6] C (by kernel_rfl) rfl rfl) fun a hS => ?_
      obtain ⟨hi4, hf⟩ := ite_some hf
      refine dr_take (fuel := 31) (j := 17) (v := .pointer (some (elemA v1 ((1 : Int).toNat * 2)))) (d := (some 49)) (op := (Op.indexAddr 22 (Operand.tmp 48) (Operand.const (Value.int IntKind.i64 1)))) (g := (some (12, true))) hS (by kernel_rfl) (by kernel_rfl) (fun _ CS => r_idx (i := 1) (k := .i64) (v := v1) (sz := 2) (rds_shp (C.okR 0 _ rfl)) (by kernel_rfl) (by kernel_rfl) hi4.1 hi4.2 (by kernel_rfl)) (ctx_pick [0] [0, 1, 2, 3, 4, 5, 6] C (by kernel_rfl) rfl rfl) fun a hS => ?_
      refine dr_take (fuel := 30) (j := 18) (v := .agg #[.int .i64 ((F_Run.at_ ([(⟨2, 3⟩ : S_Run), (⟨9, 1⟩ : S_Run)]) (1 : Int)).f_At), .int .i64 ((F_Run.at_ ([(⟨2, 3⟩ : S_Run), (⟨9, 1⟩ : S_Run)]) (1 : Int)).f_N)]) (d := (some 50)) (op := (Op.load 24 (Operand.tmp 49))) (g := (some (12, true))) hS (by kernel_rfl) (by kernel_rfl) (fun _ CS => r_ldFs F_Run (i := (1 : Int)) (seg := [.int .i64 ((F_Run.at_ ([(⟨2, 3⟩ : S_Run), (⟨9, 1⟩ : S_Run)]) (1 : Int)).f_At), .int .i64 ((F_Run.at_ ([(⟨2, 3⟩ : S_Run), (⟨9, 1⟩ : S_Run)]) (1 : Int)).f_N)]) (CS.okR 0 _ rfl) (by kernel_rfl) hi4.1 hi4.2 (by kernel_rfl) (by kernel_rfl)) (ctx_pick [0] [0, 1, 2, 3, 4, 5, 6] C (by kernel_rfl) rfl rfl) fun a hS => ?_
      refine dr_take (fuel := 29) (j := 19) (v := .bool ((((F_Run.at_ t1.1 (1 : Int)).f_At) == ((F_Run.at_ ([(⟨2, 3⟩ : S_Run), (⟨9, 1⟩ : S_Run)]) (1 : Int)).f_At)) && ((((F_Run.at_ t1.1 (1 : Int)).f_N) == ((F_Run.at_ ([(⟨2, 3⟩ : S_Run), (⟨9, 1⟩ : S_Run)]) (1 : Int)).f_N)) && true))) (d := (some 51)) (op := (Op.binOp BinOp.eql 24 (Operand.tmp 47) (Operand.tmp 50) 24)) (g := (some (12, true))) hS (by kernel_rfl) (by kernel_rfl) (fun _ CS => r_eqst (xs := [.int .i64 ((F_Run.at_ t1.1 (1 : Int)).f_At), .int .i64 ((F_Run.at_ t1.1 (1 : Int)).f_N)]) (ys := [.int .i64 ((F_Run.at_ ([(⟨2, 3⟩ : S_Run), (⟨9, 1⟩ : S_Run)]) (1 : Int)).f_At), .int .i64 ((F_Run.at_ ([(⟨2, 3⟩ : S_Run), (⟨9, 1⟩ : S_Run)]) (1 : Int)).f_N)]) (r := ((((F_Run.at_ t1.1 (1 : Int)).f_At) == ((F_Run.at_ ([(⟨2, 3⟩ : S_Run), (⟨9, 1⟩ : S_Run)]) (1 : Int)).f_At)) && ((((F_Run.at_ t1.1 (1 : Int)).f_N) == ((F_Run.at_ ([(⟨2, 3⟩ : S_Run), (⟨9, 1⟩ : S_Run)]) (1 : Int)).f_N)) && true))) (by kernel_rfl) (by kernel_rfl) (by kernel_rfl) (by kernel_rfl)) (ctx_pick [0] [0, 1, 2, 3, 4, 5, 6] C (by kernel_rfl) rfl rfl) fun a hS => ?_
      refine dr_pures (fuel := 27) (l' := [21, 20, 19, 18, 17, 15, 14, 16, 13, 12, 11, 10, 9, 8, 6, 5, 7, 4, 3, 2, 1, 0]) hS (ctx_pick [0] [0, 1, 2, 3, 4, 5, 6] C (by kernel_rfl) rfl rfl) [20, 21] [3, 4, 5, 6, 8, 53] (m' := [(3, v3), (4, .bool t1.2.2), (5, v4), (6, .bool t2.2), (8, .bool t3.2), (53, .bool ((((F_Run.at_ t1.1 (1 : Int)).f_At) == ((F_Run.at_ ([(⟨2, 3⟩ : S_Run), (⟨9, 1⟩ : S_Run)]) (1 : Int)).f_At)) && ((((F_Run.at_ t1.1 (1 : Int)).f_N) == ((F_Run.at_ ([(⟨2, 3⟩ : S_Run), (⟨9, 1⟩ : S_Run)]) (1 : Int)).f_N)) && true)))]) (by kernel_rfl) (by kernel_rfl) (by kernel_rfl) fun a hS => ?_
      rcases Bool.eq_false_or_eq_true ((((F_Run.at_ t1.1 (1 : Int)).f_At) == ((F_Run.at_ ([(⟨2, 3⟩ : S_Run), (⟨9, 1⟩ : S_Run)]) (1 : Int)).f_At)) && ((((F_Run.at_ t1.1 (1 : Int)).f_N) == ((F_Run.at_ ([(⟨2, 3⟩ : S_Run), (⟨9, 1⟩ : S_Run)]) (1 : Int)).f_N)) && true)) with hb | hb
      · rw [hb] at hS
        have hf := opt_t hb hf
        refine dr_pures (fuel := 26) (l' := [22, 21, 20, 19, 18, 17, 15, 14, 16, 13, 12, 11, 10, 9, 8, 6, 5, 7, 4, 3, 2, 1, 0]) hS (ctx_pick [0] [0, 1, 2, 3, 4, 5, 6] C (by kernel_rfl) rfl rfl) [22] [4, 5, 6, 8, 53, 54] (m' := [(4, .bool t1.2.2), (5, v4), (6, .bool t2.2), (8, .bool t3.2), (53, .bool true), (54, v3)]) (by kernel_rfl) (by kernel_rfl) (by kernel_rfl) fun a hS => ?_
        refine dr_take (fuel := 25) (j := 23) (v := .int .i64 (t1.2.1.length : Int)) (d := (some 55)) (op := (Op.call { callee := (Callee.builtin Builtin.len), args := #[(Operand.tmp 54)], argTypes := #[22] })) (g := (some (21, true))) hS (by kernel_rfl) (by kernel_rfl) (fun _ CS => r_len (n := t1.2.1.length) (v := v3) (rds_shp (C.okR 2 _ rfl)) (by kernel_rfl) (by kernel_rfl)) (ctx_pick [0] [0, 1, 2, 3, 4, 5, 6] C (by kernel_rfl) rfl rfl) fun a hS => ?_
        refine dr_pures (fuel := 22) (l' := [26, 25, 24, 23, 22, 21, 20, 19, 18, 17, 15, 14, 16, 13, 12, 11, 10, 9, 8, 6, 5, 7, 4, 3, 2, 1, 0]) hS (ctx_pick [0] [0, 1, 2, 3, 4, 5, 6] C (by kernel_rfl) rfl rfl) [24, 25, 26] [4, 5, 6, 8, 58] (m' := [(4, .bool t1.2.2), (5, v4), (6, .bool t2.2), (8, .bool t3.2), (58, .bool ((t1.2.1.length : Int) == 0))]) (by kernel_rfl) (by kernel_rfl) (by kernel_rfl) fun a hS => ?_
        rcases Bool.eq_false_or_eq_true ((t1.2.1.length : Int) == 0) with hb | hb
        · rw [hb] at hS
          have hf := opt_t hb hf
          refine dr_pures (fuel := 19) (l' := [29, 28, 27, 26, 25, 24, 23, 22, 21, 20, 19, 18, 17, 15, 14, 16, 13, 12, 11, 10, 9, 8, 6, 5, 7, 4, 3, 2, 1, 0]) hS (ctx_pick [0] [0, 1, 2, 3, 4, 5, 6] C (by kernel_rfl) rfl rfl) [27, 28, 29] [5, 6, 8, 61] (m' := [(5, v4), (6, .bool t2.2), (8, .bool t3.2), (61, .bool t1.2.2)]) (by kernel_rfl) (by kernel_rfl) (by kernel_rfl) fun a hS => ?_
          rcases Bool.eq_false_or_eq_true t1.2.2 with hb | hb
          · rw [hb] at hS
            have hf := opt_t hb hf
            refine dr_pures (fuel := 18) (l' := [30, 29, 28, 27, 26, 25, 24, 23, 22, 21, 20, 19, 18, 17, 15, 14, 16, 13, 12, 11, 10, 9, 8, 6, 5, 7, 4, 3, 2, 1, 0]) hS (ctx_pick [0] [0, 1, 2, 3, 4, 5, 6] C (by kernel_rfl) rfl rfl) [30] [5, 6, 8, 61, 62] (m' := [(5, v4), (6, .bool t2.2), (8, .bool t3.2), (61, .bool true), (62, v4)]) (by kernel_rfl) (by kernel_rfl) (by kernel_rfl) fun a hS => ?_
            refine dr_take (fuel := 17) (j := 31) (v := .int .i64 (t2.1.length : Int)) (d := (some 63)) (op := (Op.call { callee := (Callee.builtin Builtin.len), args := #[(Operand.tmp 62)], argTypes := #[22] })) (g := (some (29, true))) hS (by kernel_rfl) (by kernel_rfl) (fun _ CS => r_len (n := t2.1.length) (v := v4) (rds_shp (C.okR 4 _ rfl)) (by kernel_rfl) (by kernel_rfl)) (ctx_pick [0] [0, 1, 2, 3, 4, 5, 6] C (by kernel_rfl) rfl rfl) fun a hS => ?_
            refine dr_pures (fuel := 14) (l' := [34, 33, 32, 31, 30, 29, 28, 27, 26, 25, 24, 23, 22, 21, 20, 19, 18, 17, 15, 14, 16, 13, 12, 11, 10, 9, 8, 6, 5, 7, 4, 3, 2, 1, 0]) hS (ctx_pick [0] [0, 1, 2, 3, 4, 5, 6] C (by kernel_rfl) rfl rfl) [32, 33, 34] [5, 6, 8, 66] (m' := [(5, v4), (6, .bool t2.2), (8, .bool t3.2), (66, .bool ((t2.1.length : Int) == 1))]) (by kernel_rfl) (by kernel_rfl) (by kernel_rfl) fun a hS => ?_
            rcases Bool.eq_false_or_eq_true ((t2.1.length : Int) == 1) with hb | hb
            · rw [hb] at hS
              have hf := opt_t hb hf
              refine dr_pures (fuel := 13) (l' := [35, 34, 33, 32, 31, 30, 29, 28, 27, 26, 25, 24, 23, 22, 21, 20, 19, 18, 17, 15, 14, 16, 13, 12, 11, 10, 9, 8, 6, 5, 7, 4, 3, 2, 1, 0]) hS (ctx_pick [0] [0, 1, 2, 3, 4, 5, 6] C (by kernel_rfl) rfl rfl) [35] [6, 8, 66, 67] (m' := [(6, .bool t2.2), (8, .bool t3.2), (66, .bool true), (67, v4)]) (by kernel_rfl) (by kernel_rfl) (by kernel_rfl) fun a hS => ?_
              obtain ⟨hi5, hf⟩ := ite_some hf
              refine dr_take (fuel := 12) (j := 36) (v := .pointer (some (elemA v4 ((0 : Int).toNat * 2)))) (d := (some 68)) (op := (Op.indexAddr 22 (Operand.tmp 67) (Operand.const (Value.int IntKind.i64 0)))) (g := (some (34, true))) hS (by kernel_rfl) (by kernel_rfl) (fun _ CS => r_idx (i := 0) (k := .i64) (v := v4) (sz := 2) (rds_shp (C.okR 4 _ rfl)) (by kernel_rfl) (by kernel_rfl) hi5.1 hi5.2 (by kernel_rfl)) (ctx_pick [0] [0, 1, 2, 3, 4, 5, 6] C (by kernel_rfl) rfl rfl) fun a hS => ?_
              refine dr_pures (fuel := 11) (l' := [37, 36, 35, 34, 33, 32, 31, 30, 29, 28, 27, 26, 25, 24, 23, 22, 21, 20, 19, 18, 17, 15, 14, 16, 13, 12, 11, 10, 9, 8, 6, 5, 7, 4, 3, 2, 1, 0]) hS (ctx_pick [0] [0, 1, 2, 3, 4, 5, 6] C (by kernel_rfl) rfl rfl) [37] [6, 8, 66, 69] (m' := [(6, .bool t2.2), (8, .bool t3.2), (66, .bool true), (69, .pointer (some ((elemA v4 ((0 : Int).toNat * 2)).add 1)))]) (by kernel_rfl) (by kernel_rfl) (by kernel_rfl) fun a hS => ?_
              refine dr_take (fuel := 10) (j := 38) (v := .int .i64 ((F_Run.at_ t2.1 (0 : Int)).f_N)) (d := (some 70)) (op := (Op.load 3 (Operand.tmp 69))) (g := (some (34, true))) hS (by kernel_rfl) (by kernel_rfl) (fun _ CS => r_ldF F_Run (i := (0 : Int)) (off := 1) (u := .int .i64 ((F_Run.at_ t2.1 (0 : Int)).f_N)) (CS.okR 4 _ rfl) (by kernel_rfl) hi5.1 hi5.2 (by decide) (by kernel_rfl) (by kernel_rfl)) (ctx_pick [0] [0, 1, 2, 3, 4, 5, 6] C (by kernel_rfl) rfl rfl) fun a hS => ?_
              refine dr_pures (fuel := 7) (l' := [41, 40, 39, 38, 37, 36, 35, 34, 33, 32, 31, 30, 29, 28, 27, 26, 25, 24, 23, 22, 21, 20, 19, 18, 17, 15, 14, 16, 13, 12, 11, 10, 9, 8, 6, 5, 7, 4, 3, 2, 1, 0]) hS (ctx_pick [0] [0, 1, 2, 3, 4, 5, 6] C (by kernel_rfl) rfl rfl) [39, 40, 41] [6, 8, 73] (m' := [(6, .bool t2.2), (8, .bool t3.2), (73, .bool (((F_Run.at_ t2.1 (0 : Int)).f_N) == 4))]) (by kernel_rfl) (by kernel_rfl) (by kernel_rfl) fun a hS => ?_
              rcases Bool.eq_false_or_eq_true (((F_Run.at_ t2.1 (0 : Int)).f_N) == 4) with hb | hb
              · rw [hb] at hS
                have hf := opt_t hb hf
                refine dr_pures (fuel := 4) (l' := [44, 43, 42, 41, 40, 39, 38, 37, 36, 35, 34, 33, 32, 31, 30, 29, 28, 27, 26, 25, 24, 23, 22, 21, 20, 19, 18, 17, 15, 14, 16, 13, 12, 11, 10, 9, 8, 6, 5, 7, 4, 3, 2, 1, 0]) hS (ctx_pick [0] [0, 1, 2, 3, 4, 5, 6] C (by kernel_rfl) rfl rfl) [42, 43, 44] [8, 76] (m' := [(8, .bool t3.2), (76, .bool t2.2)]) (by kernel_rfl) (by kernel_rfl) (by kernel_rfl) fun a hS => ?_
                rcases Bool.eq_false_or_eq_true t2.2 with hb | hb
                · rw [hb] at hS
                  have hf := opt_t hb hf
                  refine dr_pures (fuel := 0) (l' := [48, 47, 46, 45, 44, 43, 42, 41, 40, 39, 38, 37, 36, 35, 34, 33, 32, 31, 30, 29, 28, 27, 26, 25, 24, 23, 22, 21, 20, 19, 18, 17, 15, 14, 16, 13, 12, 11, 10, 9, 8, 6, 5, 7, 4, 3, 2, 1, 0]) hS (ctx_pick [0] [0, 1, 2, 3, 4, 5, 6] C (by kernel_rfl) rfl rfl) [45, 46, 47, 48] [0] (m' := [(0, .bool (!t3.2))]) (by kernel_rfl) (by kernel_rfl) (by kernel_rfl) fun a hS => ?_
                  refine dr_done (by kernel_rfl) ?_
                  refine q_then ?_
                  refine c_ret (by kernel_rfl) ?_
                  refine q_ret hS (vs := [.bool (!t3.2)]) (by kernel_rfl) ?_
                  obtain rfl := Option.some.inj hf
                  exact ⟨_, rfl, rfl, C.fr⟩
                · rw [hb] at hS
                  have hf := opt_f hb hf
                  refine dr_pures (fuel := 0) (l' := [48, 47, 46, 45, 44, 43, 42, 41, 40, 39, 38, 37, 36, 35, 34, 33, 32, 31, 30, 29, 28, 27, 26, 25, 24, 23, 22, 21, 20, 19, 18, 17, 15, 14, 16, 13, 12, 11, 10, 9, 8, 6, 5, 7, 4, 3, 2, 1, 0]) hS (ctx_pick [0] [0, 1, 2, 3, 4, 5, 6] C (by kernel_rfl) rfl rfl) [45, 46, 47, 48] [0] (m' := [(0, .bool false)]) (by kernel_rfl) (by kernel_rfl) (by kernel_rfl) fun a hS => ?_
                  refine dr_done (by kernel_rfl) ?_
                  refine q_then ?_
                  refine c_ret (by kernel_rfl) ?_
                  refine q_ret hS (vs := [.bool false]) (by kernel_rfl) ?_
                  obtain rfl := Option.some.inj hf
                  exact ⟨_, rfl, rfl, C.fr⟩
              · rw [hb] at hS
                have hf := opt_f hb hf
                refine dr_pures (fuel := 0) (l' := [48, 47, 46, 45, 44, 43, 42, 41, 40, 39, 38, 37, 36, 35, 34, 33, 32, 31, 30, 29, 28, 27, 26, 25, 24, 23, 22, 21, 20, 19, 18, 17, 15, 14, 16, 13, 12, 11, 10, 9, 8, 6, 5, 7, 4, 3, 2, 1, 0]) hS (ctx_pick [0] [0, 1, 2, 3, 4, 5, 6] C (by kernel_rfl) rfl rfl) [42, 43, 44, 45, 46, 47, 48] [0] (m' := [(0, .bool false)]) (by kernel_rfl) (by kernel_rfl) (by kernel_rfl) fun a hS => ?_
                refine dr_done (by kernel_rfl) ?_
                refine q_then ?_
                refine c_ret (by kernel_rfl) ?_
                refine q_ret hS (vs := [.bool false]) (by kernel_rfl) ?_
                obtain rfl := Option.some.inj hf
                exact ⟨_, rfl, rfl, C.fr⟩
            · rw [hb] at hS
              have hf := opt_f hb hf
              refine dr_pures (fuel := 0) (l' := [48, 47, 46, 45, 44, 43, 42, 41, 40, 39, 38, 37, 36, 35, 34, 33, 32, 31, 30, 29, 28, 27, 26, 25, 24, 23, 22, 21, 20, 19, 18, 17, 15, 14, 16, 13, 12, 11, 10, 9, 8, 6, 5, 7, 4, 3, 2, 1, 0]) hS (ctx_pick [0] [0, 1, 2, 3, 4, 5, 6] C (by kernel_rfl) rfl rfl) [35, 36, 37, 38, 39, 40, 41, 42, 43, 44, 45, 46, 47, 48] [0] (m' := [(0, .bool false)]) (by kernel_rfl) (by kernel_rfl) (by kernel_rfl) fun a hS => ?_
              refine dr_done (by kernel_rfl) ?_
              refine q_then ?_
              refine c_ret (by kernel_rfl) ?_
              refine q_ret hS (vs := [.bool false]) (by kernel_rfl) ?_
              obtain rfl := Option.some.inj hf
              exact ⟨_, rfl, rfl, C.fr⟩
          · rw [hb] at hS
            have hf := opt_f hb hf
            refine dr_pures (fuel := 0) (l' := [48, 47, 46, 45, 44, 43, 42, 41, 40, 39, 38, 37, 36, 35, 34, 33, 32, 31, 30, 29, 28, 27, 26, 25, 24, 23, 22, 21, 20, 19, 18, 17, 15, 14, 16, 13, 12, 11, 10, 9, 8, 6, 5, 7, 4, 3, 2, 1, 0]) hS (ctx_pick [0] [0, 1, 2, 3, 4, 5, 6] C (by kernel_rfl) rfl rfl) [30, 31, 32, 33, 34, 35, 36, 37, 38, 39, 40, 41, 42, 43, 44, 45, 46, 47, 48] [0] (m' := [(0, .bool false)]) (by kernel_rfl) (by kernel_rfl) (by kernel_rfl) fun a hS => ?_
            refine dr_done (by kernel_rfl) ?_
            refine q_then ?_
            refine c_ret (by kernel_rfl) ?_
            refine q_ret hS (vs := [.bool false]) (by kernel_rfl) ?_
            obtain rfl := Option.some.inj hf
            exact ⟨_, rfl, rfl, C.fr⟩
        · rw [hb] at hS
          have hf := opt_f hb hf
          refine dr_pures (fuel := 0) (l' := [48, 47, 46, 45, 44, 43, 42, 41, 40, 39, 38, 37, 36, 35, 34, 33, 32, 31, 30, 29, 28, 27, 26, 25, 24, 23, 22, 21, 20, 19, 18, 17, 15, 14, 16, 13, 12, 11, 10, 9, 8, 6, 5, 7, 4, 3, 2, 1, 0]) hS (ctx_pick [0] [0, 1, 2, 3, 4, 5, 6] C (by kernel_rfl) rfl rfl) [27, 28, 29, 30, 31, 32, 33, 34, 35, 36, 37, 38, 39, 40, 41, 42, 43, 44, 45, 46, 47, 48] [0] (m' := [(0, .bool false)]) (by kernel_rfl) (by kernel_rfl) (by kernel_rfl) fun a hS => ?_
          refine dr_done (by kernel_rfl) ?_
          refine q_then ?_
          refine c_ret (by kernel_rfl) ?_
          refine q_ret hS (vs := [.bool false]) (by kernel_rfl) ?_
          obtain rfl := Option.some.inj hf
          exact ⟨_, rfl, rfl, C.fr⟩
      · rw [hb] at hS
        have hf := opt_f hb hf
        refine dr_pures (fuel := 0) (l' := [48, 47, 46, 45, 44, 43, 42, 41, 40, 39, 38, 37, 36, 35, 34, 33, 32, 31, 30, 29, 28, 27, 26, 25, 24, 23, 22, 21, 20, 19, 18, 17, 15, 14, 16, 13, 12, 11, 10, 9, 8, 6, 5, 7, 4, 3, 2, 1, 0]) hS (ctx_pick [0] [0, 1, 2, 3, 4, 5, 6] C (by kernel_rfl) rfl rfl) [22, 23, 24, 25, 26, 27, 28, 29, 30, 31, 32, 33, 34, 35, 36, 37, 38, 39, 40, 41, 42, 43, 44, 45, 46, 47, 48] [0] (m' := [(0, .bool false)]) (by kernel_rfl) (by kernel_rfl) (by kernel_rfl) fun a hS => ?_
        refine dr_done (by kernel_rfl) ?_
        refine q_then ?_
        refine c_ret (by kernel_rfl) ?_
        refine q_ret hS (vs := [.bool false]) (by kernel_rfl) ?_
        obtain rfl := Option.some.inj hf
        exact ⟨_, rfl, rfl, C.fr⟩
    · rw [hb] at hS
      have hf := opt_f hb hf
      refine dr_pures (fuel := 0) (l' := [48, 47, 46, 45, 44, 43, 42, 41, 40, 39, 38, 37, 36, 35, 34, 33, 32, 31, 30, 29, 28, 27, 26, 25, 24, 23, 22, 21, 20, 19, 18, 17, 16, 15, 14, 13, 12, 11, 10, 9, 8, 6, 5, 7, 4, 3, 2, 1, 0]) hS (ctx_pick [0] [0, 1, 2, 3, 4, 5, 6] C (by kernel_rfl) rfl rfl) [13, 14, 15, 16, 17, 18, 19, 20, 21, 22, 23, 24, 25, 26, 27, 28, 29, 30, 31, 32, 33, 34, 35, 36, 37, 38, 39, 40, 41, 42, 43, 44, 45, 46, 47, 48] [0] (m' := [(0, .bool false)]) (by kernel_rfl) (by kernel_rfl) (by kernel_rfl) fun a hS => ?_
      refine dr_done (by kernel_rfl) ?_
      refine q_then ?_
      refine c_ret (by kernel_rfl) ?_
      refine q_ret hS (vs := [.bool false]) (by kernel_rfl) ?_
      obtain rfl := Option.some.inj hf
      exact ⟨_, rfl, rfl, C.fr⟩
  · rw [hb] at hS
    have hf := opt_f hb hf
    refine dr_pures (fuel := 0) (l' := [48, 47, 46, 45, 44, 43, 42, 41, 40, 39, 38, 37, 36, 35, 34, 33, 32, 31, 30, 29, 28, 27, 26, 25, 24, 23, 22, 21, 20, 19, 18, 17, 16, 15, 14, 13, 12, 11, 10, 9, 8, 7, 6, 5, 4, 3, 2, 1, 0]) hS (ctx_pick [0] [0, 1, 2, 3, 4, 5, 6] C (by kernel_rfl) rfl rfl) [4, 5, 6, 7, 8, 9, 10, 11, 12, 13, 14, 15, 16, 17, 18, 19, 20, 21, 22, 23, 24, 25, 26, 27, 28, 29, 30, 31, 32, 33, 34, 35, 36, 37, 38, 39, 40, 41, 42, 43, 44, 45, 46, 47, 48] [0] (m' := [(0, .bool false)]) (by kernel_rfl) (by kernel_rfl) (by kernel_rfl) fun a hS => ?_
    refine dr_done (by kernel_rfl) ?_
    refine q_then ?_
    refine c_ret (by kernel_rfl) ?_
    refine q_ret hS (vs := [.bool false]) (by kernel_rfl) ?_
    obtain rfl := Option.some.inj hf
    exact ⟨_, rfl, rfl, C.fr⟩

def scriniumlaw06_few.f (k : Nat) (p0 : (List S_Run)) : Option (List S_Run) := (if (decide ((p0.length : Int) > 20)) = true then (if (0 : Int) ≤ (20 : Int) ∧ (20 : Int) ≤ (p0.length : Int) then (some (p0.take 20)) else none) else (some p0))
theorem scriniumlaw06_few_ok (k : Nat) (w0 : World) (p0 : (List S_Run)) (v_0 : Value) (h_0 : Rds v_0 p0.length 2 (p0.flatMap F_Run.cells) w0) (res : (List S_Run)) (hf : scriniumlaw06_few.f k p0 = some res) :
    Fn Try.prog 10 [v_0] w0 (fun v w' => Fr nob w0 w' ∧ Lies w0 (allDom [rdE v_0 p0.length 2 (p0.flatMap F_Run.cells)]) F_Run v res w') := by
  have C := ctx_start w0 [rdE v_0 p0.length 2 (p0.flatMap F_Run.cells)] (start1 h_0)
  generalize allDom [rdE v_0 p0.length 2 (p0.flatMap F_Run.cells)] = A0 at C
  refine f_enter (fn := Try.f10) (k := 8) rfl rfl rfl fun a hS => ?_
  have hS : Sl 9 [(0, v_0)] a := hS
  rw [scriniumlaw06_few.f] at hf
  refine c_seq (by kernel_rfl) ?_
  refine c_region (by kernel_rfl) ?_
  refine wl_pures (j := 1) hS 1 [0] (m' := [(0, v_0)]) (by kernel_rfl) (by kernel_rfl) fun a hS => ?_
  refine wl_nil (by kernel_rfl) ?_
  refine q_then ?_
  refine c_seq (by kernel_rfl) ?_
  refine c_seq (by kernel_rfl) ?_
  refine c_region (by kernel_rfl) ?_
  refine wl_pures (j := 1) hS 1 [0, 3] (m' := [(0, v_0), (3, v_0)]) (by kernel_rfl) (by kernel_rfl) fun a hS => ?_
  refine wl_val (d := (some 4)) (op := (Op.call { callee := (Callee.builtin Builtin.len), args := #[(Operand.tmp 3)], argTypes := #[22] })) (g := none) hS (by kernel_rfl) (by kernel_rfl) (r_len (n := p0.length) (v := v_0) (rds_shp (C.okR 0 _ rfl)) (by kernel_rfl) (by kernel_rfl)) fun a hS => ?_
  refine wl_pures (j := 3) hS 1 [0, 5] (m' := [(0, v_0), (5, .bool (decide ((p0.length : Int) > 20)))]) (by kernel_rfl) (by kernel_rfl) fun a hS => ?_
  refine wl_nil (by kernel_rfl) ?_
  refine q_then ?_
  refine c_if (b := (decide ((p0.length : Int) > 20))) hS (by kernel_rfl) (by kernel_rfl) (fun hb => ?_) (fun hb => ?_)
  · have hf := opt_t hb hf
    refine c_seq (by kernel_rfl) ?_
    refine c_region (by kernel_rfl) ?_
    refine wl_pures (j := 1) hS 1 [6] (m' := [(6, v_0)]) (by kernel_rfl) (by kernel_rfl) fun a hS => ?_
    obtain ⟨hc1, hf⟩ := ite_some hf
    refine wl_val (d := (some 7)) (op := (Op.slice 22 (Operand.tmp 6) none (some (Operand.const (Value.int IntKind.i64 20))) none)) (g := none) hS (by kernel_rfl) (by kernel_rfl) (r_cut (h := 20) (l := 0) (v := v_0) (sz := 2) (rds_shp (C.okR 0 _ rfl)) (by kernel_rfl) (by kernel_rfl) (hi_ok .i64 (20 : Int) (by omega) (by omega)) (rfl)) fun a hS => ?_
    have C := got_cut (ri := 0) (F := F_Run) (l := p0) (l' := (p0.take 20)) (h := 20) (lo := 0) C rfl (cut_rds (C.okR 0 _ rfl) (by omega) (by omega)) (cut_addr _ _ _ _) (by omega) (by simp)
    refine wl_pures (j := 3) hS 1 [2] (m' := [(2, (cutV v_0 0 20 2))]) (by kernel_rfl) (by kernel_rfl) fun a hS => ?_
    refine wl_nil (by kernel_rfl) ?_
    refine q_then ?_
    refine c_ret (by kernel_rfl) ?_
    refine q_thenr ?_
    refine q_ret hS (vs := [(cutV v_0 0 20 2)]) (by kernel_rfl) ?_
    obtain rfl := Option.some.inj hf
    exact ⟨_, rfl, C.fr, ret_lies (ri := 1) C rfl rfl⟩
  · have hf := opt_f hb hf
    refine c_skip (by kernel_rfl) ?_
    refine q_then ?_
    refine c_seq (by kernel_rfl) ?_
    refine c_region (by kernel_rfl) ?_
    refine wl_pures (j := 2) hS 2 [2] (m' := [(2, v_0)]) (by kernel_rfl) (by kernel_rfl) fun a hS => ?_
    refine wl_nil (by kernel_rfl) ?_
    refine q_then ?_
    refine c_ret (by kernel_rfl) ?_
    refine q_ret hS (vs := [v_0]) (by kernel_rfl) ?_
    obtain rfl := Option.some.inj hf
    exact ⟨_, rfl, C.fr, ret_lies (ri := 0) C rfl rfl⟩

def scriniumref06_good.f (k : Nat) (p0 : S_Run) : Option Bool := (if (decide (p0.f_N ≥ 1)) = true then (if (decide (p0.f_N ≤ 65536)) = true then (if (decide (p0.f_At ≥ 0)) = true then (if (decide (p0.f_At ≤ 65535)) = true then (some (decide ((W64 (p0.f_At + p0.f_N)) ≤ 65536))) else (some false)) else (some false)) else (some false)) else (some false))
theorem scriniumref06_good_ok (k : Nat) (w0 : World) (p0 : S_Run)   (res : Bool) (hf : scriniumref06_good.f k p0 = some res) :
    Fn Try.prog 35 [.agg #[.int .i64 p0.f_At, .int .i64 p0.f_N]] w0 (fun v w' => v = .bool res ∧ Fr nob w0 w') := by
  have C := ctx_start w0 [] (by simp)
  generalize allDom [] = A0 at C
  refine f_enter (fn := Try.f35) (k := 28) rfl rfl rfl fun a hS => ?_
  have hS : Sl 29 [(0, .agg #[.int .i64 p0.f_At, .int .i64 p0.f_N])] a := hS
  rw [scriniumref06_good.f] at hf
  refine c_seq (by kernel_rfl) ?_
  refine c_region (by kernel_rfl) ?_
  refine wl_eff (d := (some 1)) (op := (Op.box 24 (Operand.tmp 0))) (g := none) hS (by kernel_rfl) (by kernel_rfl) (eff_box C (cs := [.int .i64 p0.f_At, .int .i64 p0.f_N]) (by kernel_rfl)) ?_
  rintro _ _ ⟨b1, rfl, C⟩ a hS
  refine wl_pures (j := 2) hS 1 [1] (m' := [(1, .pointer (some ⟨b1, 0, none⟩))]) (by kernel_rfl) (by kernel_rfl) fun a hS => ?_
  refine wl_nil (by kernel_rfl) ?_
  refine q_then ?_
  refine c_seq (by kernel_rfl) ?_
  refine c_region (by kernel_rfl) ?_
  refine wl_pures (j := 1) hS 1 [1, 3] (m' := [(1, .pointer (some ⟨b1, 0, none⟩)), (3, .pointer (some ⟨b1, 1, none⟩))]) (by kernel_rfl) (by kernel_rfl) fun a hS => ?_
  refine wl_val (d := (some 4)) (op := (Op.load 3 (Operand.tmp 3))) (g := none) hS (by kernel_rfl) (by kernel_rfl) (r_ldb (li := 0) (off := 1) (u := .int .i64 p0.f_N) C rfl (by kernel_rfl) (by kernel_rfl) (by kernel_rfl)) fun a hS => ?_
  refine wl_pures (j := 4) hS 2 [1, 6] (m' := [(1, .pointer (some ⟨b1, 0, none⟩)), (6, .bool (decide (p0.f_N ≥ 1)))]) (by kernel_rfl) (by kernel_rfl) fun a hS => ?_
  rcases Bool.eq_false_or_eq_true (decide (p0.f_N ≥ 1)) with hb | hb
  · rw [hb] at hS
    have hf := opt_t hb hf
    refine wl_pures (j := 5) hS 1 [1, 6, 7] (m' := [(1, .pointer (some ⟨b1, 0, none⟩)), (6, .bool true), (7, .pointer (some ⟨b1, 1, none⟩))]) (by kernel_rfl) (by kernel_rfl) fun a hS => ?_
    refine wl_val (d := (some 8)) (op := (Op.load 3 (Operand.tmp 7))) (g := (some (3, true))) hS (by kernel_rfl) (by kernel_rfl) (r_ldb (li := 0) (off := 1) (u := .int .i64 p0.f_N) C rfl (by kernel_rfl) (by kernel_rfl) (by kernel_rfl)) fun a hS => ?_
    refine wl_pures (j := 9) hS 3 [1, 11] (m' := [(1, .pointer (some ⟨b1, 0, none⟩)), (11, .bool (decide (p0.f_N ≤ 65536)))]) (by kernel_rfl) (by kernel_rfl) fun a hS => ?_
    rcases Bool.eq_false_or_eq_true (decide (p0.f_N ≤ 65536)) with hb | hb
    · rw [hb] at hS
      have hf := opt_t hb hf
      refine wl_pures (j := 10) hS 1 [1, 11, 12] (m' := [(1, .pointer (some ⟨b1, 0, none⟩)), (11, .bool true), (12, .pointer (some ⟨b1, 0, none⟩))]) (by kernel_rfl) (by kernel_rfl) fun a hS => ?_
      refine wl_val (d := (some 13)) (op := (Op.load 3 (Operand.tmp 12))) (g := (some (8, true))) hS (by kernel_rfl) (by kernel_rfl) (r_ldb (li := 0) (off := 0) (u := .int .i64 p0.f_At) C rfl (by kernel_rfl) (by kernel_rfl) (by kernel_rfl)) fun a hS => ?_
      refine wl_pures (j := 14) hS 3 [1, 16] (m' := [(1, .pointer (some ⟨b1, 0, none⟩)), (16, .bool (decide (p0.f_At ≥ 0)))]) (by kernel_rfl) (by kernel_rfl) fun a hS => ?_
      rcases Bool.eq_false_or_eq_true (decide (p0.f_At ≥ 0)) with hb | hb
      · rw [hb] at hS
        have hf := opt_t hb hf
        refine wl_pures (j := 15) hS 1 [1, 16, 17] (m' := [(1, .pointer (some ⟨b1, 0, none⟩)), (16, .bool true), (17, .pointer (some ⟨b1, 0, none⟩))]) (by kernel_rfl) (by kernel_rfl) fun a hS => ?_
        refine wl_val (d := (some 18)) (op := (Op.load 3 (Operand.tmp 17))) (g := (some (13, true))) hS (by kernel_rfl) (by kernel_rfl) (r_ldb (li := 0) (off := 0) (u := .int .i64 p0.f_At) C rfl (by kernel_rfl) (by kernel_rfl) (by kernel_rfl)) fun a hS => ?_
        refine wl_pures (j := 19) hS 3 [1, 21] (m' := [(1, .pointer (some ⟨b1, 0, none⟩)), (21, .bool (decide (p0.f_At ≤ 65535)))]) (by kernel_rfl) (by kernel_rfl) fun a hS => ?_
        rcases Bool.eq_false_or_eq_true (decide (p0.f_At ≤ 65535)) with hb | hb
        · rw [hb] at hS
          have hf := opt_t hb hf
          refine wl_pures (j := 20) hS 1 [1, 21, 22] (m' := [(1, .pointer (some ⟨b1, 0, none⟩)), (21, .bool true), (22, .pointer (some ⟨b1, 0, none⟩))]) (by kernel_rfl) (by kernel_rfl) fun a hS => ?_
          refine wl_val (d := (some 23)) (op := (Op.load 3 (Operand.tmp 22))) (g := (some (18, true))) hS (by kernel_rfl) (by kernel_rfl) (r_ldb (li := 0) (off := 0) (u := .int .i64 p0.f_At) C rfl (by kernel_rfl) (by kernel_rfl) (by kernel_rfl)) fun a hS => ?_
          refine wl_pures (j := 22) hS 1 [21, 23, 24] (m' := [(21, .bool true), (23, .int .i64 p0.f_At), (24, .pointer (some ⟨b1, 1, none⟩))]) (by kernel_rfl) (by kernel_rfl) fun a hS => ?_
          refine wl_val (d := (some 25)) (op := (Op.load 3 (Operand.tmp 24))) (g := (some (18, true))) hS (by kernel_rfl) (by kernel_rfl) (r_ldb (li := 0) (off := 1) (u := .int .i64 p0.f_N) C rfl (by kernel_rfl) (by kernel_rfl) (by kernel_rfl)) fun a hS => ?_
          refine wl_pures (j := 27) hS 4 [2] (m' := [(2, .bool (decide ((W64 (p0.f_At + p0.f_N)) ≤ 65536)))]) (by kernel_rfl) (by kernel_rfl) fun a hS => ?_
          refine wl_nil (by kernel_rfl) ?_
          refine q_then ?_
          refine c_ret (by kernel_rfl) ?_
          refine q_ret hS (vs := [.bool (decide ((W64 (p0.f_At + p0.f_N)) ≤ 65536))]) (by kernel_rfl) ?_
          obtain rfl := Option.some.inj hf
          exact ⟨_, rfl, rfl, C.fr⟩
        · rw [hb] at hS
          have hf := opt_f hb hf
          refine wl_pures (j := 27) hS 8 [2] (m' := [(2, .bool false)]) (by kernel_rfl) (by kernel_rfl) fun a hS => ?_
          refine wl_nil (by kernel_rfl) ?_
          refine q_then ?_
          refine c_ret (by kernel_rfl) ?_
          refine q_ret hS (vs := [.bool false]) (by kernel_rfl) ?_
          obtain rfl := Option.some.inj hf
          exact ⟨_, rfl, rfl, C.fr⟩
      · rw [hb] at hS
        have hf := opt_f hb hf
        refine wl_pures (j := 27) hS 13 [2] (m' := [(2, .bool false)]) (by kernel_rfl) (by kernel_rfl) fun a hS => ?_
        refine wl_nil (by kernel_rfl) ?_
        refine q_then ?_
        refine c_ret (by kernel_rfl) ?_
        refine q_ret hS (vs := [.bool false]) (by kernel_rfl) ?_
        obtain rfl := Option.some.inj hf
        exact ⟨_, rfl, rfl, C.fr⟩
    · rw [hb] at hS
      have hf := opt_f hb hf
      refine wl_pures (j := 27) hS 18 [2] (m' := [(2, .bool false)]) (by kernel_rfl) (by kernel_rfl) fun a hS => ?_
      refine wl_nil (by kernel_rfl) ?_
      refine q_then ?_
      refine c_ret (by kernel_rfl) ?_
      refine q_ret hS (vs := [.bool false]) (by kernel_rfl) ?_
      obtain rfl := Option.some.inj hf
      exact ⟨_, rfl, rfl, C.fr⟩
  · rw [hb] at hS
    have hf := opt_f hb hf
    refine wl_pures (j := 27) hS 23 [2] (m' := [(2, .bool false)]) (by kernel_rfl) (by kernel_rfl) fun a hS => ?_
    refine wl_nil (by kernel_rfl) ?_
    refine q_then ?_
    refine c_ret (by kernel_rfl) ?_
    refine q_ret hS (vs := [.bool false]) (by kernel_rfl) ?_
    obtain rfl := Option.some.inj hf
    exact ⟨_, rfl, rfl, C.fr⟩

def scriniumref06_Files.l1 (p0 : (List S_Run)) : Nat → Int → Option Bool
  | 0, _ => none
  | kk1 + 1, x4 => (if (decide (x4 < (p0.length : Int))) = true then (if 0 ≤ x4 ∧ x4 < (p0.length : Int) then ((scriniumref06_good.f kk1 (F_Run.at_ p0 x4)).bind fun t1 => (if (!t1) = true then (some false) else (scriniumref06_Files.l1 p0 kk1) (W64 (x4 + 1)))) else none) else (some true))
def scriniumref06_Files.f (k : Nat) (p0 : (List S_Run)) : Option Bool := scriniumref06_Files.l1 p0 k 0
theorem scriniumref06_Files_ok (k : Nat) (w0 : World) (p0 : (List S_Run)) (v_0 : Value) (h_0 : Rds v_0 p0.length 2 (p0.flatMap F_Run.cells) w0) (res : Bool) (hf : scriniumref06_Files.f k p0 = some res) :
    Fn Try.prog 39 [v_0] w0 (fun v w' => v = .bool res ∧ Fr nob w0 w') := by
  have C := ctx_start w0 [rdE v_0 p0.length 2 (p0.flatMap F_Run.cells)] (start1 h_0)
  generalize allDom [rdE v_0 p0.length 2 (p0.flatMap F_Run.cells)] = A0 at C
  refine f_enter (fn := Try.f39) (k := 17) rfl rfl rfl fun a hS => ?_
  have hS : Sl 18 [(0, v_0)] a := hS
  rw [scriniumref06_Files.f] at hf
  refine c_seq (by kernel_rfl) ?_
  refine c_region (by kernel_rfl) ?_
  refine wl_pures (j := 1) hS 1 [0] (m' := [(0, v_0)]) (by kernel_rfl) (by kernel_rfl) fun a hS => ?_
  refine wl_nil (by kernel_rfl) ?_
  refine q_then ?_
  refine c_seq (by kernel_rfl) ?_
  refine c_seq (by kernel_rfl) ?_
  refine c_region (by kernel_rfl) ?_
  refine wl_pures (j := 1) hS 1 [0, 3] (m' := [(0, v_0), (3, .int .i64 0)]) (by kernel_rfl) (by kernel_rfl) fun a hS => ?_
  refine wl_nil (by kernel_rfl) ?_
  refine q_then ?_
  refine c_block (i := 0) (by kernel_rfl) ?_
  refine c_loop (by kernel_rfl) (fun kk1 a w => ∃ x4 : Int, scriniumref06_Files.l1 p0 kk1 x4 = some res ∧ Sl 18 [(0, v_0), (3, .int .i64 x4)] a ∧ Ctx w0 nob A0 [] [rdE v_0 p0.length 2 (p0.flatMap F_Run.cells)] w) k ⟨0, hf, hS.keep [0, 3] (by kernel_rfl), ctx_pick [] [0] C (by kernel_rfl) rfl rfl⟩ ?_
  rintro kk1 a w ⟨x4, hf, hS, C⟩
  cases kk1 with
  | zero => exact no_none hf
  | succ kk1 =>
    rw [scriniumref06_Files.l1] at hf
    refine c_seq (by kernel_rfl) ?_
    refine c_seq (by kernel_rfl) ?_
    refine c_region (by kernel_rfl) ?_
    refine wl_pures (j := 2) hS 2 [0, 3, 5, 6] (m' := [(0, v_0), (3, .int .i64 x4), (5, .int .i64 x4), (6, v_0)]) (by kernel_rfl) (by kernel_rfl) fun a hS => ?_
    refine wl_val (d := (some 7)) (op := (Op.call { callee := (Callee.builtin Builtin.len), args := #[(Operand.tmp 6)], argTypes := #[22] })) (g := none) hS (by kernel_rfl) (by kernel_rfl) (r_len (n := p0.length) (v := v_0) (rds_shp (C.okR 0 _ rfl)) (by kernel_rfl) (by kernel_rfl)) fun a hS => ?_
    refine wl_pures (j := 4) hS 1 [0, 3, 8] (m' := [(0, v_0), (3, .int .i64 x4), (8, .bool (decide (x4 < (p0.length : Int))))]) (by kernel_rfl) (by kernel_rfl) fun a hS => ?_
    refine wl_nil (by kernel_rfl) ?_
    refine q_then ?_
    refine c_if (b := (decide (x4 < (p0.length : Int)))) hS (by kernel_rfl) (by kernel_rfl) (fun hb => ?_) (fun hb => ?_)
    · have hf := opt_t hb hf
      refine c_skip (by kernel_rfl) ?_
      refine q_then ?_
      refine c_seq (by kernel_rfl) ?_
      refine c_block (i := 1) (by kernel_rfl) ?_
      refine c_seq (by kernel_rfl) ?_
      refine c_region (by kernel_rfl) ?_
      refine wl_pures (j := 2) hS 2 [0, 3, 11, 12] (m' := [(0, v_0), (3, .int .i64 x4), (11, v_0), (12, .int .i64 x4)]) (by kernel_rfl) (by kernel_rfl) fun a hS => ?_
      obtain ⟨hi1, hf⟩ := ite_some hf
      refine wl_val (d := (some 13)) (op := (Op.indexAddr 22 (Operand.tmp 11) (Operand.tmp 12))) (g := none) hS (by kernel_rfl) (by kernel_rfl) (r_idx (i := x4) (k := .i64) (v := v_0) (sz := 2) (rds_shp (C.okR 0 _ rfl)) (by kernel_rfl) (by kernel_rfl) hi1.1 hi1.2 (by kernel_rfl)) fun a hS => ?_
      refine wl_val (d := (some 14)) (op := (Op.load 24 (Operand.tmp 13))) (g := none) hS (by kernel_rfl) (by kernel_rfl) (r_ldFs F_Run (i := x4) (seg := [.int .i64 ((F_Run.at_ p0 x4).f_At), .int .i64 ((F_Run.at_ p0 x4).f_N)]) (C.okR 0 _ rfl) (by kernel_rfl) hi1.1 hi1.2 (by kernel_rfl) (by kernel_rfl)) fun a hS => ?_
      obtain ⟨t1, ht1, hf⟩ := bind_some hf
      refine wl_eff (d := (some 15)) (op := (Op.call { callee := (Callee.value (Operand.func 35)), args := #[(Operand.tmp 14)], argTypes := #[24] })) (g := none) hS (by kernel_rfl) (by kernel_rfl) (eff_fn (by kernel_rfl) rfl (by kernel_rfl) (scriniumref06_good_ok kk1 _ (F_Run.at_ p0 x4) t1 ht1)) ?_
      rintro _ _ ⟨rfl, hw⟩ a hS
      have C := ctx_still C hw
      refine wl_pures (j := 6) hS 1 [0, 3, 4] (m' := [(0, v_0), (3, .int .i64 x4), (4, .bool t1)]) (by kernel_rfl) (by kernel_rfl) fun a hS => ?_
      refine wl_nil (by kernel_rfl) ?_
      refine q_then ?_
      refine c_seq (by kernel_rfl) ?_
      refine c_region (by kernel_rfl) ?_
      refine wl_pures (j := 2) hS 2 [0, 3, 17] (m' := [(0, v_0), (3, .int .i64 x4), (17, .bool (!t1))]) (by kernel_rfl) (by kernel_rfl) fun a hS => ?_
      refine wl_nil (by kernel_rfl) ?_
      refine q_then ?_
      refine c_if (b := (!t1)) hS (by kernel_rfl) (by kernel_rfl) (fun hb => ?_) (fun hb => ?_)
      · have hf := opt_t hb hf
        refine c_seq (by kernel_rfl) ?_
        refine c_region (by kernel_rfl) ?_
        refine wl_pures (j := 1) hS 1 [2] (m' := [(2, .bool false)]) (by kernel_rfl) (by kernel_rfl) fun a hS => ?_
        refine wl_nil (by kernel_rfl) ?_
        refine q_then ?_
        refine c_ret (by kernel_rfl) ?_
        refine q_inr ?_
        refine q_thenr ?_
        refine q_thenr ?_
        refine q_inr ?_
        refine q_thenr ?_
        refine q_ret hS (vs := [.bool false]) (by kernel_rfl) ?_
        obtain rfl := Option.some.inj hf
        exact ⟨_, rfl, rfl, C.fr⟩
      · have hf := opt_f hb hf
        refine c_skip (by kernel_rfl) ?_
        refine q_in ?_
        refine q_then ?_
        refine c_region (by kernel_rfl) ?_
        refine wl_pures (j := 3) hS 3 [0, 3] (m' := [(0, v_0), (3, .int .i64 (W64 (x4 + 1)))]) (by kernel_rfl) (by kernel_rfl) fun a hS => ?_
        refine wl_nil (by kernel_rfl) ?_
        exact q_then ⟨kk1, Nat.lt_succ_self kk1, (W64 (x4 + 1)), hf, hS.keep [0, 3] (by kernel_rfl), ctx_pick [] [0] C (by kernel_rfl) rfl rfl⟩
    · have hf := opt_f hb hf
      refine c_exit (i := 0) (by kernel_rfl) ?_
      refine q_thenx ?_
      refine q_thenx ?_
      refine q_inx ?_
      refine q_then ?_
      refine c_seq (by kernel_rfl) ?_
      refine c_region (by kernel_rfl) ?_
      refine wl_pures (j := 1) hS 1 [2] (m' := [(2, .bool true)]) (by kernel_rfl) (by kernel_rfl) fun a hS => ?_
      refine wl_nil (by kernel_rfl) ?_
      refine q_then ?_
      refine c_ret (by kernel_rfl) ?_
      refine q_ret hS (vs := [.bool true]) (by kernel_rfl) ?_
      obtain rfl := Option.some.inj hf
      exact ⟨_, rfl, rfl, C.fr⟩

def scriniumref06_Check.l1 (p0 : (List S_Run)) : Nat → Int → Option Int
  | 0, _ => none
  | kk1 + 1, x4 => (if (decide (x4 < (p0.length : Int))) = true then (if 0 ≤ (W64 (x4 - 1)) ∧ (W64 (x4 - 1)) < (p0.length : Int) then (if 0 ≤ (W64 (x4 - 1)) ∧ (W64 (x4 - 1)) < (p0.length : Int) then (if 0 ≤ x4 ∧ x4 < (p0.length : Int) then (if (decide ((W64 (((F_Run.at_ p0 (W64 (x4 - 1))).f_At) + ((F_Run.at_ p0 (W64 (x4 - 1))).f_N))) ≥ ((F_Run.at_ p0 x4).f_At))) = true then (some 1) else (scriniumref06_Check.l1 p0 kk1) (W64 (x4 + 1))) else none) else none) else none) else (some 0))
def scriniumref06_Check.f (k : Nat) (p0 : (List S_Run)) : Option Int := ((scriniumref06_Files.f k p0).bind fun t1 => (if (!t1) = true then (some 1) else scriniumref06_Check.l1 p0 k 1))
theorem scriniumref06_Check_ok (k : Nat) (w0 : World) (p0 : (List S_Run)) (v_0 : Value) (h_0 : Rds v_0 p0.length 2 (p0.flatMap F_Run.cells) w0) (res : Int) (hf : scriniumref06_Check.f k p0 = some res) :
    Fn Try.prog 29 [v_0] w0 (fun v w' => v = .int .i64 res ∧ Fr nob w0 w') := by
  have C := ctx_start w0 [rdE v_0 p0.length 2 (p0.flatMap F_Run.cells)] (start1 h_0)
  generalize allDom [rdE v_0 p0.length 2 (p0.flatMap F_Run.cells)] = A0 at C
  refine f_enter (fn := Try.f29) (k := 33) rfl rfl rfl fun a hS => ?_
  have hS : Sl 34 [(0, v_0)] a := hS
  rw [scriniumref06_Check.f] at hf
  refine c_seq (by kernel_rfl) ?_
  refine c_region (by kernel_rfl) ?_
  refine wl_pures (j := 1) hS 1 [0] (m' := [(0, v_0)]) (by kernel_rfl) (by kernel_rfl) fun a hS => ?_
  refine wl_nil (by kernel_rfl) ?_
  refine q_then ?_
  refine c_seq (by kernel_rfl) ?_
  refine c_region (by kernel_rfl) ?_
  refine wl_pures (j := 1) hS 1 [0, 5] (m' := [(0, v_0), (5, v_0)]) (by kernel_rfl) (by kernel_rfl) fun a hS => ?_
  obtain ⟨t1, ht1, hf⟩ := bind_some hf
  refine wl_eff (d := (some 6)) (op := (Op.call { callee := (Callee.value (Operand.func 39)), args := #[(Operand.tmp 5)], argTypes := #[22] })) (g := none) hS (by kernel_rfl) (by kernel_rfl) (eff_fn (by kernel_rfl) rfl (by kernel_rfl) (scriniumref06_Files_ok k _ p0 v_0 (C.okR 0 _ rfl) t1 ht1)) ?_
  rintro _ _ ⟨rfl, hw⟩ a hS
  have C := ctx_still C hw
  refine wl_pures (j := 3) hS 1 [0, 3] (m' := [(0, v_0), (3, .bool t1)]) (by kernel_rfl) (by kernel_rfl) fun a hS => ?_
  refine wl_nil (by kernel_rfl) ?_
  refine q_then ?_
  refine c_seq (by kernel_rfl) ?_
  refine c_seq (by kernel_rfl) ?_
  refine c_region (by kernel_rfl) ?_
  refine wl_pures (j := 2) hS 2 [0, 8] (m' := [(0, v_0), (8, .bool (!t1))]) (by kernel_rfl) (by kernel_rfl) fun a hS => ?_
  refine wl_nil (by kernel_rfl) ?_
  refine q_then ?_
  refine c_if (b := (!t1)) hS (by kernel_rfl) (by kernel_rfl) (fun hb => ?_) (fun hb => ?_)
  · have hf := opt_t hb hf
    refine c_seq (by kernel_rfl) ?_
    refine c_region (by kernel_rfl) ?_
    refine wl_pures (j := 1) hS 1 [2] (m' := [(2, .int .i64 1)]) (by kernel_rfl) (by kernel_rfl) fun a hS => ?_
    refine wl_nil (by kernel_rfl) ?_
    refine q_then ?_
    refine c_ret (by kernel_rfl) ?_
    refine q_thenr ?_
    refine q_ret hS (vs := [.int .i64 1]) (by kernel_rfl) ?_
    obtain rfl := Option.some.inj hf
    exact ⟨_, rfl, rfl, C.fr⟩
  · have hf := opt_f hb hf
    refine c_skip (by kernel_rfl) ?_
    refine q_then ?_
    refine c_seq (by kernel_rfl) ?_
    refine c_seq (by kernel_rfl) ?_
    refine c_region (by kernel_rfl) ?_
    refine wl_pures (j := 1) hS 1 [0, 4] (m' := [(0, v_0), (4, .int .i64 1)]) (by kernel_rfl) (by kernel_rfl) fun a hS => ?_
    refine wl_nil (by kernel_rfl) ?_
    refine q_then ?_
    refine c_block (i := 0) (by kernel_rfl) ?_
    refine c_loop (by kernel_rfl) (fun kk1 a w => ∃ x4 : Int, scriniumref06_Check.l1 p0 kk1 x4 = some res ∧ Sl 34 [(0, v_0), (4, .int .i64 x4)] a ∧ Ctx w0 nob A0 [] [rdE v_0 p0.length 2 (p0.flatMap F_Run.cells)] w) k ⟨1, hf, hS.keep [0, 4] (by kernel_rfl), ctx_pick [] [0] C (by kernel_rfl) rfl rfl⟩ ?_
    rintro kk1 a w ⟨x4, hf, hS, C⟩
    cases kk1 with
    | zero => exact no_none hf
    | succ kk1 =>
      rw [scriniumref06_Check.l1] at hf
      refine c_seq (by kernel_rfl) ?_
      refine c_seq (by kernel_rfl) ?_
      refine c_region (by kernel_rfl) ?_
      refine wl_pures (j := 2) hS 2 [0, 4, 9, 10] (m' := [(0, v_0), (4, .int .i64 x4), (9, .int .i64 x4), (10, v_0)]) (by kernel_rfl) (by kernel_rfl) fun a hS => ?_
      refine wl_val (d := (some 11)) (op := (Op.call { callee := (Callee.builtin Builtin.len), args := #[(Operand.tmp 10)], argTypes := #[22] })) (g := none) hS (by kernel_rfl) (by kernel_rfl) (r_len (n := p0.length) (v := v_0) (rds_shp (C.okR 0 _ rfl)) (by kernel_rfl) (by kernel_rfl)) fun a hS => ?_
      refine wl_pures (j := 4) hS 1 [0, 4, 12] (m' := [(0, v_0), (4, .int .i64 x4), (12, .bool (decide (x4 < (p0.length : Int))))]) (by kernel_rfl) (by kernel_rfl) fun a hS => ?_
      refine wl_nil (by kernel_rfl) ?_
      refine q_then ?_
      refine c_if (b := (decide (x4 < (p0.length : Int)))) hS (by kernel_rfl) (by kernel_rfl) (fun hb => ?_) (fun hb => ?_)
      · have hf := opt_t hb hf
        refine c_skip (by kernel_rfl) ?_
        refine q_then ?_
        refine c_seq (by kernel_rfl) ?_
        refine c_block (i := 1) (by kernel_rfl) ?_
        refine c_seq (by kernel_rfl) ?_
        refine c_drawsC [] [0] 19 C (by kernel_rfl) (by kernel_rfl) (by kernel_rfl) (N := 19) (by kernel_rfl) (by kernel_rfl) fun _ C => ?_
        refine dr_pures (fuel := 11) (l' := [14, 13, 8, 7, 6, 2, 1, 0]) hS (ctx_pick [] [0] C (by kernel_rfl) rfl rfl) [0, 1, 2, 6, 7, 8, 13, 14] [0, 4, 15, 17, 21, 23, 28, 29] (m' := [(0, v_0), (4, .int .i64 x4), (15, v_0), (17, .int .i64 (W64 (x4 - 1))), (21, v_0), (23, .int .i64 (W64 (x4 - 1))), (28, v_0), (29, .int .i64 x4)]) (by kernel_rfl) (by kernel_rfl) (by kernel_rfl) fun a hS => ?_
        obtain ⟨hi1, hf⟩ := ite_some hf
        refine dr_take (fuel := 10) (j := 3) (v := .pointer (some (elemA v_0 ((W64 (x4 - 1)).toNat * 2)))) (d := (some 18)) (op := (Op.indexAddr 22 (Operand.tmp 15) (Operand.tmp 17))) (g := none) hS (by kernel_rfl) (by kernel_rfl) (fun _ CS => r_idx (i := (W64 (x4 - 1))) (k := .i64) (v := v_0) (sz := 2) (rds_shp (C.okR 0 _ rfl)) (by kernel_rfl) (by kernel_rfl) hi1.1 hi1.2 (by kernel_rfl)) (ctx_pick [] [0] C (by kernel_rfl) rfl rfl) fun a hS => ?_
        refine dr_pures (fuel := 9) (l' := [4, 3, 14, 13, 8, 7, 6, 2, 1, 0]) hS (ctx_pick [] [0] C (by kernel_rfl) rfl rfl) [4] [0, 4, 19, 21, 23, 28, 29] (m' := [(0, v_0), (4, .int .i64 x4), (19, .pointer (some ((elemA v_0 ((W64 (x4 - 1)).toNat * 2)).add 0))), (21, v_0), (23, .int .i64 (W64 (x4 - 1))), (28, v_0), (29, .int .i64 x4)]) (by kernel_rfl) (by kernel_rfl) (by kernel_rfl) fun a hS => ?_
        refine dr_take (fuel := 8) (j := 5) (v := .int .i64 ((F_Run.at_ p0 (W64 (x4 - 1))).f_At)) (d := (some 20)) (op := (Op.load 3 (Operand.tmp 19))) (g := none) hS (by kernel_rfl) (by kernel_rfl) (fun _ CS => r_ldF F_Run (i := (W64 (x4 - 1))) (off := 0) (u := .int .i64 ((F_Run.at_ p0 (W64 (x4 - 1))).f_At)) (CS.okR 0 _ rfl) (by kernel_rfl) hi1.1 hi1.2 (by decide) (by kernel_rfl) (by kernel_rfl)) (ctx_pick [] [0] C (by kernel_rfl) rfl rfl) fun a hS => ?_
        obtain ⟨hi2, hf⟩ := ite_some hf
        refine dr_take (fuel := 7) (j := 9) (v := .pointer (some (elemA v_0 ((W64 (x4 - 1)).toNat * 2)))) (d := (some 24)) (op := (Op.indexAddr 22 (Operand.tmp 21) (Operand.tmp 23))) (g := none) hS (by kernel_rfl) (by kernel_rfl) (fun _ CS => r_idx (i := (W64 (x4 - 1))) (k := .i64) (v := v_0) (sz := 2) (rds_shp (C.okR 0 _ rfl)) (by kernel_rfl) (by kernel_rfl) hi2.1 hi2.2 (by kernel_rfl)) (ctx_pick [] [0] C (by kernel_rfl) rfl rfl) fun a hS => ?_
        refine dr_pures (fuel := 6) (l' := [10, 9, 5, 4, 3, 14, 13, 8, 7, 6, 2, 1, 0]) hS (ctx_pick [] [0] C (by kernel_rfl) rfl rfl) [10] [0, 4, 20, 25, 28, 29] (m' := [(0, v_0), (4, .int .i64 x4), (20, .int .i64 ((F_Run.at_ p0 (W64 (x4 - 1))).f_At)), (25, .pointer (some ((elemA v_0 ((W64 (x4 - 1)).toNat * 2)).add 1))), (28, v_0), (29, .int .i64 x4)]) (by kernel_rfl) (by kernel_rfl) (by kernel_rfl) fun a hS => ?_
        refine dr_take (fuel := 5) (j := 11) (v := .int .i64 ((F_Run.at_ p0 (W64 (x4 - 1))).f_N)) (d := (some 26)) (op := (Op.load 3 (Operand.tmp 25))) (g := none) hS (by kernel_rfl) (by kernel_rfl) (fun _ CS => r_ldF F_Run (i := (W64 (x4 - 1))) (off := 1) (u := .int .i64 ((F_Run.at_ p0 (W64 (x4 - 1))).f_N)) (CS.okR 0 _ rfl) (by kernel_rfl) hi2.1 hi2.2 (by decide) (by kernel_rfl) (by kernel_rfl)) (ctx_pick [] [0] C (by kernel_rfl) rfl rfl) fun a hS => ?_
        refine dr_pures (fuel := 4) (l' := [12, 11, 10, 9, 5, 4, 3, 14, 13, 8, 7, 6, 2, 1, 0]) hS (ctx_pick [] [0] C (by kernel_rfl) rfl rfl) [12] [0, 4, 27, 28, 29] (m' := [(0, v_0), (4, .int .i64 x4), (27, .int .i64 (W64 (((F_Run.at_ p0 (W64 (x4 - 1))).f_At) + ((F_Run.at_ p0 (W64 (x4 - 1))).f_N)))), (28, v_0), (29, .int .i64 x4)]) (by kernel_rfl) (by kernel_rfl) (by kernel_rfl) fun a hS => ?_
        obtain ⟨hi3, hf⟩ := ite_some hf
        refine dr_take (fuel := 3) (j := 15) (v := .pointer (some (elemA v_0 (x4.toNat * 2)))) (d := (some 30)) (op := (Op.indexAddr 22 (Operand.tmp 28) (Operand.tmp 29))) (g := none) hS (by kernel_rfl) (by kernel_rfl) (fun _ CS => r_idx (i := x4) (k := .i64) (v := v_0) (sz := 2) (rds_shp (C.okR 0 _ rfl)) (by kernel_rfl) (by kernel_rfl) hi3.1 hi3.2 (by kernel_rfl)) (ctx_pick [] [0] C (by kernel_rfl) rfl rfl) fun a hS => ?_
        refine dr_pures (fuel := 2) (l' := [16, 15, 12, 11, 10, 9, 5, 4, 3, 14, 13, 8, 7, 6, 2, 1, 0]) hS (ctx_pick [] [0] C (by kernel_rfl) rfl rfl) [16] [0, 4, 27, 31] (m' := [(0, v_0), (4, .int .i64 x4), (27, .int .i64 (W64 (((F_Run.at_ p0 (W64 (x4 - 1))).f_At) + ((F_Run.at_ p0 (W64 (x4 - 1))).f_N)))), (31, .pointer (some ((elemA v_0 (x4.toNat * 2)).add 0)))]) (by kernel_rfl) (by kernel_rfl) (by kernel_rfl) fun a hS => ?_
        refine dr_take (fuel := 1) (j := 17) (v := .int .i64 ((F_Run.at_ p0 x4).f_At)) (d := (some 32)) (op := (Op.load 3 (Operand.tmp 31))) (g := none) hS (by kernel_rfl) (by kernel_rfl) (fun _ CS => r_ldF F_Run (i := x4) (off := 0) (u := .int .i64 ((F_Run.at_ p0 x4).f_At)) (CS.okR 0 _ rfl) (by kernel_rfl) hi3.1 hi3.2 (by decide) (by kernel_rfl) (by kernel_rfl)) (ctx_pick [] [0] C (by kernel_rfl) rfl rfl) fun a hS => ?_
        refine dr_pures (fuel := 0) (l' := [18, 17, 16, 15, 12, 11, 10, 9, 5, 4, 3, 14, 13, 8, 7, 6, 2, 1, 0]) hS (ctx_pick [] [0] C (by kernel_rfl) rfl rfl) [18] [0, 4, 33] (m' := [(0, v_0), (4, .int .i64 x4), (33, .bool (decide ((W64 (((F_Run.at_ p0 (W64 (x4 - 1))).f_At) + ((F_Run.at_ p0 (W64 (x4 - 1))).f_N))) ≥ ((F_Run.at_ p0 x4).f_At))))]) (by kernel_rfl) (by kernel_rfl) (by kernel_rfl) fun a hS => ?_
        refine dr_done (by kernel_rfl) ?_
        refine q_then ?_
        refine c_if (b := (decide ((W64 (((F_Run.at_ p0 (W64 (x4 - 1))).f_At) + ((F_Run.at_ p0 (W64 (x4 - 1))).f_N))) ≥ ((F_Run.at_ p0 x4).f_At)))) hS (by kernel_rfl) (by kernel_rfl) (fun hb => ?_) (fun hb => ?_)
        · have hf := opt_t hb hf
          refine c_seq (by kernel_rfl) ?_
          refine c_region (by kernel_rfl) ?_
          refine wl_pures (j := 1) hS 1 [2] (m' := [(2, .int .i64 1)]) (by kernel_rfl) (by kernel_rfl) fun a hS => ?_
          refine wl_nil (by kernel_rfl) ?_
          refine q_then ?_
          refine c_ret (by kernel_rfl) ?_
          refine q_inr ?_
          refine q_thenr ?_
          refine q_thenr ?_
          refine q_inr ?_
          refine q_thenr ?_
          refine q_ret hS (vs := [.int .i64 1]) (by kernel_rfl) ?_
          obtain rfl := Option.some.inj hf
          exact ⟨_, rfl, rfl, C.fr⟩
        · have hf := opt_f hb hf
          refine c_skip (by kernel_rfl) ?_
          refine q_in ?_
          refine q_then ?_
          refine c_region (by kernel_rfl) ?_
          refine wl_pures (j := 3) hS 3 [0, 4] (m' := [(0, v_0), (4, .int .i64 (W64 (x4 + 1)))]) (by kernel_rfl) (by kernel_rfl) fun a hS => ?_
          refine wl_nil (by kernel_rfl) ?_
          exact q_then ⟨kk1, Nat.lt_succ_self kk1, (W64 (x4 + 1)), hf, hS.keep [0, 4] (by kernel_rfl), ctx_pick [] [0] C (by kernel_rfl) rfl rfl⟩
      · have hf := opt_f hb hf
        refine c_exit (i := 0) (by kernel_rfl) ?_
        refine q_thenx ?_
        refine q_thenx ?_
        refine q_inx ?_
        refine q_then ?_
        refine c_seq (by kernel_rfl) ?_
        refine c_region (by kernel_rfl) ?_
        refine wl_pures (j := 1) hS 1 [2] (m' := [(2, .int .i64 0)]) (by kernel_rfl) (by kernel_rfl) fun a hS => ?_
        refine wl_nil (by kernel_rfl) ?_
        refine q_then ?_
        refine c_ret (by kernel_rfl) ?_
        refine q_ret hS (vs := [.int .i64 0]) (by kernel_rfl) ?_
        obtain rfl := Option.some.inj hf
        exact ⟨_, rfl, rfl, C.fr⟩

def scriniumref06_Join.j1 (p0 : (List S_Run)) (p1 : (List S_Run)) (l1 : List S_Run) (x1 : Bool) : Option (List S_Run) := (if x1 = true then (if 0 ≤ (W64 ((p0.length : Int) - 1)) ∧ (W64 ((p0.length : Int) - 1)) < (p0.length : Int) then (if 0 ≤ (0 : Int) ∧ (0 : Int) < (p1.length : Int) then (if 0 ≤ (W64 ((p0.length : Int) - 1)) ∧ (W64 ((p0.length : Int) - 1)) < (l1.length : Int) then (if 0 ≤ (1 : Int) ∧ (1 : Int) ≤ (p1.length : Int) then (if ((l1.set (W64 ((p0.length : Int) - 1)).toNat (⟨(F_Run.at_ l1 (W64 ((p0.length : Int) - 1))).f_At, (W64 (((F_Run.at_ p0 (W64 ((p0.length : Int) - 1))).f_N) + ((F_Run.at_ p1 (0 : Int)).f_N)))⟩ : S_Run)).length + (p1.drop 1).length) * 16 ≤ 140737488355328 then (some ((l1.set (W64 ((p0.length : Int) - 1)).toNat (⟨(F_Run.at_ l1 (W64 ((p0.length : Int) - 1))).f_At, (W64 (((F_Run.at_ p0 (W64 ((p0.length : Int) - 1))).f_N) + ((F_Run.at_ p1 (0 : Int)).f_N)))⟩ : S_Run)) ++ (p1.drop 1))) else none) else none) else none) else none) else none) else (if (l1.length + p1.length) * 16 ≤ 140737488355328 then (some (l1 ++ p1)) else none))
def scriniumref06_Join.f (k : Nat) (p0 : (List S_Run)) (p1 : (List S_Run)) : Option (List S_Run) := (if (0 + p0.length) * 16 ≤ 140737488355328 then (if (decide ((p0.length : Int) > 0)) = true then (if (decide ((p1.length : Int) > 0)) = true then (if 0 ≤ (W64 ((p0.length : Int) - 1)) ∧ (W64 ((p0.length : Int) - 1)) < (p0.length : Int) then (if 0 ≤ (W64 ((p0.length : Int) - 1)) ∧ (W64 ((p0.length : Int) - 1)) < (p0.length : Int) then (if 0 ≤ (0 : Int) ∧ (0 : Int) < (p1.length : Int) then scriniumref06_Join.j1 p0 p1 p0 ((W64 (((F_Run.at_ p0 (W64 ((p0.length : Int) - 1))).f_At) + ((F_Run.at_ p0 (W64 ((p0.length : Int) - 1))).f_N))) == ((F_Run.at_ p1 (0 : Int)).f_At)) else none) else none) else none) else scriniumref06_Join.j1 p0 p1 p0 false) else scriniumref06_Join.j1 p0 p1 p0 false) else none)
theorem scriniumref06_Join_ok (k : Nat) (w0 : World) (p0 : (List S_Run)) (p1 : (List S_Run)) (v_0 : Value) (v_1 : Value) (h_0 : Rds v_0 p0.length 2 (p0.flatMap F_Run.cells) w0) (h_1 : Rds v_1 p1.length 2 (p1.flatMap F_Run.cells) w0) (res : (List S_Run)) (hf : scriniumref06_Join.f k p0 p1 = some res) :
    Fn Try.prog 26 [v_0, v_1] w0 (fun v w' => Fr nob w0 w' ∧ Own w0 F_Run 24 v res w') := by
  have C := ctx_start w0 [rdE v_0 p0.length 2 (p0.flatMap F_Run.cells), rdE v_1 p1.length 2 (p1.flatMap F_Run.cells)] (start2 h_0 h_1)
  generalize allDom [rdE v_0 p0.length 2 (p0.flatMap F_Run.cells), rdE v_1 p1.length 2 (p1.flatMap F_Run.cells)] = A0 at C
  refine f_enter (fn := Try.f26) (k := 62) rfl rfl rfl fun a hS => ?_
  have hS : Sl 64 [(0, v_0), (1, v_1)] a := hS
  rw [scriniumref06_Join.f] at hf
  refine c_seq (by kernel_rfl) ?_
  refine c_region (by kernel_rfl) ?_
  refine wl_pures (j := 1) hS 1 [0, 1] (m' := [(0, v_0), (1, v_1)]) (by kernel_rfl) (by kernel_rfl) fun a hS => ?_
  refine wl_nil (by kernel_rfl) ?_
  refine q_then ?_
  refine c_seq (by kernel_rfl) ?_
  refine c_region (by kernel_rfl) ?_
  refine wl_pures (j := 1) hS 1 [0, 1, 5] (m' := [(0, v_0), (1, v_1), (5, (.slice none 0 0))]) (by kernel_rfl) (by kernel_rfl) fun a hS => ?_
  refine wl_nil (by kernel_rfl) ?_
  refine q_then ?_
  refine c_seq (by kernel_rfl) ?_
  refine c_region (by kernel_rfl) ?_
  refine wl_pures (j := 2) hS 2 [0, 1, 5, 6, 7] (m' := [(0, v_0), (1, v_1), (5, (.slice none 0 0)), (6, (.slice none 0 0)), (7, v_0)]) (by kernel_rfl) (by kernel_rfl) fun a hS => ?_
  obtain ⟨hl1, hf⟩ := ite_some hf
  refine wl_eff (d := (some 8)) (op := (Op.call { callee := (Callee.builtin Builtin.append), args := #[(Operand.tmp 6), (Operand.tmp 7)], argTypes := #[22, 22] })) (g := none) hS (by kernel_rfl) (by kernel_rfl) (eff_append (li := 0) (n := 0) (m := p0.length) (sz := 2) (bytes := 16) (z := (.agg #[.int .i64 0, .int .i64 0])) (ctx_nilrow 24 2 C) rfl (by kernel_rfl) (by kernel_rfl) ((ctx_nilrow 24 2 C).okR 0 _ rfl) (all_one (flat_all _ _)) (by kernel_rfl) rfl (by decide) hl1 (by decide)) ?_
  rintro v1 _ C a hS
  have C := ctx_relist (li := 0) (F := F_Run) (l := p0) C rfl (Nat.zero_add _) (List.nil_append _)
  refine wl_pures (j := 4) hS 1 [0, 1, 5] (m' := [(0, v_0), (1, v_1), (5, v1)]) (by kernel_rfl) (by kernel_rfl) fun a hS => ?_
  refine wl_nil (by kernel_rfl) ?_
  refine q_then ?_
  refine c_seq (by kernel_rfl) ?_
  refine c_join (by kernel_rfl) (fun a w => ∃ l1 : List S_Run, ∃ v2 : Value, ∃ x1 : Bool, scriniumref06_Join.j1 p0 p1 l1 x1 = some res ∧ Sl 64 [(0, v_0), (1, v_1), (5, v2), (38, .bool x1)] a ∧ Ctx w0 nob A0 [rowE v2 24 2 l1.length (l1.flatMap F_Run.cells)] [rdE v_0 p0.length 2 (p0.flatMap F_Run.cells), rdE v_1 p1.length 2 (p1.flatMap F_Run.cells)] w) ?_ ?_
  · rintro a w ⟨l1, v2, x1, hf, hS, C⟩
    rw [scriniumref06_Join.j1] at hf
    refine c_if (b := x1) hS (by kernel_rfl) (by kernel_rfl) (fun hb => ?_) (fun hb => ?_)
    · have hf := opt_t hb hf
      refine c_seq (by kernel_rfl) ?_
      refine c_drawsC [0] [0, 1] 18 C (by kernel_rfl) (by kernel_rfl) (by kernel_rfl) (N := 19) (by kernel_rfl) (by kernel_rfl) fun _ C => ?_
      refine dr_pures (fuel := 14) (l' := [11, 5, 4, 1, 0]) hS (ctx_pick [0] [0, 1] C (by kernel_rfl) rfl rfl) [0, 1, 4, 5, 11] [1, 5, 39, 40, 43, 44, 50] (m' := [(1, v_1), (5, v2), (39, v2), (40, v_0), (43, v_0), (44, v_0), (50, v_1)]) (by kernel_rfl) (by kernel_rfl) (by kernel_rfl) fun a hS => ?_
      refine dr_take (fuel := 13) (j := 2) (v := .int .i64 (p0.length : Int)) (d := (some 41)) (op := (Op.call { callee := (Callee.builtin Builtin.len), args := #[(Operand.tmp 40)], argTypes := #[22] })) (g := none) hS (by kernel_rfl) (by kernel_rfl) (fun _ CS => r_len (n := p0.length) (v := v_0) (rds_shp (C.okR 0 _ rfl)) (by kernel_rfl) (by kernel_rfl)) (ctx_pick [0] [0, 1] C (by kernel_rfl) rfl rfl) fun a hS => ?_
      refine dr_pures (fuel := 12) (l' := [3, 2, 11, 5, 4, 1, 0]) hS (ctx_pick [0] [0, 1] C (by kernel_rfl) rfl rfl) [3] [1, 5, 39, 42, 43, 44, 50] (m' := [(1, v_1), (5, v2), (39, v2), (42, .int .i64 (W64 ((p0.length : Int) - 1))), (43, v_0), (44, v_0), (50, v_1)]) (by kernel_rfl) (by kernel_rfl) (by kernel_rfl) fun a hS => ?_
      refine dr_take (fuel := 11) (j := 6) (v := .int .i64 (p0.length : Int)) (d := (some 45)) (op := (Op.call { callee := (Callee.builtin Builtin.len), args := #[(Operand.tmp 44)], argTypes := #[22] })) (g := none) hS (by kernel_rfl) (by kernel_rfl) (fun _ CS => r_len (n := p0.length) (v := v_0) (rds_shp (C.okR 0 _ rfl)) (by kernel_rfl) (by kernel_rfl)) (ctx_pick [0] [0, 1] C (by kernel_rfl) rfl rfl) fun a hS => ?_
      refine dr_pures (fuel := 10) (l' := [7, 6, 3, 2, 11, 5, 4, 1, 0]) hS (ctx_pick [0] [0, 1] C (by kernel_rfl) rfl rfl) [7] [1, 5, 39, 42, 43, 46, 50] (m' := [(1, v_1), (5, v2), (39, v2), (42, .int .i64 (W64 ((p0.length : Int) - 1))), (43, v_0), (46, .int .i64 (W64 ((p0.length : Int) - 1))), (50, v_1)]) (by kernel_rfl) (by kernel_rfl) (by kernel_rfl) fun a hS => ?_
      obtain ⟨hi1, hf⟩ := ite_some hf
      refine dr_take (fuel := 9) (j := 8) (v := .pointer (some (elemA v_0 ((W64 ((p0.length : Int) - 1)).toNat * 2)))) (d := (some 47)) (op := (Op.indexAddr 22 (Operand.tmp 43) (Operand.tmp 46))) (g := none) hS (by kernel_rfl) (by kernel_rfl) (fun _ CS => r_idx (i := (W64 ((p0.length : Int) - 1))) (k := .i64) (v := v_0) (sz := 2) (rds_shp (C.okR 0 _ rfl)) (by kernel_rfl) (by kernel_rfl) hi1.1 hi1.2 (by kernel_rfl)) (ctx_pick [0] [0, 1] C (by kernel_rfl) rfl rfl) fun a hS => ?_
      refine dr_pures (fuel := 8) (l' := [9, 8, 7, 6, 3, 2, 11, 5, 4, 1, 0]) hS (ctx_pick [0] [0, 1] C (by kernel_rfl) rfl rfl) [9] [1, 5, 39, 42, 48, 50] (m' := [(1, v_1), (5, v2), (39, v2), (42, .int .i64 (W64 ((p0.length : Int) - 1))), (48, .pointer (some ((elemA v_0 ((W64 ((p0.length : Int) - 1)).toNat * 2)).add 1))), (50, v_1)]) (by kernel_rfl) (by kernel_rfl) (by kernel_rfl) fun a hS => ?_
      refine dr_take (fuel := 7) (j := 10) (v := .int .i64 ((F_Run.at_ p0 (W64 ((p0.length : Int) - 1))).f_N)) (d := (some 49)) (op := (Op.load 3 (Operand.tmp 48))) (g := none) hS (by kernel_rfl) (by kernel_rfl) (fun _ CS => r_ldF F_Run (i := (W64 ((p0.length : Int) - 1))) (off := 1) (u := .int .i64 ((F_Run.at_ p0 (W64 ((p0.length : Int) - 1))).f_N)) (CS.okR 0 _ rfl) (by kernel_rfl) hi1.1 hi1.2 (by decide) (by kernel_rfl) (by kernel_rfl)) (ctx_pick [0] [0, 1] C (by kernel_rfl) rfl rfl) fun a hS => ?_
      obtain ⟨hi2, hf⟩ := ite_some hf
      refine dr_take (fuel := 6) (j := 12) (v := .pointer (some (elemA v_1 ((0 : Int).toNat * 2)))) (d := (some 51)) (op := (Op.indexAddr 22 (Operand.tmp 50) (Operand.const (Value.int IntKind.i64 0)))) (g := none) hS (by kernel_rfl) (by kernel_rfl) (fun _ CS => r_idx (i := 0) (k := .i64) (v := v_1) (sz := 2) (rds_shp (C.okR 1 _ rfl)) (by kernel_rfl) (by kernel_rfl) hi2.1 hi2.2 (by kernel_rfl)) (ctx_pick [0] [0, 1] C (by kernel_rfl) rfl rfl) fun a hS => ?_
      refine dr_pures (fuel := 5) (l' := [13, 12, 10, 9, 8, 7, 6, 3, 2, 11, 5, 4, 1, 0]) hS (ctx_pick [0] [0, 1] C (by kernel_rfl) rfl rfl) [13] [1, 5, 39, 42, 49, 52] (m' := [(1, v_1), (5, v2), (39, v2), (42, .int .i64 (W64 ((p0.length : Int) - 1))), (49, .int .i64 ((F_Run.at_ p0 (W64 ((p0.length : Int) - 1))).f_N)), (52, .pointer (some ((elemA v_1 ((0 : Int).toNat * 2)).add 1)))]) (by kernel_rfl) (by kernel_rfl) (by kernel_rfl) fun a hS => ?_
      refine dr_take (fuel := 4) (j := 14) (v := .int .i64 ((F_Run.at_ p1 (0 : Int)).f_N)) (d := (some 53)) (op := (Op.load 3 (Operand.tmp 52))) (g := none) hS (by kernel_rfl) (by kernel_rfl) (fun _ CS => r_ldF F_Run (i := (0 : Int)) (off := 1) (u := .int .i64 ((F_Run.at_ p1 (0 : Int)).f_N)) (CS.okR 1 _ rfl) (by kernel_rfl) hi2.1 hi2.2 (by decide) (by kernel_rfl) (by kernel_rfl)) (ctx_pick [0] [0, 1] C (by kernel_rfl) rfl rfl) fun a hS => ?_
      refine dr_pures (fuel := 3) (l' := [15, 14, 13, 12, 10, 9, 8, 7, 6, 3, 2, 11, 5, 4, 1, 0]) hS (ctx_pick [0] [0, 1] C (by kernel_rfl) rfl rfl) [15] [1, 5, 39, 42, 54] (m' := [(1, v_1), (5, v2), (39, v2), (42, .int .i64 (W64 ((p0.length : Int) - 1))), (54, .int .i64 (W64 (((F_Run.at_ p0 (W64 ((p0.length : Int) - 1))).f_N) + ((F_Run.at_ p1 (0 : Int)).f_N))))]) (by kernel_rfl) (by kernel_rfl) (by kernel_rfl) fun a hS => ?_
      obtain ⟨hi3, hf⟩ := ite_some hf
      refine dr_take (fuel := 2) (j := 16) (v := .pointer (some (elemA v2 ((W64 ((p0.length : Int) - 1)).toNat * 2)))) (d := (some 55)) (op := (Op.indexAddr 22 (Operand.tmp 39) (Operand.tmp 42))) (g := none) hS (by kernel_rfl) (by kernel_rfl) (fun _ CS => r_idx (i := (W64 ((p0.length : Int) - 1))) (k := .i64) (v := v2) (sz := 2) (rds_shp (rds_of_row (C.okL 0 _ rfl))) (by kernel_rfl) (by kernel_rfl) hi3.1 hi3.2 (by kernel_rfl)) (ctx_pick [0] [0, 1] C (by kernel_rfl) rfl rfl) fun a hS => ?_
      refine dr_pures (fuel := 1) (l' := [17, 16, 15, 14, 13, 12, 10, 9, 8, 7, 6, 3, 2, 11, 5, 4, 1, 0]) hS (ctx_pick [0] [0, 1] C (by kernel_rfl) rfl rfl) [17] [1, 5, 54, 56] (m' := [(1, v_1), (5, v2), (54, .int .i64 (W64 (((F_Run.at_ p0 (W64 ((p0.length : Int) - 1))).f_N) + ((F_Run.at_ p1 (0 : Int)).f_N)))), (56, .pointer (some ((elemA v2 ((W64 ((p0.length : Int) - 1)).toNat * 2)).add 1)))]) (by kernel_rfl) (by kernel_rfl) (by kernel_rfl) fun a hS => ?_
      refine dr_eff (fuel := 0) (j := 18) (d := none) (op := (Op.store 3 (Operand.tmp 56) (Operand.tmp 54))) (g := none) hS (by kernel_rfl) (by kernel_rfl) (by kernel_rfl) (eff_sto (F := F_Run) (l := l1) (li := 0) (off := 1) (i := (W64 ((p0.length : Int) - 1))) (us := [.int .i64 (W64 (((F_Run.at_ p0 (W64 ((p0.length : Int) - 1))).f_N) + ((F_Run.at_ p1 (0 : Int)).f_N)))]) (x' := (⟨(F_Run.at_ l1 (W64 ((p0.length : Int) - 1))).f_At, (W64 (((F_Run.at_ p0 (W64 ((p0.length : Int) - 1))).f_N) + ((F_Run.at_ p1 (0 : Int)).f_N)))⟩ : S_Run)) C rfl rfl (id (by kernel_rfl)) hi3.1 hi3.2 (by kernel_rfl) (by kernel_rfl) (by kernel_rfl) (by kernel_rfl) (by kernel_rfl)) ?_
      rintro _ _ C
      refine ⟨.inl rfl, fun a hS => ?_⟩
      refine dr_done (by kernel_rfl) ?_
      refine q_then ?_
      refine c_seq (by kernel_rfl) ?_
      refine c_region (by kernel_rfl) ?_
      refine wl_pures (j := 2) hS 2 [57, 58] (m' := [(57, v2), (58, v_1)]) (by kernel_rfl) (by kernel_rfl) fun a hS => ?_
      obtain ⟨hc1, hf⟩ := ite_some hf
      refine wl_val (d := (some 59)) (op := (Op.slice 22 (Operand.tmp 58) (some (Operand.const (Value.int IntKind.i64 1))) none none)) (g := none) hS (by kernel_rfl) (by kernel_rfl) (r_cut (h := p1.length) (l := 1) (v := v_1) (sz := 2) (rds_shp (C.okR 1 _ rfl)) (by kernel_rfl) (by kernel_rfl) (rfl) (lo_ok .i64 (1 : Int) (by omega) (by omega))) fun a hS => ?_
      have C := got_cut (ri := 1) (F := F_Run) (l := p1) (l' := (p1.drop 1)) (h := p1.length) (lo := 1) C rfl (cut_rds (C.okR 1 _ rfl) (by omega) (by omega)) (cut_addr _ _ _ _) (by omega) (by simp)
      obtain ⟨hl2, hf⟩ := ite_some hf
      refine wl_eff (d := (some 60)) (op := (Op.call { callee := (Callee.builtin Builtin.append), args := #[(Operand.tmp 57), (Operand.tmp 59)], argTypes := #[22, 22] })) (g := none) hS (by kernel_rfl) (by kernel_rfl) (eff_append (li := 0) (n := (l1.set (W64 ((p0.length : Int) - 1)).toNat (⟨(F_Run.at_ l1 (W64 ((p0.length : Int) - 1))).f_At, (W64 (((F_Run.at_ p0 (W64 ((p0.length : Int) - 1))).f_N) + ((F_Run.at_ p1 (0 : Int)).f_N)))⟩ : S_Run)).length) (m := (p1.drop 1).length) (sz := 2) (bytes := 16) (z := (.agg #[.int .i64 0, .int .i64 0])) C rfl (by kernel_rfl) (by kernel_rfl) (C.okR 2 _ rfl) (all_one (flat_all _ _)) (by kernel_rfl) rfl (by decide) hl2 (by decide)) ?_
      rintro v3 _ C a hS
      have C := ctx_relist (li := 0) (F := F_Run) (l := ((l1.set (W64 ((p0.length : Int) - 1)).toNat (⟨(F_Run.at_ l1 (W64 ((p0.length : Int) - 1))).f_At, (W64 (((F_Run.at_ p0 (W64 ((p0.length : Int) - 1))).f_N) + ((F_Run.at_ p1 (0 : Int)).f_N)))⟩ : S_Run)) ++ (p1.drop 1))) C rfl (by simp only [List.length_append, List.length_set]) List.flatMap_append.symm
      refine wl_pures (j := 5) hS 1 [4] (m' := [(4, v3)]) (by kernel_rfl) (by kernel_rfl) fun a hS => ?_
      refine wl_nil (by kernel_rfl) ?_
      refine q_then ?_
      refine c_ret (by kernel_rfl) ?_
      refine q_thenr ?_
      refine q_ret hS (vs := [v3]) (by kernel_rfl) ?_
      obtain rfl := Option.some.inj hf
      exact ⟨_, rfl, C.fr, ret_own (li := 0) C rfl rfl⟩
    · have hf := opt_f hb hf
      refine c_skip (by kernel_rfl) ?_
      refine q_then ?_
      refine c_seq (by kernel_rfl) ?_
      refine c_region (by kernel_rfl) ?_
      refine wl_pures (j := 2) hS 2 [61, 62] (m' := [(61, v2), (62, v_1)]) (by kernel_rfl) (by kernel_rfl) fun a hS => ?_
      obtain ⟨hl3, hf⟩ := ite_some hf
      refine wl_eff (d := (some 63)) (op := (Op.call { callee := (Callee.builtin Builtin.append), args := #[(Operand.tmp 61), (Operand.tmp 62)], argTypes := #[22, 22] })) (g := none) hS (by kernel_rfl) (by kernel_rfl) (eff_append (li := 0) (n := l1.length) (m := p1.length) (sz := 2) (bytes := 16) (z := (.agg #[.int .i64 0, .int .i64 0])) C rfl (by kernel_rfl) (by kernel_rfl) (C.okR 1 _ rfl) (all_one (flat_all _ _)) (by kernel_rfl) rfl (by decide) hl3 (by decide)) ?_
      rintro v4 _ C a hS
      have C := ctx_relist (li := 0) (F := F_Run) (l := (l1 ++ p1)) C rfl (by simp only [List.length_append, List.length_set]) List.flatMap_append.symm
      refine wl_pures (j := 4) hS 1 [4] (m' := [(4, v4)]) (by kernel_rfl) (by kernel_rfl) fun a hS => ?_
      refine wl_nil (by kernel_rfl) ?_
      refine q_then ?_
      refine c_ret (by kernel_rfl) ?_
      refine q_ret hS (vs := [v4]) (by kernel_rfl) ?_
      obtain rfl := Option.some.inj hf
      exact ⟨_, rfl, C.fr, ret_own (li := 0) C rfl rfl⟩
  · refine c_drawsC [0] [0, 1] 30 C (by kernel_rfl) (by kernel_rfl) (by kernel_rfl) (N := 30) (by kernel_rfl) (by kernel_rfl) fun _ C => ?_
    refine dr_pures (fuel := 29) (l' := [0]) hS (ctx_pick [0] [0, 1] C (by kernel_rfl) rfl rfl) [0] [0, 1, 5, 9] (m' := [(0, v_0), (1, v_1), (5, v1), (9, v_0)]) (by kernel_rfl) (by kernel_rfl) (by kernel_rfl) fun a hS => ?_
    refine dr_take (fuel := 28) (j := 1) (v := .int .i64 (p0.length : Int)) (d := (some 10)) (op := (Op.call { callee := (Callee.builtin Builtin.len), args := #[(Operand.tmp 9)], argTypes := #[22] })) (g := none) hS (by kernel_rfl) (by kernel_rfl) (fun _ CS => r_len (n := p0.length) (v := v_0) (rds_shp (C.okR 0 _ rfl)) (by kernel_rfl) (by kernel_rfl)) (ctx_pick [0] [0, 1] C (by kernel_rfl) rfl rfl) fun a hS => ?_
    refine dr_pures (fuel := 26) (l' := [3, 2, 1, 0]) hS (ctx_pick [0] [0, 1] C (by kernel_rfl) rfl rfl) [2, 3] [0, 1, 5, 12] (m' := [(0, v_0), (1, v_1), (5, v1), (12, .bool (decide ((p0.length : Int) > 0)))]) (by kernel_rfl) (by kernel_rfl) (by kernel_rfl) fun a hS => ?_
    rcases Bool.eq_false_or_eq_true (decide ((p0.length : Int) > 0)) with hb | hb
    · rw [hb] at hS
      have hf := opt_t hb hf
      refine dr_pures (fuel := 25) (l' := [4, 3, 2, 1, 0]) hS (ctx_pick [0] [0, 1] C (by kernel_rfl) rfl rfl) [4] [0, 1, 5, 12, 13] (m' := [(0, v_0), (1, v_1), (5, v1), (12, .bool true), (13, v_1)]) (by kernel_rfl) (by kernel_rfl) (by kernel_rfl) fun a hS => ?_
      refine dr_take (fuel := 24) (j := 5) (v := .int .i64 (p1.length : Int)) (d := (some 14)) (op := (Op.call { callee := (Callee.builtin Builtin.len), args := #[(Operand.tmp 13)], argTypes := #[22] })) (g := (some (3, true))) hS (by kernel_rfl) (by kernel_rfl) (fun _ CS => r_len (n := p1.length) (v := v_1) (rds_shp (C.okR 1 _ rfl)) (by kernel_rfl) (by kernel_rfl)) (ctx_pick [0] [0, 1] C (by kernel_rfl) rfl rfl) fun a hS => ?_
      refine dr_pures (fuel := 21) (l' := [8, 7, 6, 5, 4, 3, 2, 1, 0]) hS (ctx_pick [0] [0, 1] C (by kernel_rfl) rfl rfl) [6, 7, 8] [0, 1, 5, 17] (m' := [(0, v_0), (1, v_1), (5, v1), (17, .bool (decide ((p1.length : Int) > 0)))]) (by kernel_rfl) (by kernel_rfl) (by kernel_rfl) fun a hS => ?_
      rcases Bool.eq_false_or_eq_true (decide ((p1.length : Int) > 0)) with hb | hb
      · rw [hb] at hS
        have hf := opt_t hb hf
        refine dr_pures (fuel := 16) (l' := [24, 17, 16, 10, 9, 8, 7, 6, 5, 4, 3, 2, 1, 0]) hS (ctx_pick [0] [0, 1] C (by kernel_rfl) rfl rfl) [9, 10, 16, 17, 24] [0, 1, 5, 17, 18, 19, 25, 26, 33] (m' := [(0, v_0), (1, v_1), (5, v1), (17, .bool true), (18, v_0), (19, v_0), (25, v_0), (26, v_0), (33, v_1)]) (by kernel_rfl) (by kernel_rfl) (by kernel_rfl) fun a hS => ?_
        refine dr_take (fuel := 15) (j := 11) (v := .int .i64 (p0.length : Int)) (d := (some 20)) (op := (Op.call { callee := (Callee.builtin Builtin.len), args := #[(Operand.tmp 19)], argTypes := #[22] })) (g := (some (8, true))) hS (by kernel_rfl) (by kernel_rfl) (fun _ CS => r_len (n := p0.length) (v := v_0) (rds_shp (C.okR 0 _ rfl)) (by kernel_rfl) (by kernel_rfl)) (ctx_pick [0] [0, 1] C (by kernel_rfl) rfl rfl) fun a hS => ?_
        refine dr_pures (fuel := 14) (l' := [12, 11, 24, 17, 16, 10, 9, 8, 7, 6, 5, 4, 3, 2, 1, 0]) hS (ctx_pick [0] [0, 1] C (by kernel_rfl) rfl rfl) [12] [0, 1, 5, 17, 18, 21, 25, 26, 33] (m' := [(0, v_0), (1, v_1), (5, v1), (17, .bool true), (18, v_0), (21, .int .i64 (W64 ((p0.length : Int) - 1))), (25, v_0), (26, v_0), (33, v_1)]) (by kernel_rfl) (by kernel_rfl) (by kernel_rfl) fun a hS => ?_
        obtain ⟨hi4, hf⟩ := ite_some hf
        refine dr_take (fuel := 13) (j := 13) (v := .pointer (some (elemA v_0 ((W64 ((p0.length : Int) - 1)).toNat * 2)))) (d := (some 22)) (op := (Op.indexAddr 22 (Operand.tmp 18) (Operand.tmp 21))) (g := (some (8, true))) hS (by kernel_rfl) (by kernel_rfl) (fun _ CS => r_idx (i := (W64 ((p0.length : Int) - 1))) (k := .i64) (v := v_0) (sz := 2) (rds_shp (C.okR 0 _ rfl)) (by kernel_rfl) (by kernel_rfl) hi4.1 hi4.2 (by kernel_rfl)) (ctx_pick [0] [0, 1] C (by kernel_rfl) rfl rfl) fun a hS => ?_
        refine dr_pures (fuel := 12) (l' := [14, 13, 12, 11, 24, 17, 16, 10, 9, 8, 7, 6, 5, 4, 3, 2, 1, 0]) hS (ctx_pick [0] [0, 1] C (by kernel_rfl) rfl rfl) [14] [0, 1, 5, 17, 23, 25, 26, 33] (m' := [(0, v_0), (1, v_1), (5, v1), (17, .bool true), (23, .pointer (some ((elemA v_0 ((W64 ((p0.length : Int) - 1)).toNat * 2)).add 0))), (25, v_0), (26, v_0), (33, v_1)]) (by kernel_rfl) (by kernel_rfl) (by kernel_rfl) fun a hS => ?_
        refine dr_take (fuel := 11) (j := 15) (v := .int .i64 ((F_Run.at_ p0 (W64 ((p0.length : Int) - 1))).f_At)) (d := (some 24)) (op := (Op.load 3 (Operand.tmp 23))) (g := (some (8, true))) hS (by kernel_rfl) (by kernel_rfl) (fun _ CS => r_ldF F_Run (i := (W64 ((p0.length : Int) - 1))) (off := 0) (u := .int .i64 ((F_Run.at_ p0 (W64 ((p0.length : Int) - 1))).f_At)) (CS.okR 0 _ rfl) (by kernel_rfl) hi4.1 hi4.2 (by decide) (by kernel_rfl) (by kernel_rfl)) (ctx_pick [0] [0, 1] C (by kernel_rfl) rfl rfl) fun a hS => ?_
        refine dr_take (fuel := 10) (j := 18) (v := .int .i64 (p0.length : Int)) (d := (some 27)) (op := (Op.call { callee := (Callee.builtin Builtin.len), args := #[(Operand.tmp 26)], argTypes := #[22] })) (g := (some (8, true))) hS (by kernel_rfl) (by kernel_rfl) (fun _ CS => r_len (n := p0.length) (v := v_0) (rds_shp (C.okR 0 _ rfl)) (by kernel_rfl) (by kernel_rfl)) (ctx_pick [0] [0, 1] C (by kernel_rfl) rfl rfl) fun a hS => ?_
        refine dr_pures (fuel := 9) (l' := [19, 18, 15, 14, 13, 12, 11, 24, 17, 16, 10, 9, 8, 7, 6, 5, 4, 3, 2, 1, 0]) hS (ctx_pick [0] [0, 1] C (by kernel_rfl) rfl rfl) [19] [0, 1, 5, 17, 24, 25, 28, 33] (m' := [(0, v_0), (1, v_1), (5, v1), (17, .bool true), (24, .int .i64 ((F_Run.at_ p0 (W64 ((p0.length : Int) - 1))).f_At)), (25, v_0), (28, .int .i64 (W64 ((p0.length : Int) - 1))), (33, v_1)]) (by kernel_rfl) (by kernel_rfl) (by kernel_rfl) fun a hS => ?_
        obtain ⟨hi5, hf⟩ := ite_some hf
        refine dr_take (fuel := 8) (j := 20) (v := .pointer (some (elemA v_0 ((W64 ((p0.length : Int) - 1)).toNat * 2)))) (d := (some 29)) (op := (Op.indexAddr 22 (Operand.tmp 25) (Operand.tmp 28))) (g := (some (8, true))) hS (by kernel_rfl) (by kernel_rfl) (fun _ CS => r_idx (i := (W64 ((p0.length : Int) - 1))) (k := .i64) (v := v_0) (sz := 2) (rds_shp (C.okR 0 _ rfl)) (by kernel_rfl) (by kernel_rfl) hi5.1 hi5.2 (by kernel_rfl)) (ctx_pick [0] [0, 1] C (by kernel_rfl) rfl rfl) fun a hS => ?_
        refine dr_pures (fuel := 7) (l' := [21, 20, 19, 18, 15, 14, 13, 12, 11, 24, 17, 16, 10, 9, 8, 7, 6, 5, 4, 3, 2, 1, 0]) hS (ctx_pick [0] [0, 1] C (by kernel_rfl) rfl rfl) [21] [0, 1, 5, 17, 24, 30, 33] (m' := [(0, v_0), (1, v_1), (5, v1), (17, .bool true), (24, .int .i64 ((F_Run.at_ p0 (W64 ((p0.length : Int) - 1))).f_At)), (30, .pointer (some ((elemA v_0 ((W64 ((p0.length : Int) - 1)).toNat * 2)).add 1))), (33, v_1)]) (by kernel_rfl) (by kernel_rfl) (by kernel_rfl) fun a hS => ?_
        refine dr_take (fuel := 6) (j := 22) (v := .int .i64 ((F_Run.at_ p0 (W64 ((p0.length : Int) - 1))).f_N)) (d := (some 31)) (op := (Op.load 3 (Operand.tmp 30))) (g := (some (8, true))) hS (by kernel_rfl) (by kernel_rfl) (fun _ CS => r_ldF F_Run (i := (W64 ((p0.length : Int) - 1))) (off := 1) (u := .int .i64 ((F_Run.at_ p0 (W64 ((p0.length : Int) - 1))).f_N)) (CS.okR 0 _ rfl) (by kernel_rfl) hi5.1 hi5.2 (by decide) (by kernel_rfl) (by kernel_rfl)) (ctx_pick [0] [0, 1] C (by kernel_rfl) rfl rfl) fun a hS => ?_
        refine dr_pures (fuel := 5) (l' := [23, 22, 21, 20, 19, 18, 15, 14, 13, 12, 11, 24, 17, 16, 10, 9, 8, 7, 6, 5, 4, 3, 2, 1, 0]) hS (ctx_pick [0] [0, 1] C (by kernel_rfl) rfl rfl) [23] [0, 1, 5, 17, 32, 33] (m' := [(0, v_0), (1, v_1), (5, v1), (17, .bool true), (32, .int .i64 (W64 (((F_Run.at_ p0 (W64 ((p0.length : Int) - 1))).f_At) + ((F_Run.at_ p0 (W64 ((p0.length : Int) - 1))).f_N)))), (33, v_1)]) (by kernel_rfl) (by kernel_rfl) (by kernel_rfl) fun a hS => ?_
        obtain ⟨hi6, hf⟩ := ite_some hf
        refine dr_take (fuel := 4) (j := 25) (v := .pointer (some (elemA v_1 ((0 : Int).toNat * 2)))) (d := (some 34)) (op := (Op.indexAddr 22 (Operand.tmp 33) (Operand.const (Value.int IntKind.i64 0)))) (g := (some (8, true))) hS (by kernel_rfl) (by kernel_rfl) (fun _ CS => r_idx (i := 0) (k := .i64) (v := v_1) (sz := 2) (rds_shp (C.okR 1 _ rfl)) (by kernel_rfl) (by kernel_rfl) hi6.1 hi6.2 (by kernel_rfl)) (ctx_pick [0] [0, 1] C (by kernel_rfl) rfl rfl) fun a hS => ?_
        refine dr_pures (fuel := 3) (l' := [26, 25, 23, 22, 21, 20, 19, 18, 15, 14, 13, 12, 11, 24, 17, 16, 10, 9, 8, 7, 6, 5, 4, 3, 2, 1, 0]) hS (ctx_pick [0] [0, 1] C (by kernel_rfl) rfl rfl) [26] [0, 1, 5, 17, 32, 35] (m' := [(0, v_0), (1, v_1), (5, v1), (17, .bool true), (32, .int .i64 (W64 (((F_Run.at_ p0 (W64 ((p0.length : Int) - 1))).f_At) + ((F_Run.at_ p0 (W64 ((p0.length : Int) - 1))).f_N)))), (35, .pointer (some ((elemA v_1 ((0 : Int).toNat * 2)).add 0)))]) (by kernel_rfl) (by kernel_rfl) (by kernel_rfl) fun a hS => ?_
        refine dr_take (fuel := 2) (j := 27) (v := .int .i64 ((F_Run.at_ p1 (0 : Int)).f_At)) (d := (some 36)) (op := (Op.load 3 (Operand.tmp 35))) (g := (some (8, true))) hS (by kernel_rfl) (by kernel_rfl) (fun _ CS => r_ldF F_Run (i := (0 : Int)) (off := 0) (u := .int .i64 ((F_Run.at_ p1 (0 : Int)).f_At)) (CS.okR 1 _ rfl) (by kernel_rfl) hi6.1 hi6.2 (by decide) (by kernel_rfl) (by kernel_rfl)) (ctx_pick [0] [0, 1] C (by kernel_rfl) rfl rfl) fun a hS => ?_
        refine dr_pures (fuel := 0) (l' := [29, 28, 27, 26, 25, 23, 22, 21, 20, 19, 18, 15, 14, 13, 12, 11, 24, 17, 16, 10, 9, 8, 7, 6, 5, 4, 3, 2, 1, 0]) hS (ctx_pick [0] [0, 1] C (by kernel_rfl) rfl rfl) [28, 29] [0, 1, 5, 38] (m' := [(0, v_0), (1, v_1), (5, v1), (38, .bool ((W64 (((F_Run.at_ p0 (W64 ((p0.length : Int) - 1))).f_At) + ((F_Run.at_ p0 (W64 ((p0.length : Int) - 1))).f_N))) == ((F_Run.at_ p1 (0 : Int)).f_At)))]) (by kernel_rfl) (by kernel_rfl) (by kernel_rfl) fun a hS => ?_
        refine dr_done (by kernel_rfl) ?_
        exact q_then ⟨p0, v1, ((W64 (((F_Run.at_ p0 (W64 ((p0.length : Int) - 1))).f_At) + ((F_Run.at_ p0 (W64 ((p0.length : Int) - 1))).f_N))) == ((F_Run.at_ p1 (0 : Int)).f_At)), hf, hS.keep [0, 1, 5, 38] (by kernel_rfl), ctx_pick [0] [0, 1] C (by kernel_rfl) rfl rfl⟩
      · rw [hb] at hS
        have hf := opt_f hb hf
        refine dr_pures (fuel := 0) (l' := [29, 28, 27, 26, 25, 24, 23, 22, 21, 20, 19, 18, 17, 16, 15, 14, 13, 12, 11, 10, 9, 8, 7, 6, 5, 4, 3, 2, 1, 0]) hS (ctx_pick [0] [0, 1] C (by kernel_rfl) rfl rfl) [9, 10, 11, 12, 13, 14, 15, 16, 17, 18, 19, 20, 21, 22, 23, 24, 25, 26, 27, 28, 29] [0, 1, 5, 38] (m' := [(0, v_0), (1, v_1), (5, v1), (38, .bool false)]) (by kernel_rfl) (by kernel_rfl) (by kernel_rfl) fun a hS => ?_
        refine dr_done (by kernel_rfl) ?_
        exact q_then ⟨p0, v1, false, hf, hS.keep [0, 1, 5, 38] (by kernel_rfl), ctx_pick [0] [0, 1] C (by kernel_rfl) rfl rfl⟩
    · rw [hb] at hS
      have hf := opt_f hb hf
      refine dr_pures (fuel := 0) (l' := [29, 28, 27, 26, 25, 24, 23, 22, 21, 20, 19, 18, 17, 16, 15, 14, 13, 12, 11, 10, 9, 8, 7, 6, 5, 4, 3, 2, 1, 0]) hS (ctx_pick [0] [0, 1] C (by kernel_rfl) rfl rfl) [4, 5, 6, 7, 8, 9, 10, 11, 12, 13, 14, 15, 16, 17, 18, 19, 20, 21, 22, 23, 24, 25, 26, 27, 28, 29] [0, 1, 5, 38] (m' := [(0, v_0), (1, v_1), (5, v1), (38, .bool false)]) (by kernel_rfl) (by kernel_rfl) (by kernel_rfl) fun a hS => ?_
      refine dr_done (by kernel_rfl) ?_
      exact q_then ⟨p0, v1, false, hf, hS.keep [0, 1, 5, 38] (by kernel_rfl), ctx_pick [0] [0, 1] C (by kernel_rfl) rfl rfl⟩

end Go.Proofs.Ytmpnlafggebaiaa
