/- The row of the law ExtentFiles, out of its walk and its plain law. No condition. -/
import Derived.Test.YtmpnlafggebaiaaPureExtentFiles
namespace Go.Proofs.Ytmpnlafggebaiaa.extentFiles
open Go.ChangeShapes Go.WideShapes Go.ChangeAt Go.RowKit
open Go.ChangeMaps (open_string shut_string)
set_option linter.unusedVariables false
theorem own : ownKnob Try.prog.godebug = none := by kernel_rfl
theorem laidOut : laidOutB Try.prog = true := by kernel_rfl
theorem okL_Run (cs : List Value) (h : okL [.int .i64, .int .i64] cs) : ∃ x : S_Run, cs = F_Run.cells x ∧ -9223372036854775808 ≤ x.f_At ∧ x.f_At ≤ 9223372036854775807 ∧ -9223372036854775808 ≤ x.f_N ∧ x.f_N ≤ 9223372036854775807 := by
  match cs, h with
  | .int _ x0 :: .int _ x1 :: [], h => obtain ⟨rfl, w0, rfl, w1, _⟩ := h; exact ⟨⟨x0, x1⟩, rfl, (bounds_i64 w0).1, (bounds_i64 w0).2, (bounds_i64 w1).1, (bounds_i64 w1).2⟩
theorem okL_T37 (cs : List Value) (h : okL [.int .i64, .int .i64] cs) : ∃ x : S_T37, cs = F_T37.cells x ∧ -9223372036854775808 ≤ x.e_0 ∧ x.e_0 ≤ 9223372036854775807 ∧ -9223372036854775808 ≤ x.e_1 ∧ x.e_1 ≤ 9223372036854775807 := by
  match cs, h with
  | .int _ x0 :: .int _ x1 :: [], h => obtain ⟨rfl, w0, rfl, w1, _⟩ := h; exact ⟨⟨x0, x1⟩, rfl, (bounds_i64 w0).1, (bounds_i64 w0).2, (bounds_i64 w1).1, (bounds_i64 w1).2⟩
set_option maxRecDepth 100000 in
theorem lifted (os : Os) (started : os.Started) (H : Type) (enc : TypeId × Value → H) :
    ReturnsInHanded {} Try.checked os 5 .any (Rows.extentFilesSpec.pre6 enc Try.prog Try.f5 Rows.extentFilesRow.domain false) (Rows.extentFilesSpec.post enc Try.prog Try.f5 false true false false) := by
  refine returnsInHanded_of_change_sized (C := Try.checked) own started (by kernel_rfl) Try.func5
    (ChangeSpec.witness6 (enc := enc) (C := Try.checked) false ⟨#[], #[.slice none 0 0, .slice none 0 0, .agg #[.int .i64 0, .int .i64 0]], []⟩ 8 (by kernel_rfl) (by kernel_rfl) (by kernel_rfl) (by kernel_rfl)) ?_
  intro W base args ds gs before hval0 hW hcnd hsz0 _
  have hval : ∀ (j : Nat) t v, Try.f5.params[j]? = some t → args[j]? = some v → Value.okWide Try.prog W .any base t v := hval0
  have hW' := hW
  obtain ⟨p, q, hA0, hV, rfl, hfz, hnd⟩ := hW
  have hA : DataW.TrodAll enc Try.prog W 0 (fun _ => true) true Try.f5.params.toList args.toList ds p := hA0
  rw [Try.params5] at hA hval
  obtain ⟨v0, vs0, d0, ds0, p0, q0, hargs, rfl, rfl, h0, r0⟩ := trodAll_cons hA
  obtain ⟨v1, vs1, d1, ds1, p1, q1, rfl, rfl, rfl, h1, r1⟩ := trodAll_cons r0
  obtain ⟨v2, vs2, d2, ds2, p2, q2, rfl, rfl, rfl, h2, r2⟩ := trodAll_cons r1
  obtain ⟨rfl, rfl, rfl⟩ := trodAll_nil r2
  obtain rfl : args = #[v0, v1, v2] := by cases args; simp_all
  obtain ⟨rfl, rfl⟩ := trodVars_none hV
  have k0 := h0
  have lt0 : ∀ x ∈ p0, x.block < W.heap.size := by obtain ⟨m, hm⟩ := k0; exact DataW.trod_lt m _ _ _ hm
  obtain ⟨z0, rd0, zl0, zw0⟩ : ∃ z : (List S_Run), Rds v0 z.length 2 (z.flatMap F_Run.cells) W ∧ z.length ≤ 9223372036854775807 ∧ ∀ x ∈ z, -9223372036854775808 ≤ x.f_At ∧ x.f_At ≤ 9223372036854775807 ∧ -9223372036854775808 ≤ x.f_N ∧ x.f_N ≤ 9223372036854775807 := by
    obtain ⟨fuel, hf⟩ := k0
    exact open_list F_Run _ okL_Run Try.underlying22 (d := 9) (by kernel_rfl) (by kernel_rfl) (okWide_slice Try.underlying22 (hval 0 22 v0 rfl rfl)) hf
  have k1 := h1
  have lt1 : ∀ x ∈ p1, x.block < W.heap.size := by obtain ⟨m, hm⟩ := k1; exact DataW.trod_lt m _ _ _ hm
  obtain ⟨z1, rd1, zl1, zw1⟩ : ∃ z : (List S_Run), Rds v1 z.length 2 (z.flatMap F_Run.cells) W ∧ z.length ≤ 9223372036854775807 ∧ ∀ x ∈ z, -9223372036854775808 ≤ x.f_At ∧ x.f_At ≤ 9223372036854775807 ∧ -9223372036854775808 ≤ x.f_N ∧ x.f_N ≤ 9223372036854775807 := by
    obtain ⟨fuel, hf⟩ := k1
    exact open_list F_Run _ okL_Run Try.underlying22 (d := 9) (by kernel_rfl) (by kernel_rfl) (okWide_slice Try.underlying22 (hval 1 22 v1 rfl rfl)) hf
  have k2 := h2
  have lt2 : ∀ x ∈ p2, x.block < W.heap.size := by obtain ⟨m, hm⟩ := k2; exact DataW.trod_lt m _ _ _ hm
  obtain ⟨z2, rfl, zw2⟩ : ∃ z : S_T37, v2 = .agg #[.int .i64 z.e_0, .int .i64 z.e_1] ∧ -9223372036854775808 ≤ z.e_0 ∧ z.e_0 ≤ 9223372036854775807 ∧ -9223372036854775808 ≤ z.e_1 ∧ z.e_1 ≤ 9223372036854775807 := by
    obtain ⟨fuel, hf⟩ := k2
    obtain ⟨cs, rfl⟩ := okWide_agg (by kernel_rfl) (hval 2 37 v2 rfl rfl)
    obtain ⟨x, hx, hw⟩ := okL_T37 _ (open_flat 9 fuel 37 _ _ _ (by kernel_rfl) hf)
    exact ⟨x, agg_of_list hx, hw⟩
  clear hA0 hval0 hsz0
  obtain ⟨k, hk⟩ := extentFiles_law z0 z1 z2 zl0 zw0 zl1 zw1 zw2
  refine (scriniumlaw06_ExtentFiles_ok k W z0 z1 z2 v0 v1 rd0 rd1 true hk).mono fun e W' ⟨v, he, hv, fr⟩ => ?_
  subst he hv
  have bel := fr.below
  exact ⟨_, rfl, _, _, _, [], _, [], hW', trodAll_mk1 (shut_bool Try.underlying4 _), (trodAll_cons_mk (Below.trod laidOut (by kernel_rfl) (of_decide_eq_true (by kernel_rfl)) k0 bel lt0) (trodAll_cons_mk (Below.trod laidOut (by kernel_rfl) (of_decide_eq_true (by kernel_rfl)) k1 bel lt1) (trodAll_cons_mk (Below.trod laidOut (by kernel_rfl) (of_decide_eq_true (by kernel_rfl)) k2 bel lt2) trodAll_mk0))), rfl, bel.frame _, fun h => by cases h⟩
theorem over : Rows.extentFilesRow.holds Try.pinned (OpenSpec.ofChange Rows.extentFilesSpec) :=
  OpenClaim.holds_of_wide 5 Try.f5 rfl rfl rfl rfl rfl rfl rfl ⟨rfl, rfl, rfl, rfl, rfl⟩ rfl rfl rfl rfl rfl (by kernel_rfl) Try.func5 (by kernel_rfl)
    (of_decide_eq_true (by kernel_rfl)) (by unfold Func.isWrapper; first | (rw [if_pos (by decide +kernel)]; kernel_rfl) | (rw [if_neg (by decide +kernel)]; exact ⟨rfl, rfl⟩))
    (fun os started H enc _ => lifted os started H enc)
end Go.Proofs.Ytmpnlafggebaiaa.extentFiles
namespace Go.Proofs.Ytmpnlafggebaiaa
/-- The law, for every input. -/
theorem extentFiles_holds : Rows.ExtentFilesSaid := extentFiles.over
end Go.Proofs.Ytmpnlafggebaiaa
