/- The row of the law ExtentTurns, out of its walk and its plain law. No condition. -/
import Derived.Test.YtmpnlafggebaiaaPureExtentTurns
namespace Go.Proofs.Ytmpnlafggebaiaa.extentTurns
open Go.ChangeShapes Go.WideShapes Go.ChangeAt Go.RowKit
open Go.ChangeMaps (open_string shut_string)
set_option linter.unusedVariables false
theorem own : ownKnob Try.prog.godebug = none := by kernel_rfl
theorem laidOut : laidOutB Try.prog = true := by kernel_rfl
theorem okL_Run (cs : List Value) (h : okL [.int .i64, .int .i64] cs) : ∃ x : S_Run, cs = F_Run.cells x ∧ -9223372036854775808 ≤ x.f_At ∧ x.f_At ≤ 9223372036854775807 ∧ -9223372036854775808 ≤ x.f_N ∧ x.f_N ≤ 9223372036854775807 := by
  match cs, h with
  | .int _ x0 :: .int _ x1 :: [], h => obtain ⟨rfl, w0, rfl, w1, _⟩ := h; exact ⟨⟨x0, x1⟩, rfl, (bounds_i64 w0).1, (bounds_i64 w0).2, (bounds_i64 w1).1, (bounds_i64 w1).2⟩
set_option maxRecDepth 100000 in
theorem lifted (os : Os) (started : os.Started) (H : Type) (enc : TypeId × Value → H) :
    ReturnsInHanded {} Try.checked os 8 .any (Rows.extentTurnsSpec.pre6 enc Try.prog Try.f8 Rows.extentTurnsRow.domain false) (Rows.extentTurnsSpec.post enc Try.prog Try.f8 false true false false) := by
  refine returnsInHanded_of_change_sized (C := Try.checked) own started (by kernel_rfl) Try.func8
    (ChangeSpec.witness6 (enc := enc) (C := Try.checked) false ⟨#[], #[.slice none 0 0, .int .i64 0, .bool false], []⟩ 8 (by kernel_rfl) (by kernel_rfl) (by kernel_rfl) (by kernel_rfl)) ?_
  intro W base args ds gs before hval0 hW hcnd hsz0 _
  have hval : ∀ (j : Nat) t v, Try.f8.params[j]? = some t → args[j]? = some v → Value.okWide Try.prog W .any base t v := hval0
  have hW' := hW
  obtain ⟨p, q, hA0, hV, rfl, hfz, hnd⟩ := hW
  have hA : DataW.TrodAll enc Try.prog W 0 (fun _ => true) true Try.f8.params.toList args.toList ds p := hA0
  rw [Try.params8] at hA hval
  obtain ⟨v0, vs0, d0, ds0, p0, q0, hargs, rfl, rfl, h0, r0⟩ := trodAll_cons hA
  obtain ⟨v1, vs1, d1, ds1, p1, q1, rfl, rfl, rfl, h1, r1⟩ := trodAll_cons r0
  obtain ⟨v2, vs2, d2, ds2, p2, q2, rfl, rfl, rfl, h2, r2⟩ := trodAll_cons r1
  obtain ⟨rfl, rfl, rfl⟩ := trodAll_nil r2
  obtain rfl : args = #[v0, v1, v2] := by cases args; simp_all
  obtain ⟨rfl, rfl⟩ := trodVars_none hV
  have k0 := h0
  have lt0 : ∀ x ∈ p0, x.block < W.heap.size := by obtain ⟨m, hm⟩ := k0; exact DataW.trod_lt m _ _ _ hm
  obtain ⟨z0, rd0, zl0, zw0⟩ : ∃ z : (List S_Run), Rds v0 z.length 2 (z.flatMap F_Run.cells) W ∧ z.length ≤ 9223372036854775807 ∧ ∀ x ∈ z, -9223372036854775808 ≤ x.f_At ∧ x.f_At ≤ 9223372036854775807 ∧ -9223372036854775808 ≤ x.f_N ∧ x.f_N ≤ 9223372036854775807 := by
    obtain ⟨fuel, hf⟩ := k0
    exact open_list F_Run _ okL_Run Try.underlying22 (d := 9) (by kernel_rfl) (by kernel_rfl) (okWide_slice Try.underlying22 (hval 0 22 v0 rfl rfl)) hf
  obtain ⟨z1, rfl, rfl, rfl, w1⟩ := open_int Try.underlying3 (hval 1 3 v1 rfl rfl) h1
  obtain ⟨z2, rfl, rfl, rfl⟩ := open_bool Try.underlying4 (hval 2 4 v2 rfl rfl) h2
  clear hA0 hval0 hsz0
  obtain ⟨k, hk⟩ := extentTurns_law z0 z1 z2 zl0 zw0 (bounds_i64 w1)
  refine (scriniumlaw06_ExtentTurns_ok k W z0 z1 z2 v0 rd0 true hk).mono fun e W' ⟨v, he, hv, fr⟩ => ?_
  subst he hv
  have bel := fr.below
  exact ⟨_, rfl, _, _, _, [], _, [], hW', trodAll_mk1 (shut_bool Try.underlying4 _), (trodAll_cons_mk (Below.trod laidOut (by kernel_rfl) (of_decide_eq_true (by kernel_rfl)) k0 bel lt0) (trodAll_cons_mk (shut_int Try.underlying3 w1) (trodAll_cons_mk (shut_bool Try.underlying4 _) trodAll_mk0))), rfl, bel.frame _, fun h => by cases h⟩
theorem over : Rows.extentTurnsRow.holds Try.pinned (OpenSpec.ofChange Rows.extentTurnsSpec) :=
  OpenClaim.holds_of_wide 8 Try.f8 rfl rfl rfl rfl rfl rfl rfl ⟨rfl, rfl, rfl, rfl, rfl⟩ rfl rfl rfl rfl rfl (by kernel_rfl) Try.func8 (by kernel_rfl)
    (of_decide_eq_true (by kernel_rfl)) (by unfold Func.isWrapper; first | (rw [if_pos (by decide +kernel)]; kernel_rfl) | (rw [if_neg (by decide +kernel)]; exact ⟨rfl, rfl⟩))
    (fun os started H enc _ => lifted os started H enc)
end Go.Proofs.Ytmpnlafggebaiaa.extentTurns
namespace Go.Proofs.Ytmpnlafggebaiaa
/-- The law, for every input. -/
theorem extentTurns_holds : Rows.ExtentTurnsSaid := extentTurns.over
end Go.Proofs.Ytmpnlafggebaiaa
