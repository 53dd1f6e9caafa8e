/- The row of the law RedoWhole, out of its contract and its plain law. No condition. -/
import Derived.Test.YtlidgpepppjeiaaDoorT11
import Derived.Test.YtlidgpepppjeiaaDoorTie
import Derived.Test.YtlidgpepppjeiaaDoorCards
import Derived.SevenTiedAt
namespace Go.Proofs.YtlidgpepppjeiaaDoor.redoWhole
open Go.ChangeShapes Go.WideShapes Go.ChangeAt Go.RowKit
set_option linter.unusedVariables false
theorem own : ownKnob Tryd.prog.godebug = none := by kernel_rfl
theorem laidOut : laidOutB Tryd.prog = true := by kernel_rfl
abbrev laidL : List (String × DataW Unit) := [("scrinium/check.table", Rows.laid_scrinium_check_table)]
theorem plainL (W : World) : laidMetH Tryd.prog laidL W → laidMet Tryd.prog laidL W := by
  intro h
  rw [MakeChecks.laidMetH_plain _ _ _ (by kernel_rfl)] at h
  exact h
theorem door_met (os : Os) (args : Array Value) : laidMetH Tryd.prog laidL ((World.doorLaid Tryd.prog 400 os).forCall (fun _ _ => 0) ⟨#[], args, []⟩).memory := by
  rw [MakeChecks.laidMetH_plain _ _ _ (by kernel_rfl)]
  exact laidMet_of_run' 8 (by kernel_rfl) (by kernel_rfl)
set_option maxRecDepth 100000 in
theorem lifted (os : Os) (started : os.Started) (H : Type) (enc : TypeId × Value → H) :
    ReturnsInHanded {} Tryd.checked os 8 .any (fun w args => (Rows.redoWholeSpec.pre enc Tryd.prog Tryd.f8 [] false w args ∧ laidMetH Tryd.prog laidL w) ∧ sizedMet enc Tryd.prog Tryd.f8 (OpenSpec.ofChange Rows.redoWholeSpec) false w args) (Rows.redoWholeSpec.post enc Tryd.prog Tryd.f8 false true false false) := by
  refine returns_shaped (C := Tryd.checked) (X := fun w _ => laidMetH Tryd.prog laidL w) (fun _ _ _ hh h => h.of_heap hh) own started (by kernel_rfl) Tryd.func8
    (ChangeSpec.witness_shaped (enc := enc) (C := Tryd.checked) (os := os) (X := fun w _ => laidMetH Tryd.prog laidL w) false (World.doorLaid Tryd.prog 400 os) #[.int .i64 0, .slice none 0 0] 8 rfl (World.shaped_of_RefB (by kernel_rfl) (by kernel_rfl)) (by kernel_rfl) (by kernel_rfl) (by kernel_rfl) (door_met os _)) ?_
  intro W base args ds gs before hval0 hW hL hsh
  have hL2 := plainL W hL
  have hval : ∀ (j : Nat) t v, Tryd.f8.params[j]? = some t → args[j]? = some v → Value.okWide Tryd.prog W .any base t v := hval0
  have hW' := hW
  obtain ⟨p, q, hA0, hV, rfl, hfz, hnd⟩ := hW
  have hA : DataW.TrodAll enc Tryd.prog W 0 (fun _ => true) true Tryd.f8.params.toList args.toList ds p := hA0
  rw [Tryd.params8] at hA hval
  obtain ⟨v0, vs0, d0, ds0, p0, q0, hargs, rfl, rfl, h0, r0⟩ := trodAll_cons hA
  obtain ⟨v1, vs1, d1, ds1, p1, q1, rfl, rfl, rfl, h1, r1⟩ := trodAll_cons r0
  obtain ⟨rfl, rfl, rfl⟩ := trodAll_nil r1
  obtain rfl : args = #[v0, v1] := by cases args; simp_all
  obtain ⟨rfl, rfl⟩ := trodVars_none hV
  have lt0 : ∀ x ∈ p0, x.block < W.heap.size := by have k := h0; obtain ⟨m, hm⟩ := k; exact DataW.trod_lt m _ _ _ hm
  obtain ⟨z0, ro0, w0⟩ := open_arg (u := (.int .i64)) (by kernel_rfl) (by kernel_rfl) (hval 0 3 v0 rfl rfl) h0
  have lt1 : ∀ x ∈ p1, x.block < W.heap.size := by have k := h1; obtain ⟨m, hm⟩ := k; exact DataW.trod_lt m _ _ _ hm
  obtain ⟨z1, ro1, w1⟩ := open_arg (u := (.sl 62 (.pair (.int .i64) (.pair (.int .i64) (.pair (.sl 43 (.pair (.int .i64) (.int .u8))) (.sl 3 (.int .i64))))))) (by kernel_rfl) (by kernel_rfl) (hval 1 60 v1 rfl rfl) h1
  clear hA0 hval0
  obtain ⟨k, hk⟩ := redoWhole_law z0 z1 w0 w1
  refine (law_doneG (c := L_law07_RedoWhole_) (k := k) (x := (z0, z1, vgl_check_table)) (y := true) ok_law07_RedoWhole rfl (ds := [⟨(.int .i64), z0⟩, ⟨(.sl 62 (.pair (.int .i64) (.pair (.int .i64) (.pair (.sl 43 (.pair (.int .i64) (.int .u8))) (.sl 3 (.int .i64)))))), z1⟩]) (vs := [v0, v1]) (gs := [gl_check_table]) (.cons ro0 (.cons ro1 .nil)) (List.forall_mem_cons.2 ⟨glob_ok (name := "scrinium/check.table") (gl := gl_check_table) hsh (by kernel_rfl) (by kernel_rfl) (of_decide_eq_true (by kernel_rfl)) (Lib.tabIs_of_head (g := 0) (t := 134) (e := 110) (n := 16) (by kernel_rfl) (by kernel_rfl) (by kernel_rfl) (by kernel_rfl) (by kernel_rfl) (by kernel_rfl) hL2), (by intro gl hgl; cases hgl)⟩) (by decide) (allK rfl) (by decide) hk (by rfl) rfl (fun _ _ => rfl)).mono fun e W' ⟨v, he, hv, fr⟩ => ?_
  subst he hv
  have bel := fr.below
  exact ⟨_, rfl, _, _, _, [], _, [], hW', trodAll_mk1 (shut_bool Tryd.underlying4 _), (trodAll_cons_mk (Below.trod laidOut (by kernel_rfl) (of_decide_eq_true (by kernel_rfl)) h0 bel lt0) (trodAll_cons_mk (Below.trod laidOut (by kernel_rfl) (of_decide_eq_true (by kernel_rfl)) h1 bel lt1) trodAll_mk0)), rfl, bel.frame _, fun h => by cases h⟩
theorem over : Rows.redoWholeRow.holds Tryd.pinned (OpenSpec.ofChange Rows.redoWholeSpec) :=
  OpenClaim.holds_of_wide 8 Tryd.f8 rfl rfl rfl rfl rfl rfl rfl ⟨rfl, rfl, rfl, rfl, rfl⟩ rfl rfl rfl rfl rfl (by kernel_rfl) Tryd.func8 (by kernel_rfl)
    (of_decide_eq_true (by kernel_rfl)) (by unfold Func.isWrapper; first | (rw [if_pos (by decide +kernel)]; kernel_rfl) | (rw [if_neg (by decide +kernel)]; exact ⟨rfl, rfl⟩))
    (fun os started H enc _ => lifted os started H enc)
end Go.Proofs.YtlidgpepppjeiaaDoor.redoWhole
namespace Go.Proofs.YtlidgpepppjeiaaDoor
/-- The law, for every input. -/
theorem redoWhole_holds : Rows.RedoWholeCardSaid :=
  Claim7.holds_tied_plain_at .later [] [.data] true (true, "bd06321f57839d69c64b10ae8cfb8e7f62c3aa26b305f299f97fb59f58a942a8") false redoWhole.over (fun _ h => by cases h) (by kernel_rfl) (fun _ h => by cases h) redoWhole_row_tie rfl ⟨rfl, rfl⟩ (by kernel_rfl) rfl
    (fun f fn hf hfn => by
      obtain rfl : f = 8 := Option.some.inj ((show Tryd.prog.funcNamed "scrinium/scriniumlaw07.RedoWhole" = some 8 by kernel_rfl).symm.trans hf) |>.symm
      obtain rfl : fn = Tryd.f8 := (Option.some.inj (Tryd.func8.symm.trans hfn)).symm
      exact ⟨by kernel_rfl, fun j t ht => by
        have hm : t ∈ [3, 60] := by
          have h1 : Tryd.f8.params.toList = [3, 60] := by kernel_rfl
          rw [← h1]
          exact (Array.mem_toList_iff).2 (Array.mem_of_getElem? ht)
        have hall : ([3, 60].all fun u => !Tryd.prog.wantsStandIn u) = true := by kernel_rfl
        exact (show Tryd.prog.wantsStandIn t = false by simpa using List.all_eq_true.1 hall t hm)⟩)
    (by kernel_rfl)
end Go.Proofs.YtlidgpepppjeiaaDoor
