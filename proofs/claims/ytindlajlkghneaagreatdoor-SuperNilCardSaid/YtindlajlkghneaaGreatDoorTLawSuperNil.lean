/- The row of the law SuperNil, out of its contract and its plain law. No condition. -/
import Derived.Test.YtindlajlkghneaaGreatDoorT10
import Derived.Test.YtindlajlkghneaaGreatDoorTie
import Derived.Test.YtindlajlkghneaaGreatDoorCards
import Derived.SevenTiedAt
namespace Go.Proofs.YtindlajlkghneaaGreatDoor.superNil
open Go.ChangeShapes Go.WideShapes Go.ChangeAt Go.RowKit
set_option linter.unusedVariables false
theorem own : ownKnob Tryz.prog.godebug = none := by kernel_rfl
theorem laidOut : laidOutB Tryz.prog = true := by kernel_rfl
abbrev laidL : List (String × DataW Unit) := [("scrinium/sha.keys", Rows.laid_scrinium_sha_keys)]
theorem plainL (W : World) : laidMetH Tryz.prog laidL W → laidMet Tryz.prog laidL W := by
  intro h
  rw [MakeChecks.laidMetH_plain _ _ _ (by kernel_rfl)] at h
  exact h
theorem door_met (os : Os) (args : Array Value) : laidMetH Tryz.prog laidL ((World.doorLaid Tryz.prog 400 os).forCall (fun _ _ => 0) ⟨#[], args, []⟩).memory := by
  rw [MakeChecks.laidMetH_plain _ _ _ (by kernel_rfl)]
  exact laidMet_of_run' 8 (by kernel_rfl) (by kernel_rfl)
set_option maxRecDepth 100000 in
theorem lifted (os : Os) (started : os.Started) (H : Type) (enc : TypeId × Value → H) :
    ReturnsInHanded {} Tryz.checked os 5 .any (fun w args => (Rows.superNilSpec.pre enc Tryz.prog Tryz.f5 [] false w args ∧ laidMetH Tryz.prog laidL w) ∧ sizedMet enc Tryz.prog Tryz.f5 (OpenSpec.ofChange Rows.superNilSpec) false w args) (Rows.superNilSpec.post enc Tryz.prog Tryz.f5 false true false false) := by
  refine returns_shaped (C := Tryz.checked) (X := fun w _ => laidMetH Tryz.prog laidL w) (fun _ _ _ hh h => h.of_heap hh) own started (by kernel_rfl) Tryz.func5
    (ChangeSpec.witness_shaped (enc := enc) (C := Tryz.checked) (os := os) (X := fun w _ => laidMetH Tryz.prog laidL w) false (World.doorLaid Tryz.prog 400 os) #[.int .i64 0] 8 rfl (World.shaped_of_RefB (by kernel_rfl) (by kernel_rfl)) (by kernel_rfl) (by kernel_rfl) (by kernel_rfl) (door_met os _)) ?_
  intro W base args ds gs before hval0 hW hL hsh
  have hL2 := plainL W hL
  have hval : ∀ (j : Nat) t v, Tryz.f5.params[j]? = some t → args[j]? = some v → Value.okWide Tryz.prog W .any base t v := hval0
  have hW' := hW
  obtain ⟨p, q, hA0, hV, rfl, hfz, hnd⟩ := hW
  have hA : DataW.TrodAll enc Tryz.prog W 0 (fun _ => true) true Tryz.f5.params.toList args.toList ds p := hA0
  rw [Tryz.params5] at hA hval
  obtain ⟨v0, vs0, d0, ds0, p0, q0, hargs, rfl, rfl, h0, r0⟩ := trodAll_cons hA
  obtain ⟨rfl, rfl, rfl⟩ := trodAll_nil r0
  obtain rfl : args = #[v0] := by cases args; simp_all
  obtain ⟨rfl, rfl⟩ := trodVars_none hV
  have lt0 : ∀ x ∈ p0, x.block < W.heap.size := by have k := h0; obtain ⟨m, hm⟩ := k; exact DataW.trod_lt m _ _ _ hm
  obtain ⟨z0, ro0, w0⟩ := open_arg (u := (.int .i64)) (by kernel_rfl) (by kernel_rfl) (hval 0 3 v0 rfl rfl) h0
  clear hA0 hval0
  obtain ⟨k, hk⟩ := superNil_law z0 w0
  refine (law_doneG (c := L_law18_SuperNil_) (k := k) (x := (z0, vgl_sha_keys)) (y := true) ok_law18_SuperNil rfl (ds := [⟨(.int .i64), z0⟩]) (vs := [v0]) (gs := [gl_sha_keys]) (.cons ro0 .nil) (List.forall_mem_cons.2 ⟨glob_ok (name := "scrinium/sha.keys") (gl := gl_sha_keys) hsh (by kernel_rfl) (by kernel_rfl) (of_decide_eq_true (by kernel_rfl)) (Lib.tabIs_of_head (g := 0) (t := 138) (e := 113) (n := 64) (by kernel_rfl) (by kernel_rfl) (by kernel_rfl) (by kernel_rfl) (by kernel_rfl) (by kernel_rfl) hL2), (by intro gl hgl; cases hgl)⟩) (by decide) (allK rfl) (by decide) hk (by rfl) rfl (fun _ _ => rfl)).mono fun e W' ⟨v, he, hv, fr⟩ => ?_
  subst he hv
  have bel := fr.below
  exact ⟨_, rfl, _, _, _, [], _, [], hW', trodAll_mk1 (shut_bool Tryz.underlying4 _), (trodAll_cons_mk (Below.trod laidOut (by kernel_rfl) (of_decide_eq_true (by kernel_rfl)) h0 bel lt0) trodAll_mk0), rfl, bel.frame _, fun h => by cases h⟩
theorem over : Rows.superNilRow.holds Tryz.pinned (OpenSpec.ofChange Rows.superNilSpec) :=
  OpenClaim.holds_of_wide 5 Tryz.f5 rfl rfl rfl rfl rfl rfl rfl ⟨rfl, rfl, rfl, rfl, rfl⟩ rfl rfl rfl rfl rfl (by kernel_rfl) Tryz.func5 (by kernel_rfl)
    (of_decide_eq_true (by kernel_rfl)) (by unfold Func.isWrapper; first | (rw [if_pos (by decide +kernel)]; kernel_rfl) | (rw [if_neg (by decide +kernel)]; exact ⟨rfl, rfl⟩))
    (fun os started H enc _ => lifted os started H enc)
end Go.Proofs.YtindlajlkghneaaGreatDoor.superNil
namespace Go.Proofs.YtindlajlkghneaaGreatDoor
/-- The law, for every input. -/
theorem superNil_holds : Rows.SuperNilCardSaid :=
  Claim7.holds_tied_plain_at .later [] [.data] true (true, "43b0bea82ce76a0ef3a4456fabebdef4b647882d7c32918232e194a849765791") false superNil.over (fun _ h => by cases h) (by kernel_rfl) (fun _ h => by cases h) superNil_row_tie rfl ⟨rfl, rfl⟩ (by kernel_rfl) rfl
    (fun f fn hf hfn => by
      obtain rfl : f = 5 := Option.some.inj ((show Tryz.prog.funcNamed "scrinium/scriniumlaw18.SuperNil" = some 5 by kernel_rfl).symm.trans hf) |>.symm
      obtain rfl : fn = Tryz.f5 := (Option.some.inj (Tryz.func5.symm.trans hfn)).symm
      exact ⟨by kernel_rfl, fun j t ht => by
        have hm : t ∈ [3] := by
          have h1 : Tryz.f5.params.toList = [3] := by kernel_rfl
          rw [← h1]
          exact (Array.mem_toList_iff).2 (Array.mem_of_getElem? ht)
        have hall : ([3].all fun u => !Tryz.prog.wantsStandIn u) = true := by kernel_rfl
        exact (show Tryz.prog.wantsStandIn t = false by simpa using List.all_eq_true.1 hall t hm)⟩)
    (by kernel_rfl)
end Go.Proofs.YtindlajlkghneaaGreatDoor
