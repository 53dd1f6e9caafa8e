/- The row of the law VaultLasts, out of its contract and its plain law. No condition. -/
import Derived.Test.YtlepjakmadlkjaaGreatDoorT9
import Derived.Test.YtlepjakmadlkjaaGreatDoorTie
import Derived.Test.YtlepjakmadlkjaaGreatDoorCards
import Derived.SevenTiedAt
namespace Go.Proofs.YtlepjakmadlkjaaGreatDoor.vaultLasts
open Go.ChangeShapes Go.WideShapes Go.ChangeAt Go.RowKit
set_option linter.unusedVariables false
theorem own : ownKnob Tryz.prog.godebug = none := by kernel_rfl
theorem laidOut : laidOutB Tryz.prog = true := by kernel_rfl
abbrev laidL : List (String × DataW Unit) := [("scrinium/sha.keys", Rows.laid_scrinium_sha_keys)]
theorem plainL (W : World) : laidMetH Tryz.prog laidL W → laidMet Tryz.prog laidL W := by
  intro h
  rw [MakeChecks.laidMetH_plain _ _ _ (by kernel_rfl)] at h
  exact h
theorem door_met (os : Os) (args : Array Value) : laidMetH Tryz.prog laidL ((World.doorLaid Tryz.prog 400 os).forCall (fun _ _ => 0) ⟨#[], args, []⟩).memory := by
  rw [MakeChecks.laidMetH_plain _ _ _ (by kernel_rfl)]
  exact laidMet_of_run' 8 (by kernel_rfl) (by kernel_rfl)
set_option maxRecDepth 100000 in
theorem lifted (os : Os) (started : os.Started) (H : Type) (enc : TypeId × Value → H) :
    ReturnsInHanded {} Tryz.checked os 7 .any (fun w args => (Rows.vaultLastsSpec.pre enc Tryz.prog Tryz.f7 [] false w args ∧ laidMetH Tryz.prog laidL w) ∧ sizedMet enc Tryz.prog Tryz.f7 (OpenSpec.ofChange Rows.vaultLastsSpec) false w args) (Rows.vaultLastsSpec.post enc Tryz.prog Tryz.f7 false true false false) := by
  refine vo (C := Tryz.checked) (X := fun w _ => laidMetH Tryz.prog laidL w) (fun _ _ _ hh h => h.of_heap hh) own started (by kernel_rfl) Tryz.func7
    (ChangeSpec.witness_shaped (enc := enc) (C := Tryz.checked) (os := os) (X := fun w _ => laidMetH Tryz.prog laidL w) false (World.doorLaid Tryz.prog 400 os) #[.agg #[.int .i64 0, .int .i64 0, .int .i64 0, .int .i64 0], .slice none 0 0, .slice none 0 0] 8 rfl (World.shaped_of_RefB (by kernel_rfl) (by kernel_rfl)) (by kernel_rfl) (by kernel_rfl) (by kernel_rfl) (door_met os _)) ?_
  intro W base args ds gs before hval0 hW hL hsh
  have hL2 := plainL W hL
  have hval : ∀ (j : Nat) t v, Tryz.f7.params[j]? = some t → args[j]? = some v → Value.okWide Tryz.prog W .any base t v := hval0
  have hW' := hW
  obtain ⟨p, q, hA0, hV, rfl, hfz, hnd⟩ := hW
  have hA : DataW.TrodAll enc Tryz.prog W 0 (fun _ => true) true Tryz.f7.params.toList args.toList ds p := hA0
  rw [Tryz.params7] at hA hval
  obtain ⟨v0, vs0, d0, ds0, p0, q0, hargs, rfl, rfl, h0, r0⟩ := trodAll_cons hA
  obtain ⟨v1, vs1, d1, ds1, p1, q1, rfl, rfl, rfl, h1, r1⟩ := trodAll_cons r0
  obtain ⟨v2, vs2, d2, ds2, p2, q2, rfl, rfl, rfl, h2, r2⟩ := trodAll_cons r1
  obtain ⟨rfl, rfl, rfl⟩ := trodAll_nil r2
  obtain rfl : args = #[v0, v1, v2] := by cases args; simp_all
  obtain ⟨rfl, rfl⟩ := trodVars_none hV
  have lt0 : ∀ x ∈ p0, x.block < W.heap.size := by have k := h0; obtain ⟨m, hm⟩ := k; exact DataW.trod_lt m _ _ _ hm
  obtain ⟨z0, ro0, w0⟩ := vm (u := (.arr 4 (.int .i64))) (by kernel_rfl) (by kernel_rfl) (hval 0 64 v0 rfl rfl) h0
  have lt1 : ∀ x ∈ p1, x.block < W.heap.size := by have k := h1; obtain ⟨m, hm⟩ := k; exact DataW.trod_lt m _ _ _ hm
  obtain ⟨z1, ro1, w1⟩ := vm (u := (.sl 31 (.pair (.pair (.int .i64) (.pair (.int .i64) (.pair (.int .i64) (.pair (.int .i64) .str)))) (.pair (.int .i64) .bool)))) (by kernel_rfl) (by kernel_rfl) (hval 1 23 v1 rfl rfl) h1
  have lt2 : ∀ x ∈ p2, x.block < W.heap.size := by have k := h2; obtain ⟨m, hm⟩ := k; exact DataW.trod_lt m _ _ _ hm
  obtain ⟨z2, ro2, w2⟩ := vm (u := (.sl 31 (.pair (.pair (.int .i64) (.pair (.int .i64) (.pair (.int .i64) (.pair (.int .i64) .str)))) (.pair (.int .i64) .bool)))) (by kernel_rfl) (by kernel_rfl) (hval 2 23 v2 rfl rfl) h2
  clear hA0 hval0
  obtain ⟨k, hk⟩ := vG z0 z1 z2 w0 w1 w2
  refine (Dv (c := df) (k := k) (x := (z0, z1, z2, ak)) (y := true) jr rfl (ds := [⟨(.arr 4 (.int .i64)), z0⟩, ⟨(.sl 31 (.pair (.pair (.int .i64) (.pair (.int .i64) (.pair (.int .i64) (.pair (.int .i64) .str)))) (.pair (.int .i64) .bool))), z1⟩, ⟨(.sl 31 (.pair (.pair (.int .i64) (.pair (.int .i64) (.pair (.int .i64) (.pair (.int .i64) .str)))) (.pair (.int .i64) .bool))), z2⟩]) (vs := [v0, v1, v2]) (gs := [td]) (.cons ro0 (.cons ro1 (.cons ro2 .nil))) (List.forall_mem_cons.2 ⟨H8 (name := "scrinium/sha.keys") (gl := td) hsh (by kernel_rfl) (by kernel_rfl) (of_decide_eq_true (by kernel_rfl)) (Lib.tabIs_of_head (g := 0) (t := 217) (e := 194) (n := 64) (by kernel_rfl) (by kernel_rfl) (by kernel_rfl) (by kernel_rfl) (by kernel_rfl) (by kernel_rfl) hL2), (by intro gl hgl; cases hgl)⟩) (by decide) (L6 rfl) (by decide) hk (by rfl) rfl (fun _ _ => rfl)).mono fun e W' ⟨v, he, hv, fr⟩ => ?_
  subst he hv
  have bel := fr.below
  exact ⟨_, rfl, _, _, _, [], _, [], hW', trodAll_mk1 (shut_bool Tryz.underlying4 _), (trodAll_cons_mk (Below.trod laidOut (by kernel_rfl) (of_decide_eq_true (by kernel_rfl)) h0 bel lt0) (trodAll_cons_mk (Below.trod laidOut (by kernel_rfl) (of_decide_eq_true (by kernel_rfl)) h1 bel lt1) (trodAll_cons_mk (Below.trod laidOut (by kernel_rfl) (of_decide_eq_true (by kernel_rfl)) h2 bel lt2) trodAll_mk0))), rfl, bel.frame _, fun h => by cases h⟩
theorem over : Rows.vaultLastsRow.holds Tryz.pinned (OpenSpec.ofChange Rows.vaultLastsSpec) :=
  OpenClaim.holds_of_wide 7 Tryz.f7 rfl rfl rfl rfl rfl rfl rfl ⟨rfl, rfl, rfl, rfl, rfl⟩ rfl rfl rfl rfl rfl (by kernel_rfl) Tryz.func7 (by kernel_rfl)
    (of_decide_eq_true (by kernel_rfl)) (by unfold Func.isWrapper; first | (rw [if_pos (by decide +kernel)]; kernel_rfl) | (rw [if_neg (by decide +kernel)]; exact ⟨rfl, rfl⟩))
    (fun os started H enc _ => lifted os started H enc)
end Go.Proofs.YtlepjakmadlkjaaGreatDoor.vaultLasts
namespace Go.Proofs.YtlepjakmadlkjaaGreatDoor
/-- The law, for every input. -/
theorem vaultLasts_holds : Rows.VaultLastsCardSaid :=
  Claim7.holds_tied_plain_at .later [] [.data] true (true, "bdc5196e3f663067f7f6b5a0d7802f18ddb89e279428c154d2e37a666e5f7c10") false vaultLasts.over (fun _ h => by cases h) (by kernel_rfl) (fun _ h => by cases h) vaultLasts_row_tie rfl ⟨rfl, rfl⟩ (by kernel_rfl) rfl
    (fun f fn hf hfn => by
      obtain rfl : f = 7 := Option.some.inj ((show Tryz.prog.funcNamed "scrinium/scriniumlaw20.VaultLasts" = some 7 by kernel_rfl).symm.trans hf) |>.symm
      obtain rfl : fn = Tryz.f7 := (Option.some.inj (Tryz.func7.symm.trans hfn)).symm
      exact ⟨by kernel_rfl, fun j t ht => by
        have hm : t ∈ [64, 23, 23] := by
          have h1 : Tryz.f7.params.toList = [64, 23, 23] := by kernel_rfl
          rw [← h1]
          exact (Array.mem_toList_iff).2 (Array.mem_of_getElem? ht)
        have hall : ([64, 23, 23].all fun u => !Tryz.prog.wantsStandIn u) = true := by kernel_rfl
        exact (show Tryz.prog.wantsStandIn t = false by simpa using List.all_eq_true.1 hall t hm)⟩)
    (by kernel_rfl)
end Go.Proofs.YtlepjakmadlkjaaGreatDoor
