/- The row of the law ImageGoes, out of its contract and its plain law. No condition. -/
import Derived.Test.YthdgllldpfeelaaGreatDoorT11
import Derived.Test.YthdgllldpfeelaaGreatDoorTie
import Derived.Test.YthdgllldpfeelaaGreatDoorCards
import Derived.SevenTiedAt
namespace Go.Proofs.YthdgllldpfeelaaGreatDoor.imageGoes
open Go.ChangeShapes Go.WideShapes Go.ChangeAt Go.RowKit
set_option linter.unusedVariables false
theorem own : ownKnob Tryz.prog.godebug = none := by kernel_rfl
theorem laidOut : laidOutB Tryz.prog = true := by kernel_rfl
abbrev laidL : List (String × DataW Unit) := [("math/bits.deBruijn32tab", Rows.laid_math_bits_deBruijn32tab), ("math/bits.deBruijn64tab", Rows.laid_math_bits_deBruijn64tab), ("internal/strconv.uint64pow10", Rows.laid_internal_strconv_uint64pow10), ("scrinium/sha.keys", Rows.laid_scrinium_sha_keys)]
theorem plainL (W : World) : laidMetH Tryz.prog laidL W → laidMet Tryz.prog laidL W := by
  intro h
  rw [MakeChecks.laidMetH_plain _ _ _ (by kernel_rfl)] at h
  exact h
theorem door_met (os : Os) (args : Array Value) : laidMetH Tryz.prog laidL ((World.doorLaid Tryz.prog 400 os).forCall (fun _ _ => 0) ⟨#[], args, []⟩).memory := by
  rw [MakeChecks.laidMetH_plain _ _ _ (by kernel_rfl)]
  exact laidMet_of_run' 8 (by kernel_rfl) (by kernel_rfl)
set_option maxRecDepth 100000 in
theorem lifted (os : Os) (started : os.Started) (H : Type) (enc : TypeId × Value → H) :
    ReturnsInHanded {} Tryz.checked os 4 .any (fun w args => (Rows.imageGoesSpec.pre enc Tryz.prog Tryz.f4 [] false w args ∧ laidMetH Tryz.prog laidL w) ∧ sizedMet enc Tryz.prog Tryz.f4 (OpenSpec.ofChange Rows.imageGoesSpec) false w args) (Rows.imageGoesSpec.post enc Tryz.prog Tryz.f4 false true false false) := by
  refine returns_shaped (C := Tryz.checked) (X := fun w _ => laidMetH Tryz.prog laidL w) (fun _ _ _ hh h => h.of_heap hh) own started (by kernel_rfl) Tryz.func4
    (ChangeSpec.witness_shaped (enc := enc) (C := Tryz.checked) (os := os) (X := fun w _ => laidMetH Tryz.prog laidL w) false (World.doorLaid Tryz.prog 400 os) #[.slice none 0 0, .slice none 0 0] 8 rfl (World.shaped_of_RefB (by kernel_rfl) (by kernel_rfl)) (by kernel_rfl) (by kernel_rfl) (by kernel_rfl) (door_met os _)) ?_
  intro W base args ds gs before hval0 hW hL hsh
  have hL2 := plainL W hL
  have hval : ∀ (j : Nat) t v, Tryz.f4.params[j]? = some t → args[j]? = some v → Value.okWide Tryz.prog W .any base t v := hval0
  have hW' := hW
  obtain ⟨p, q, hA0, hV, rfl, hfz, hnd⟩ := hW
  have hA : DataW.TrodAll enc Tryz.prog W 0 (fun _ => true) true Tryz.f4.params.toList args.toList ds p := hA0
  rw [Tryz.params4] at hA hval
  obtain ⟨v0, vs0, d0, ds0, p0, q0, hargs, rfl, rfl, h0, r0⟩ := trodAll_cons hA
  obtain ⟨v1, vs1, d1, ds1, p1, q1, rfl, rfl, rfl, h1, r1⟩ := trodAll_cons r0
  obtain ⟨rfl, rfl, rfl⟩ := trodAll_nil r1
  obtain rfl : args = #[v0, v1] := by cases args; simp_all
  obtain ⟨rfl, rfl⟩ := trodVars_none hV
  have lt0 : ∀ x ∈ p0, x.block < W.heap.size := by have k := h0; obtain ⟨m, hm⟩ := k; exact DataW.trod_lt m _ _ _ hm
  obtain ⟨z0, ro0, w0⟩ := open_arg (u := (.sl 26 (.pair .str .str))) (by kernel_rfl) (by kernel_rfl) (hval 0 22 v0 rfl rfl) h0
  have lt1 : ∀ x ∈ p1, x.block < W.heap.size := by have k := h1; obtain ⟨m, hm⟩ := k; exact DataW.trod_lt m _ _ _ hm
  obtain ⟨z1, ro1, w1⟩ := open_arg (u := (.sl 26 (.pair .str .str))) (by kernel_rfl) (by kernel_rfl) (hval 1 22 v1 rfl rfl) h1
  clear hA0 hval0
  obtain ⟨k, hk⟩ := imageGoes_law z0 z1 w0 w1
  refine (law_doneG (c := L_law21_ImageGoes_) (k := k) (x := (z0, z1, vgl_strconv_uint64pow10, vgl_sha_keys, vgl_bits_deBruijn32tab, vgl_bits_deBruijn64tab)) (y := true) ok_law21_ImageGoes rfl (ds := [⟨(.sl 26 (.pair .str .str)), z0⟩, ⟨(.sl 26 (.pair .str .str)), z1⟩]) (vs := [v0, v1]) (gs := [gl_strconv_uint64pow10, gl_sha_keys, gl_bits_deBruijn32tab, gl_bits_deBruijn64tab]) (.cons ro0 (.cons ro1 .nil)) (List.forall_mem_cons.2 ⟨glob_ok (name := "internal/strconv.uint64pow10") (gl := gl_strconv_uint64pow10) hsh (by kernel_rfl) (by kernel_rfl) (of_decide_eq_true (by kernel_rfl)) (Lib.tabIs_of_head (g := 1) (t := 325) (e := 126) (n := 20) (by kernel_rfl) (by kernel_rfl) (by kernel_rfl) (by kernel_rfl) (by kernel_rfl) (by kernel_rfl) (laidMet_tail (laidMet_tail hL2))), (List.forall_mem_cons.2 ⟨glob_ok (name := "scrinium/sha.keys") (gl := gl_sha_keys) hsh (by kernel_rfl) (by kernel_rfl) (of_decide_eq_true (by kernel_rfl)) (Lib.tabIs_of_head (g := 2) (t := 302) (e := 244) (n := 64) (by kernel_rfl) (by kernel_rfl) (by kernel_rfl) (by kernel_rfl) (by kernel_rfl) (by kernel_rfl) (laidMet_tail (laidMet_tail (laidMet_tail hL2)))), (List.forall_mem_cons.2 ⟨glob_ok (name := "math/bits.deBruijn32tab") (gl := gl_bits_deBruijn32tab) hsh (by kernel_rfl) (by kernel_rfl) (of_decide_eq_true (by kernel_rfl)) (Lib.tabIs_of_head (g := 3) (t := 56) (e := 5) (n := 32) (by kernel_rfl) (by kernel_rfl) (by kernel_rfl) (by kernel_rfl) (by kernel_rfl) (by kernel_rfl) hL2), (List.forall_mem_cons.2 ⟨glob_ok (name := "math/bits.deBruijn64tab") (gl := gl_bits_deBruijn64tab) hsh (by kernel_rfl) (by kernel_rfl) (of_decide_eq_true (by kernel_rfl)) (Lib.tabIs_of_head (g := 4) (t := 334) (e := 5) (n := 64) (by kernel_rfl) (by kernel_rfl) (by kernel_rfl) (by kernel_rfl) (by kernel_rfl) (by kernel_rfl) (laidMet_tail hL2)), (by intro gl hgl; cases hgl)⟩)⟩)⟩)⟩) (by decide) (allK rfl) (by decide) hk (by rfl) rfl (fun _ _ => rfl)).mono fun e W' ⟨v, he, hv, fr⟩ => ?_
  subst he hv
  have bel := fr.below
  exact ⟨_, rfl, _, _, _, [], _, [], hW', trodAll_mk1 (shut_bool Tryz.underlying4 _), (trodAll_cons_mk (Below.trod laidOut (by kernel_rfl) (of_decide_eq_true (by kernel_rfl)) h0 bel lt0) (trodAll_cons_mk (Below.trod laidOut (by kernel_rfl) (of_decide_eq_true (by kernel_rfl)) h1 bel lt1) trodAll_mk0)), rfl, bel.frame _, fun h => by cases h⟩
theorem over : Rows.imageGoesRow.holds Tryz.pinned (OpenSpec.ofChange Rows.imageGoesSpec) :=
  OpenClaim.holds_of_wide 4 Tryz.f4 rfl rfl rfl rfl rfl rfl rfl ⟨rfl, rfl, rfl, rfl, rfl⟩ rfl rfl rfl rfl rfl (by kernel_rfl) Tryz.func4 (by kernel_rfl)
    (of_decide_eq_true (by kernel_rfl)) (by unfold Func.isWrapper; first | (rw [if_pos (by decide +kernel)]; kernel_rfl) | (rw [if_neg (by decide +kernel)]; exact ⟨rfl, rfl⟩))
    (fun os started H enc _ => lifted os started H enc)
end Go.Proofs.YthdgllldpfeelaaGreatDoor.imageGoes
namespace Go.Proofs.YthdgllldpfeelaaGreatDoor
/-- The law, for every input. -/
theorem imageGoes_holds : Rows.ImageGoesCardSaid :=
  Claim7.holds_tied_plain_at .later [] [.data, .data, .data, .data] true (true, "4728652250e1dd427ae5ce17f7baaee17cf684d005365336ae4ea9c605131ec5") false imageGoes.over (fun _ h => by cases h) (by kernel_rfl) (fun _ h => by cases h) imageGoes_row_tie rfl ⟨rfl, rfl⟩ (by kernel_rfl) rfl
    (fun f fn hf hfn => by
      obtain rfl : f = 4 := Option.some.inj ((show Tryz.prog.funcNamed "scrinium/scriniumlaw21.ImageGoes" = some 4 by kernel_rfl).symm.trans hf) |>.symm
      obtain rfl : fn = Tryz.f4 := (Option.some.inj (Tryz.func4.symm.trans hfn)).symm
      exact ⟨by kernel_rfl, fun j t ht => by
        have hm : t ∈ [22, 22] := by
          have h1 : Tryz.f4.params.toList = [22, 22] := by kernel_rfl
          rw [← h1]
          exact (Array.mem_toList_iff).2 (Array.mem_of_getElem? ht)
        have hall : ([22, 22].all fun u => !Tryz.prog.wantsStandIn u) = true := by kernel_rfl
        exact (show Tryz.prog.wantsStandIn t = false by simpa using List.all_eq_true.1 hall t hm)⟩)
    (by kernel_rfl)
end Go.Proofs.YthdgllldpfeelaaGreatDoor
