/- Texts of the proof, put together: part 10. No condition. -/
import Derived.Test.YtindlajlkghneaaDoorT9
/- The plain law of SuperTells. No condition. -/
set_option linter.unusedVariables false
set_option linter.unusedSimpArgs false
namespace Go.Proofs.YtindlajlkghneaaDoor
open Go
def SuperTellsPure : Prop := ∀ (z0 : Ty.den (.sl 31 (.arr 32 (.int .u8)))), wfT (.sl 31 (.arr 32 (.int .u8))) z0 → ∃ k, law18_SuperTells k (z0, vgl_sha_keys) = some true
theorem superTells_law : SuperTellsPure := by
  intro roots _
  refine ⟨1000, ?_⟩
  obtain ⟨lv, n, pk, hg, I⟩ := grown_ok roots
  obtain ⟨R, hR⟩ : ∃ R, R = roots.take 16 := ⟨_, rfl⟩
  rw [← hR] at hg I
  have hRl : R.length = min 16 roots.length := by rw [hR, List.length_take]
  have hal := grown_len R
  have hget := grown_get R
  obtain ⟨all, hall⟩ : ∃ all, all = grownF R := ⟨_, rfl⟩
  have hg2 : ∀ (i : Nat) (h : i < all.length), all[i] = ((3 * (i : Int)), (1 + (i : Int)), R[i]'(by rw [hall, hal] at h; exact h)) := by
    subst hall
    intro i h
    exact hget i (by rw [hal] at h; exact h)
  rw [← hall] at hg I hal
  unfold law18_SuperTells
  refine bind_of awake_ok (bind_of hg ?_)
  rw [caseS_inr]
  dsimp only
  refine bind_of (clone_fz all (by omega)) ?_
  rw [ine_f (rfl : llen all = llen all), condO_false]
  refine bind_of (a := (Sum.inr () : Bool ⊕ Unit)) ?_ ?_
  · refine loopK_run (fun i : Nat => (i : Int)) all.length _ 1000 (fun i hi => ?_) ?_ (by omega)
    · have hi' : (i : Int) < llen all := by unfold llen; omega
      have hfind : super_Super_Find 1000 (3 * (i : Int), all, lv, n, pk) = some ((i : Int), true) := by
        rcases find_ok all (3 * (i : Int)) lv n pk (by omega) with ⟨j, hj, hf, h3, _⟩ | ⟨_, h3⟩
        · rw [hg2 j hj] at h3
          have : j = i := by
            have h4 : 3 * (j : Int) = 3 * (i : Int) := h3
            omega
          rw [hf, this]
        · have := h3 all[i] (List.getElem_mem hi)
          rw [hg2 i hi] at this
          exact absurd rfl this
      have hat := at_yes all lv n pk hi
      rw [hg2 i hi] at hat
      have ea : at_ T5 all (i : Int) = ((3 * (i : Int)), (1 + (i : Int)), R[i]'(by omega)) := (at_nat (t := TF) hi).trans (hg2 i hi)
      have er : at_ T0 roots (i : Int) = R[i]'(by omega) := by
        rw [at_nat (t := TV) (by omega)]
        simp [hR]
      have e3 : WK .i64 (3 * (i : Int)) = 3 * (i : Int) := wk_i64 (by omega) (by omega)
      rw [ilt_t hi', condO_true, hat, Option.bind_some]
      dsimp only
      rw [hfind, Option.bind_some]
      dsimp only
      rw [ine_f (rfl : (0 : Int) = 0), condO_false, guardO_pos ⟨by omega, hi'⟩, ea, er, e3]
      dsimp only
      rw [sameI_self, ieq_t (rfl : 3 * (i : Int) = _), ieq_t (rfl : 1 + (i : Int) = _)]
      rw [show (!(true && (true && (true && true)))) = false from rfl, condO_false, guardO_pos ⟨by omega, by unfold llen; omega⟩, Bool.not_true, condO_false, ine_f (rfl : 3 * (i : Int) = _), condO_false, condO_false, ine_f (rfl : (i : Int) = _), condO_false, wk_i64 (by omega) (by omega)]
      rfl
    · rw [ilt_f (show llen all ≤ (all.length : Int) by unfold llen; omega), condO_false]
  · rw [caseS_inr]
    refine bind_of (at_no all lv n pk (i := llen all) (.inr (by unfold llen; omega))) (bind_of (at_no all lv n pk (i := -1) (.inl (by decide))) ?_)
    rfl
end Go.Proofs.YtindlajlkghneaaDoor
