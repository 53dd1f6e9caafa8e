/- Texts of the proof, put together: part 10. No condition. -/
import Derived.Test.YtindlajlkghneaaDoorT9
/- The plain law of SuperCopies. No condition. -/
set_option linter.unusedVariables false
set_option linter.unusedSimpArgs false
namespace Go.Proofs.YtindlajlkghneaaDoor
open Go
def SuperCopiesPure : Prop := ∀ (z0 : Ty.den (.sl 31 (.arr 32 (.int .u8)))) (z1 : Ty.den (.arr 32 (.int .u8))) (z2 : Ty.den (.arr 32 (.int .u8))), wfT (.sl 31 (.arr 32 (.int .u8))) z0 → wfT (.arr 32 (.int .u8)) z1 → wfT (.arr 32 (.int .u8)) z2 → ∃ k, law18_SuperCopies k (z1, z2, z0, vgl_sha_keys) = some true
theorem copy_ok {all : List Fz} {lv : List Vh} {n : Int} {pk : List Vh} (I : Inv all lv n pk) (hb : all.length ≤ 500) : super_Super_Copy 1000 (all, lv, n, pk) = some (all, lv, n, pk) := by
  have hlv : lv.length = all.length := by rw [I.lv_eq, List.length_map]
  have hps := stk_ps I.stk
  rw [List.length_reverse] at hps
  unfold super_Super_Copy
  refine bind_of (clone_fz all (by omega)) (bind_of (clone_vh lv (by omega)) (bind_of (a := (n, pk)) ?_ rfl))
  exact bind_of (clone_vh pk (by omega)) rfl
theorem superCopies_law : SuperCopiesPure := by
  intro roots a b _ _ _
  refine ⟨1000, ?_⟩
  obtain ⟨lv, n, pk, hg, I⟩ := grown_ok roots
  have hlen : (grownF (roots.take 16)).length ≤ 16 := by rw [grown_len, List.length_take]; omega
  have hlast : lastW (grownF (roots.take 16)) < 1000 := by
    have := grown_last (roots.take 16) (roots.take 16).length (Nat.le_refl _)
    rw [List.take_of_length_le (Nat.le_of_eq (grown_len _))] at this
    rw [grown_len] at hlen
    omega
  obtain ⟨all, hall⟩ : ∃ all, all = grownF (roots.take 16) := ⟨_, rfl⟩
  rw [← hall] at hg I hlen hlast
  obtain ⟨lv1, n1, pk1, g1, I1⟩ := anchor_go (w := 1000) (c := 1) a ⟨by decide, by decide, by decide, by decide⟩ I (by omega) hlast
  obtain ⟨lv2, n2, pk2, g2, I2⟩ := anchor_go (w := 2000) (c := 1) b ⟨by decide, by decide, by decide, by decide⟩ I (by omega) (by omega)
  unfold law18_SuperCopies
  refine bind_of awake_ok (bind_of hg ?_)
  rw [caseS_inr]
  dsimp only
  refine bind_of (copy_ok I (by omega)) ?_
  dsimp only
  refine bind_of (a := (Sum.inr () : Bool ⊕ Unit)) ?_ ?_
  · by_cases h0 : all = []
    · rw [ieq_t (show llen all = 0 by rw [h0]; rfl), condO_true]
      refine bind_of (sha_of [] (by simp) (by simp)) ?_
      rw [condO_true]
      refine bind_of (sha_of [] (by simp) (by simp)) ?_
      rw [sameI_self, Bool.not_true, condO_false, ine_f (rfl : llen all = llen all), condO_false]
    · have hl : 0 < all.length := List.length_pos_iff.2 h0
      rw [ieq_f (show llen all ≠ 0 by unfold llen; omega), condO_false]
      refine bind_of (froot_ok I h0 (by omega)) ?_
      rw [condO_false]
      refine bind_of (froot_ok I h0 (by omega)) ?_
      rw [sameI_self, Bool.not_true, condO_false, ine_f (rfl : llen all = llen all), condO_false]
  · rw [caseS_inr]
    have ha := at_yes (all ++ [(1000, 1, a)]) lv1 n1 pk1 (i := all.length) (by simp)
    have hb := at_yes (all ++ [(2000, 1, b)]) lv2 n2 pk2 (i := all.length) (by simp)
    rw [List.getElem_concat_length rfl] at ha hb
    refine bind_of g1 (bind_of g2 (bind_of ha (bind_of hb ?_)))
    dsimp only
    have e1 : llen (all ++ [((1000 : Int), (1 : Int), a)]) = (all.length : Int) + 1 := by unfold llen; simp
    have e2 : WK .i64 (llen all + 1) = (all.length : Int) + 1 := wk_i64 (by unfold llen; omega) (by unfold llen; omega)
    rw [sameI_self, sameI_self, e1, e2, ieq_t (rfl : (all.length : Int) + 1 = _)]
    rfl
end Go.Proofs.YtindlajlkghneaaDoor
