/- The plain law of ExtentFiles. No condition. -/
import Derived.Test.YtmpnlafggebaiaaLW1
import Derived.Test.YtmpnlafggebaiaaLI
import Derived.Test.YtmpnlafggebaiaaLPc
set_option linter.unusedVariables false
set_option linter.unusedSimpArgs false
namespace Go.Proofs.Ytmpnlafggebaiaa
def ExtentFilesPure : Prop := ∀ (p0 : (List S_Run)) (p1 : (List S_Run)) (p2 : S_T37), (p0.length ≤ 9223372036854775807) → (∀ x ∈ p0, -9223372036854775808 ≤ x.f_At ∧ x.f_At ≤ 9223372036854775807 ∧ -9223372036854775808 ≤ x.f_N ∧ x.f_N ≤ 9223372036854775807) → (p1.length ≤ 9223372036854775807) → (∀ x ∈ p1, -9223372036854775808 ≤ x.f_At ∧ x.f_At ≤ 9223372036854775807 ∧ -9223372036854775808 ≤ x.f_N ∧ x.f_N ≤ 9223372036854775807) → (-9223372036854775808 ≤ p2.e_0 ∧ p2.e_0 ≤ 9223372036854775807 ∧ -9223372036854775808 ≤ p2.e_1 ∧ p2.e_1 ≤ 9223372036854775807) → ∃ k, scriniumlaw06_ExtentFiles.f k p0 p1 p2 = some true
theorem files_loop (q : S_T37) (hq : I64 q.e_0 ∧ I64 q.e_1) (a b : List S_Run) (oa : OkR a) (ob : OkR b) (na : a.length ≤ 12) (nb : b.length ≤ 12) (l : List Int) (hl : l.length ≤ 1000000000) :
    ∀ (m i : Nat), i + m = l.length → Ev (fun k => scriniumlaw06_ExtentFiles.l1 q k true a b l l (i : Int)) true
  | 0, i, h => by
    refine Ev.succ ?_
    simp only [scriniumlaw06_ExtentFiles.l1]
    have r1 := restF_len q.e_0.toNat q.e_1.toNat a
    have r2 := restF_len 0 q.e_0.toNat a
    have r3 := restF_len q.e_0.toNat 1125899906842624 a
    have r4 := joinF_len a b
    refine Ev.ff (by simp <;> omega) ?_
    refine Ev.bind (rest_ev' oa (by omega) _ _ hq.1.2 hq.2.2) (Ev.bind (refrest_ev oa (by omega) _ _ hq.1.2 hq.2.1 hq.2.2) (Ev.bind (same_ev _ (by omega)) ?_))
    refine Ev.bind (Ev.all fun k => join_ev k a b (by omega) oa ob) (Ev.bind (Ev.all fun k => refjoin_ev k a b (by omega) oa ob) (Ev.bind (same_ev _ (by omega)) ?_))
    refine Ev.bind (cut_ev' oa (by omega) _ hq.1.2) (Ev.bind (refcut_ev oa (by omega) _ hq.1.1 hq.1.2) (Ev.bind (same_ev _ (by simp only; omega)) (Ev.bind (same_ev _ (by simp only; omega)) ?_)))
    simpa using Ev.pure true
  | m + 1, i, h => by
    refine Ev.succ ?_
    simp only [scriniumlaw06_ExtentFiles.l1]
    have ih := files_loop q hq a b oa ob na nb l hl m (i + 1) (by omega)
    refine Ev.tt (by simp <;> omega) (Ev.pos (by omega) (Ev.pos (by omega) (Ev.ff (by simp) ?_)))
    rw [W64_id (by omega) (by omega)]
    simpa using ih
theorem extentFiles_law : ExtentFilesPure := by
  intro p0 p1 q hp _ hp1 _ hq
  have oa := fileF_ok p0
  have ob := fileF_ok p1
  have na := fileF_len p0
  have nb := fileF_len p1
  have hall := oa.len 12 na
  refine Ev.get ?_
  unfold scriniumlaw06_ExtentFiles.f
  refine Ev.bind awake_ev (Ev.bind (file_ev p0 hp) (Ev.bind (file_ev p1 hp1) (Ev.bind (all_ev oa (by omega) (by omega)) (Ev.bind (refall_ev oa (by omega) (by omega)) ?_))))
  refine Ev.ff (by simp) ?_
  exact files_loop q ⟨⟨hq.1, hq.2.1⟩, hq.2.2.1, hq.2.2.2⟩ _ _ oa ob na nb _ (by omega) (allR (fileF p0)).length 0 (by omega)
end Go.Proofs.Ytmpnlafggebaiaa
