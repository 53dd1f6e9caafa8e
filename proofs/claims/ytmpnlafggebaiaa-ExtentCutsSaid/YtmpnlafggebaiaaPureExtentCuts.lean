/- The plain law of ExtentCuts. No condition. -/
import Derived.Test.YtmpnlafggebaiaaLW1
import Derived.Test.YtmpnlafggebaiaaLI
import Derived.Test.YtmpnlafggebaiaaLPb
set_option linter.unusedVariables false
set_option linter.unusedSimpArgs false
namespace Go.Proofs.Ytmpnlafggebaiaa
def ExtentCutsPure : Prop := ∀ (p0 : (List S_Run)) (p1 : Int), (p0.length ≤ 9223372036854775807) → (∀ x ∈ p0, -9223372036854775808 ≤ x.f_At ∧ x.f_At ≤ 9223372036854775807 ∧ -9223372036854775808 ≤ x.f_N ∧ x.f_N ≤ 9223372036854775807) → (-9223372036854775808 ≤ p1 ∧ p1 ≤ 9223372036854775807) → ∃ k, scriniumlaw06_ExtentCuts.f k p0 p1 = some true
theorem cuts_loop (x2 x3 : Int) (a b : List S_Run) (l : List Int) (hl : l.length ≤ 1000000000) (R : Ev (fun k => extent_Total.f k a) x3) (S : Ev (fun k => extent_Total.f k b) (W64 (x2 - x3))) :
    ∀ (m i : Nat), i + m = l.length → Ev (fun k => scriniumlaw06_ExtentCuts.l1 true x2 x3 a b l l k (i : Int)) true
  | 0, i, h => by
    refine Ev.succ ?_
    simp only [scriniumlaw06_ExtentCuts.l1]
    refine Ev.ff (by simp <;> omega) (Ev.pos trivial (Ev.bind R (Ev.tt (by simp) (Ev.bind S ?_))))
    simpa using Ev.pure true
  | m + 1, i, h => by
    refine Ev.succ ?_
    simp only [scriniumlaw06_ExtentCuts.l1]
    have ih := cuts_loop x2 x3 a b l hl R S m (i + 1) (by omega)
    refine Ev.tt (by simp <;> omega) (Ev.pos (by omega) (Ev.pos (by omega) (Ev.ff (by simp) ?_)))
    rw [W64_id (by omega) (by omega)]
    simpa using ih
theorem extentCuts_law : ExtentCutsPure := by
  intro p0 p1 hp _ _
  have hok := fileF_ok p0
  have hlen := fileF_len p0
  have hall := hok.len 12 hlen
  refine Ev.get ?_
  unfold scriniumlaw06_ExtentCuts.f
  refine Ev.bind awake_ev (Ev.bind (file_ev p0 hp) (Ev.bind (total_ev hok (by omega) (by omega)) ?_))
  refine Ev.within (by omega) p1 (fun x k => scriniumlaw06_ExtentCuts.j2 k true (fileF p0) ((allR (fileF p0)).length : Int) x) (fun x hx => ?_)
  simp only [scriniumlaw06_ExtentCuts.j2, scriniumlaw06_ExtentCuts.j1]
  have o1 := restF_ok 0 x _ hok
  have o2 := restF_ok x 1125899906842624 _ hok
  have n1 := restF_len 0 x (fileF p0)
  have n2 := restF_len x 1125899906842624 (fileF p0)
  have a1 := restF_all 0 x _ hok
  have a2 := restF_all x 1125899906842624 _ hok
  have l1 := o1.len 12 (by omega)
  have l2 := o2.len 12 (by omega)
  have e : allR (joinF (restF 0 x (fileF p0)) (restF x 1125899906842624 (fileF p0))) = allR (fileF p0) := by
    rw [joinF_all _ _ o1 o2, a1, a2, List.take_of_length_le (l := List.drop x _) (by simp <;> omega)]
    simp
  refine Ev.bind (cut_ev hok (by omega) x (by omega)) (Ev.bind (all_ev hok (by omega) (by omega)) ?_)
  simp only [join_ev _ _ _ (show (restF 0 x (fileF p0)).length + (restF x 1125899906842624 (fileF p0)).length ≤ 1000000000 by omega) o1 o2]
  have hj := joinF_len (restF 0 x (fileF p0)) (restF x 1125899906842624 (fileF p0))
  refine Ev.bind (Ev.pure _) (Ev.bind (all_ev (joinF_ok _ _ o1 o2) (by omega) (by rw [e]; omega)) ?_)
  rw [e]
  refine Ev.ff (by simp) (Ev.ff (by simp) ?_)
  have t1 := total_ev o1 (by omega) (by omega)
  have t2 := total_ev o2 (by omega) (by omega)
  have c1 : (allR (restF 0 x (fileF p0))).length = x := by rw [a1]; simp <;> omega
  have c2 : ((allR (restF x 1125899906842624 (fileF p0))).length : Int) = W64 (((allR (fileF p0)).length : Int) - (x : Int)) := by
    rw [a2, List.take_of_length_le (by simp <;> omega), W64_id (by omega) (by omega)]; simp <;> omega
  rw [c1] at t1; rw [c2] at t2
  exact cuts_loop _ _ _ _ (allR (fileF p0)) (by omega) t1 t2 (allR (fileF p0)).length 0 (by omega)
end Go.Proofs.Ytmpnlafggebaiaa
