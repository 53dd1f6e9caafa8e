/- The plain law of ExtentPlaces. No condition. -/
import Derived.Test.YtmpnlafggebaiaaLW1
import Derived.Test.YtmpnlafggebaiaaLI
import Derived.Test.YtmpnlafggebaiaaLPb
set_option linter.unusedVariables false
set_option linter.unusedSimpArgs false
namespace Go.Proofs.Ytmpnlafggebaiaa
def ExtentPlacesPure : Prop := ∀ (p0 : (List S_Run)) (p1 : Int) (p2 : Int), (p0.length ≤ 9223372036854775807) → (∀ x ∈ p0, -9223372036854775808 ≤ x.f_At ∧ x.f_At ≤ 9223372036854775807 ∧ -9223372036854775808 ≤ x.f_N ∧ x.f_N ≤ 9223372036854775807) → (-9223372036854775808 ≤ p1 ∧ p1 ≤ 9223372036854775807) → (-9223372036854775808 ≤ p2 ∧ p2 ≤ 9223372036854775807) → ∃ k, scriniumlaw06_ExtentPlaces.f k p0 p1 p2 = some true
theorem places_loop (l l7 : List Int) (s n : Nat) (hl : l.length ≤ 1000000000) (e : l7 = (l.drop s).take n) (hn : s + n ≤ l.length) :
    ∀ (m i : Nat), i + m = n → Ev (fun k => scriniumlaw06_ExtentPlaces.l1 true l (s : Int) (n : Int) k l7 (i : Int)) true
  | 0, i, h => by
    refine Ev.succ ?_
    simp only [scriniumlaw06_ExtentPlaces.l1]
    exact Ev.ff (by simp <;> omega) (Ev.pure _)
  | m + 1, i, h => by
    refine Ev.succ ?_
    simp only [scriniumlaw06_ExtentPlaces.l1]
    have ih := places_loop l l7 s n hl e hn m (i + 1) (by omega)
    have hlen : l7.length = n := by rw [e]; simp <;> omega
    refine Ev.tt (by simp <;> omega) (Ev.pos (by omega) ?_)
    rw [W64_id (x := (s : Int) + (i : Int)) (by omega) (by omega), W64_id (x := (i : Int) + 1) (by omega) (by omega)]
    refine Ev.pos (by omega) (Ev.ff ?_ ?_)
    · rw [show (s : Int) + (i : Int) = ((s + i : Nat) : Int) by omega, at_get _ _ _ (by omega), at_get _ _ _ (by omega)]
      simp [e]
    · simpa using ih
theorem extentPlaces_law : ExtentPlacesPure := by
  intro p0 p1 p2 hp _ _ _
  have hok := fileF_ok p0
  have hlen := fileF_len p0
  have hall := hok.len 12 hlen
  refine Ev.get ?_
  unfold scriniumlaw06_ExtentPlaces.f
  refine Ev.bind awake_ev (Ev.bind (file_ev p0 hp) (Ev.bind (all_ev hok (by omega) (by omega)) ?_))
  refine Ev.within (by omega) p1 (fun x k => scriniumlaw06_ExtentPlaces.j2 k p2 true (fileF p0) (allR (fileF p0)) x) (fun x hx => ?_)
  unfold scriniumlaw06_ExtentPlaces.j2
  rw [show W64 (((allR (fileF p0)).length : Int) - (x : Int)) = (((allR (fileF p0)).length - x : Nat) : Int) by rw [W64_id (by omega) (by omega)]; omega]
  refine Ev.within (T := (allR (fileF p0)).length - x) (by omega) p2 (fun y k => scriniumlaw06_ExtentPlaces.j1 k true (fileF p0) (allR (fileF p0)) x y) (fun y hy => ?_)
  unfold scriniumlaw06_ExtentPlaces.j1
  have o1 := restF_ok x y _ hok
  have n1 := restF_len x y (fileF p0)
  have a1 := restF_all x y _ hok
  have l1 := o1.len 12 (by omega)
  refine Ev.bind (rest_ev hok (by omega) x y (by omega) (by omega)) (Ev.bind (all_ev o1 (by omega) (by omega)) ?_)
  refine Ev.ff (by rw [a1]; simp <;> omega) ?_
  exact places_loop _ _ x y (by omega) a1 (by omega) y 0 (by omega)
end Go.Proofs.Ytmpnlafggebaiaa
