/- The plain law of ExtentChanges. No condition. -/
import Derived.Test.YtmpnlafggebaiaaLW1
import Derived.Test.YtmpnlafggebaiaaLI
import Derived.Test.YtmpnlafggebaiaaLPf
set_option linter.unusedVariables false
set_option linter.unusedSimpArgs false
namespace Go.Proofs.Ytmpnlafggebaiaa
def ExtentChangesPure : Prop := ∀ (p0 : (List S_Run)) (p1 : Int) (p2 : S_Run), (p0.length ≤ 9223372036854775807) → (∀ x ∈ p0, -9223372036854775808 ≤ x.f_At ∧ x.f_At ≤ 9223372036854775807 ∧ -9223372036854775808 ≤ x.f_N ∧ x.f_N ≤ 9223372036854775807) → (-9223372036854775808 ≤ p1 ∧ p1 ≤ 9223372036854775807) → (-9223372036854775808 ≤ p2.f_At ∧ p2.f_At ≤ 9223372036854775807 ∧ -9223372036854775808 ≤ p2.f_N ∧ p2.f_N ≤ 9223372036854775807) → ∃ k, scriniumlaw06_ExtentChanges.f k p0 p1 p2 = some true
theorem few_ev (l : List S_Run) : Ev (fun k => scriniumlaw06_few.f k l) (l.take 20) := by
  unfold scriniumlaw06_few.f
  refine Ev.ite (fun h => ?_) (fun h => ?_)
  · have h : (l.length : Int) > 20 := by simpa using h
    exact Ev.pos (by omega) (Ev.pure _)
  · have h : ¬ (l.length : Int) > 20 := by simpa using h
    rw [List.take_of_length_le (by omega)]; exact Ev.pure _
theorem changes_turn (l m : List S_Run) (n : Int) (r : S_Run) (hm : Wf m) (hl : m.length ≤ 20) (hn : -9223372036854775808 ≤ n ∧ n ≤ 9223372036854775807)
    (hr : -9223372036854775808 ≤ r.f_At ∧ r.f_At ≤ 9223372036854775807 ∧ -9223372036854775808 ≤ r.f_N ∧ r.f_N ≤ 9223372036854775807) (t : Nat) (ht : t < 2)
    (L : Ev (fun k => scriniumlaw06_ExtentChanges.l1 l n r k true ((t + 1 : Nat) : Int)) true) :
    Ev (fun k => scriniumlaw06_ExtentChanges.j2 n r k true (t : Int) (scriniumlaw06_ExtentChanges.l1 l n r k) m) true := by
  unfold scriniumlaw06_ExtentChanges.j2 scriniumlaw06_ExtentChanges.j1
  have t1 : (takeF m n).1.length ≤ 20 ∧ (takeF m n).2.1.length ≤ 20 := by
    unfold takeF; split
    · have a := restF_len 0 n.toNat m; have b := restF_len n.toNat 1125899906842624 m; simp only; omega
    · simp; omega
  have t2 : (giveF m r).1.length ≤ 21 := by
    unfold giveF; split
    · split
      · simp only; omega
      · have a := joinF_len (joinF (preR r m) [r]) (postR r m)
        have b := joinF_len (preR r m) [r]
        have c := pre_len r m
        simp only [List.length_cons, List.length_nil] at *; omega
    · simp only; omega
  refine Ev.pos (by omega) (Ev.bind (take_ev (by omega) hm n hn.2) (Ev.bind (reftake_ev (by omega) hm n hn.1 hn.2) ?_))
  refine Ev.bind (give_ev (r := ⟨r.f_At, r.f_N⟩) (by omega) hm hr) (Ev.bind (refgive_ev (r := ⟨r.f_At, r.f_N⟩) (by omega) hm hr) ?_)
  refine Ev.bind (same_ev _ (by omega)) (Ev.bind (same_ev _ (by omega)) (Ev.bind (same_ev _ (by show (giveF m r).1.length ≤ _; omega)) (Ev.bind (same_ev _ (by omega)) ?_)))
  refine Ev.ff rfl (Ev.ff rfl (Ev.ff rfl (Ev.ff rfl (Ev.ff (by simp) (Ev.ff (by simp) ?_)))))
  rw [W64_id (by omega) (by omega)]
  simpa using L
theorem extentChanges_law : ExtentChangesPure := by
  intro l n r hl hw hn hr
  refine Ev.get ?_
  unfold scriniumlaw06_ExtentChanges.f
  refine Ev.bind awake_ev ?_
  have w20 : Wf (l.take 20) := fun x hx => hw x (List.mem_of_mem_take hx)
  have l2 : Ev (fun k => scriniumlaw06_ExtentChanges.l1 l n r k true ((1 + 1 : Nat) : Int)) true := by
    refine Ev.succ ?_
    simp only [scriniumlaw06_ExtentChanges.l1]
    exact Ev.ff (by simp) (Ev.pure _)
  have l1 : Ev (fun k => scriniumlaw06_ExtentChanges.l1 l n r k true ((0 + 1 : Nat) : Int)) true := by
    obtain ⟨m, hm, hf, hlen⟩ := free_ev l hl
    refine Ev.succ ?_
    simp only [scriniumlaw06_ExtentChanges.l1]
    exact Ev.tt (by simp) (Ev.bind (few_ev l) (Ev.tt (by simp) (Ev.bind hm (changes_turn l m n r hf.ok.wf hlen hn hr 1 (by omega) l2))))
  refine Ev.succ ?_
  simp only [scriniumlaw06_ExtentChanges.l1]
  exact Ev.tt (by simp) (Ev.bind (few_ev l) (Ev.ff (by simp) (changes_turn l (l.take 20) n r w20 (by simp <;> omega) hn hr 0 (by omega) l1)))
end Go.Proofs.Ytmpnlafggebaiaa
