/- The plain law of ExtentTurns. No condition. -/
import Derived.Test.YtmpnlafggebaiaaLW1
import Derived.Test.YtmpnlafggebaiaaLI
import Derived.Test.YtmpnlafggebaiaaLPf
set_option linter.unusedVariables false
set_option linter.unusedSimpArgs false
namespace Go.Proofs.Ytmpnlafggebaiaa
def ExtentTurnsPure : Prop := ∀ (p0 : (List S_Run)) (p1 : Int) (p2 : Bool), (p0.length ≤ 9223372036854775807) → (∀ x ∈ p0, -9223372036854775808 ≤ x.f_At ∧ x.f_At ≤ 9223372036854775807 ∧ -9223372036854775808 ≤ x.f_N ∧ x.f_N ≤ 9223372036854775807) → (-9223372036854775808 ≤ p1 ∧ p1 ≤ 9223372036854775807) → ∃ k, scriniumlaw06_ExtentTurns.f k p0 p1 p2 = some true
/-- What is cut off in front, and what stays. -/
theorem restF_fre : ∀ (s n : Nat) (l : List S_Run) (lo : Int), Fre lo l → Fre lo (restF s n l)
  | s, n, [], lo, h => by simp [restF, Fre]
  | s, n, x :: post, lo, h => by
    have hx := h.1; unfold Ok1 at hx
    have ih := restF_fre (s - min s x.f_N.toNat) (n - min (x.f_N.toNat - min s x.f_N.toNat) n) post _ h.2.2
    simp only [restF]
    have h2 := h.2.1
    split
    · refine ⟨by unfold Ok1; simp only; omega, by simp only; omega, ih.mono ?_⟩
      simp only [endR]; omega
    · exact ih.mono (by simp only [endR]; omega)
theorem pair_allR : ∀ (l : List S_Run) (lo : Int), Fre lo l → (allR l).Pairwise (· < ·)
  | [], _, _ => by simp [allR]
  | x :: l, lo, h => by
    rw [allR_cons, List.pairwise_append]
    refine ⟨?_, pair_allR l _ h.2.2, ?_⟩
    · unfold adr
      rw [List.pairwise_map]
      exact List.pairwise_lt_range.imp (by intro a b hab; omega)
    · intro a ha b hb
      rw [mem_adr] at ha; rw [mem_allR] at hb
      have := h.2.2.in_lt hb; omega
/-- Taken and left are the whole, and apart. -/
theorem cut_parts {m : List S_Run} (hm : Fre (-1) m) (x : Nat) (hx : (allR m).length ≤ 1125899906842624) :
    (∀ z, InR m z ↔ InR (restF 0 x m) z ∨ InR (restF x 1125899906842624 m) z) ∧ ∀ z, InR (restF 0 x m) z → ¬ InR (restF x 1125899906842624 m) z := by
  have a1 := restF_all 0 x m hm.ok
  have a2 := restF_all x 1125899906842624 m hm.ok
  rw [List.take_of_length_le (l := List.drop x _) (by simp; omega)] at a2
  rw [List.drop_zero] at a1
  have sp : allR m = allR (restF 0 x m) ++ allR (restF x 1125899906842624 m) := by rw [a1, a2, List.take_append_drop]
  constructor
  · intro z; rw [← mem_allR, ← mem_allR, ← mem_allR, sp, List.mem_append]
  · intro z h1 h2
    rw [← mem_allR] at h1 h2
    have := pair_allR m _ hm
    rw [sp, List.pairwise_append] at this
    exact absurd (this.2.2 z h1 z h2) (by omega)
theorem turns_search (p2 : Bool) (m a b : List S_Run) (om : OkR m) (ob : OkR b) (nm : m.length ≤ 100) (nb : b.length ≤ 100) (s : List Int) (hs : s.length ≤ 1000000000)
    (h : ∀ z ∈ s, (-9223372036854775808 ≤ z ∧ z ≤ 9223372036854775807) ∧ InR m z ∧ ¬ InR b z) (L : Ev (fun k => scriniumlaw06_ExtentTurns.l2 p2 true m a k b 0) true) :
    ∀ (n i : Nat), i + n = s.length → Ev (fun k => scriniumlaw06_ExtentTurns.l1 p2 true m a b k s (i : Int)) true
  | 0, i, e => by
    refine Ev.succ ?_
    simp only [scriniumlaw06_ExtentTurns.l1]
    exact Ev.ff (by simp; omega) L
  | n + 1, i, e => by
    have ih := turns_search p2 m a b om ob nm nb s hs h L n (i + 1) (by omega)
    refine Ev.succ ?_
    simp only [scriniumlaw06_ExtentTurns.l1, scriniumlaw06_ExtentTurns.j1]
    have hz := h s[i] (List.getElem_mem (by omega))
    have hat : (FK .i64).at_ s (i : Int) = s[i] := at_get _ _ _ (by omega)
    refine Ev.tt (by simp; omega) (Ev.pos (by omega) ?_)
    rw [hat, W64_id (x := (i : Int) + 1) (by omega) (by omega)]
    refine Ev.bind (has_ev (by omega) om _ hz.1) (Ev.ff (by simp; exact (hasB_iff _ _).2 hz.2.1) (Ev.pos (by omega) (Ev.bind (has_ev (by omega) ob _ hz.1) (Ev.ff ?_ (by simpa using ih)))))
    rw [Bool.eq_false_iff]; intro hh; exact hz.2.2 ((hasB_iff _ _).1 hh)
/-- The runs in the order in which they are given back. -/
def turned (p2 : Bool) (a : List S_Run) : List S_Run := if p2 = true then a.reverse else a
theorem turns_back (p2 : Bool) (m a : List S_Run) (hm : Fre (-1) m) (na : a.length ≤ 100) (nm : m.length ≤ 100) : ∀ (post pre b : List S_Run), turned p2 a = pre ++ post → OkR post → Fre (-1) b → b.length ≤ 100 + pre.length →
    (∀ z, InR m z ↔ InR b z ∨ InR post z) → (∀ z, InR b z → ¬ InR post z) → (post.Pairwise fun x y => ∀ z, x.f_At ≤ z → z < endR x → ¬ (y.f_At ≤ z ∧ z < endR y)) →
    Ev (fun k => scriniumlaw06_ExtentTurns.l2 p2 true m a k b (pre.length : Int)) true
  | [], pre, b, e, _, hb, nb, h1, _, _ => by
    have hla : a.length = pre.length := by
      have : (turned p2 a).length = a.length := by unfold turned; split <;> simp
      rw [← this, e]; simp
    have : b = m := Fre_eq b m _ _ hb hm fun z => by rw [h1 z]; simp [InR_nil]
    subst this
    refine Ev.succ ?_
    simp only [scriniumlaw06_ExtentTurns.l2]
    exact Ev.ff (by simp; omega) (Ev.bind (same_ev _ (by omega)) (Ev.pos trivial (Ev.pure _)))
  | x :: post, pre, b, e, ho, hb, nb, h1, h2, h3 => by
    have hlt : (turned p2 a).length = a.length := by unfold turned; split <;> simp
    have hla : a.length = pre.length + (post.length + 1) := by rw [← hlt, e]; simp
    have hx := ho x (by simp)
    have hx' := hx; unfold Ok1 at hx'
    have hov : over x b = false := by
      rw [Bool.eq_false_iff]; intro hh
      obtain ⟨z, hz, z1, z2⟩ := (over_iff x b hx hb.ok).1 hh
      exact h2 z hz ((InR_cons _ _ _).2 (.inl ⟨z1, z2⟩))
    have g := giveF_ok hb hx hov
    rw [List.pairwise_cons] at h3
    have ih := turns_back p2 m a hm na nm post (pre ++ [x]) (giveF b x).1 (by simp [e]) (fun y hy => ho y (by simp [hy])) g.2.1 (by simp; omega)
      (fun z => by rw [h1 z, g.2.2.1 z, InR_cons, or_assoc])
      (fun z hz hp => by
        rcases (g.2.2.1 z).1 hz with h | h
        · exact h2 z h ((InR_cons _ _ _).2 (.inr hp))
        · obtain ⟨y, hy, hyz⟩ := hp
          exact h3.1 y hy z h.1 h.2 hyz) h3.2
    rw [← idx_next pre x (by omega)] at ih
    have ck := check_ev (p0 := (giveF b x).1) (by omega) g.2.1.ok.wf
    rw [(freB_iff _ _).2 g.2.1] at ck
    have step : Ev (fun k => scriniumlaw06_ExtentTurns.j3 k b (pre.length : Int) (scriniumlaw06_ExtentTurns.l2 p2 true m a k) x.f_At x.f_N) true := by
      unfold scriniumlaw06_ExtentTurns.j3 scriniumlaw06_ExtentTurns.j2
      refine Ev.bind (give_ev (r := ⟨x.f_At, x.f_N⟩) (by omega) hb.ok.wf (by simp only; omega)) ?_
      refine Ev.ff (by show (!(giveF b x).2) = false; rw [g.1]; rfl) (Ev.bind ck (Ev.ff rfl ih))
    refine Ev.succ ?_
    simp only [scriniumlaw06_ExtentTurns.l2]
    refine Ev.tt (by simp; omega) (Ev.pos (by omega) ?_)
    cases p2 with
    | true =>
      have hat : F_Run.at_ a (W64 (W64 ((a.length : Int) - 1) - (pre.length : Int))) = x := by
        have hr : a = post.reverse ++ x :: pre.reverse := by
          have : a.reverse = pre ++ x :: post := by simpa [turned] using e
          rw [← List.reverse_reverse a, this]; simp
        rw [W64_id (x := (a.length : Int) - 1) (by omega) (by omega), W64_id (by omega) (by omega), show (a.length : Int) - 1 - (pre.length : Int) = (post.reverse.length : Int) by simp; omega]
        conv => lhs; rw [hr]
        exact at_app F_Run _ _ x
      have hw : W64 (W64 ((a.length : Int) - 1) - (pre.length : Int)) = (a.length : Int) - 1 - pre.length := by
        rw [W64_id (x := (a.length : Int) - 1) (by omega) (by omega), W64_id (by omega) (by omega)]
      rw [hat]
      refine Ev.pos rfl (Ev.pos (by rw [hw]; omega) step)
    | false =>
      have hat : F_Run.at_ a (pre.length : Int) = x := by
        have : a = pre ++ x :: post := by simpa [turned] using e
        rw [this]; exact at_app F_Run pre post x
      rw [hat]
      exact Ev.neg Bool.false_ne_true step
theorem fre_pair : ∀ (l : List S_Run) (lo : Int), Fre lo l → l.Pairwise fun x y => ∀ z, x.f_At ≤ z → z < endR x → ¬ (y.f_At ≤ z ∧ z < endR y)
  | [], _, _ => List.Pairwise.nil
  | x :: l, lo, h => by
    rw [List.pairwise_cons]
    refine ⟨fun y hy z h1 h2 h3 => ?_, fre_pair l _ h.2.2⟩
    have := h.2.2.lt y hy; omega
theorem extentTurns_law : ExtentTurnsPure := by
  intro l n p2 hl _ _
  obtain ⟨m, hm, hf, hlen⟩ := free_ev l hl
  have hs := hf.ok.len 20 hlen
  refine Ev.get ?_
  unfold scriniumlaw06_ExtentTurns.f
  refine Ev.bind awake_ev (Ev.bind hm (Ev.bind (total_ev hf.ok (by omega) (by omega)) ?_))
  refine Ev.within (by omega) n (fun x k => scriniumlaw06_ExtentTurns.j5 k p2 true m x) (fun x hx => ?_)
  have tk : takeF m (x : Int) = (restF 0 x m, restF x 1125899906842624 m, true) := by
    unfold takeF; rw [(freB_iff _ _).2 hf, decide_eq_true (show (0 : Int) ≤ (x : Int) by omega), decide_eq_true (show (x : Int) ≤ ((allR m).length : Int) by omega)]; simp
  have f1 := restF_fre 0 x m _ hf
  have f2 := restF_fre x 1125899906842624 m _ hf
  have n1 := restF_len 0 x m
  have n2 := restF_len x 1125899906842624 m
  have a1 := restF_all 0 x _ hf.ok
  have a2 := restF_all x 1125899906842624 _ hf.ok
  have c1 : (allR (restF 0 x m)).length = x := by rw [a1]; simp; omega
  have c2 : (allR (restF x 1125899906842624 m)).length = (allR m).length - x := by rw [a2, List.take_of_length_le (by simp; omega)]; simp
  have t1 := total_ev f1.ok (by omega) (by omega)
  have t2 := total_ev f2.ok (by omega) (by omega)
  have tm := total_ev hf.ok (by omega) (by omega)
  have ck := check_ev (p0 := restF x 1125899906842624 m) (by omega) f2.ok.wf
  rw [(freB_iff _ _).2 f2] at ck
  obtain ⟨p1, p3⟩ := cut_parts hf x (by omega)
  have take := take_ev (p0 := m) (by omega) hf.ok.wf (x : Int) (by omega)
  rw [tk] at take
  unfold scriniumlaw06_ExtentTurns.j5 scriniumlaw06_ExtentTurns.j4
  refine Ev.bind take ?_
  refine Ev.ff rfl (Ev.bind t1 (Ev.ff (by rw [c1]; simp) (Ev.bind t2 (Ev.bind tm (Ev.ff (by rw [c2, W64_id (by omega) (by omega)]; simp; omega) (Ev.bind ck (Ev.ff rfl (Ev.bind (all_ev (p0 := restF 0 x m) f1.ok (by omega) (by omega)) ?_))))))))
  refine turns_search p2 m (restF 0 x m) (restF x 1125899906842624 m) hf.ok f2.ok (by omega) (by omega) (allR (restF 0 x m)) (by omega) (fun z hz => ?_) ?_ _ 0 (Nat.zero_add _)
  · have hz' := (mem_allR _ _).1 hz
    refine ⟨?_, (p1 z).2 (.inl hz'), p3 z hz'⟩
    obtain ⟨y, hy, y1, y2⟩ := hz'
    have := f1.ok y hy; unfold Ok1 at this; simp only [endR] at y2; omega
  · have hin : ∀ z, InR (turned p2 (restF 0 x m)) z ↔ InR (restF 0 x m) z := by
      intro z; unfold turned InR; split <;> simp
    have pw := fre_pair _ _ f1
    have hpw : (turned p2 (restF 0 x m)).Pairwise fun x y => ∀ z, x.f_At ≤ z → z < endR x → ¬ (y.f_At ≤ z ∧ z < endR y) := by
      unfold turned; split
      · rw [List.pairwise_reverse]
        exact pw.imp fun {x y} h z h1 h2 h3 => h z h3.1 h3.2 ⟨h1, h2⟩
      · exact pw
    refine turns_back p2 m (restF 0 x m) hf (by omega) (by omega) (turned p2 (restF 0 x m)) [] _ rfl (fun y hy => f1.ok y ?_) f2 (by simp; omega) (fun z => ?_) (fun z h1 h2 => ?_) hpw
    · unfold turned at hy; split at hy
      · simpa using hy
      · exact hy
    · rw [p1 z, hin z]; exact or_comm
    · exact p3 z ((hin z).1 h2) h1
end Go.Proofs.Ytmpnlafggebaiaa
