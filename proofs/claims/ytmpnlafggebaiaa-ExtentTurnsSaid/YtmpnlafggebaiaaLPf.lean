/- Plain laws of free lists: given to, made of any runs, searched. No condition. -/
import Derived.Test.YtmpnlafggebaiaaLPe
set_option linter.unusedVariables false
set_option linter.unusedSimpArgs false
namespace Go.Proofs.Ytmpnlafggebaiaa
open Go
theorem giveF_yes {l : List S_Run} {r : S_Run} (hl : Fre (-1) l) (hr : Ok1 r) (ho : over r l = false) : giveF l r = (joinF (joinF (preR r l) [r]) (postR r l), true) := by
  unfold giveF; rw [(freB_iff _ _).2 hl, ho]; simp [hr]
theorem take_pre (r : S_Run) (l : List S_Run) : l.take (preR r l).length = preR r l := by
  conv => lhs; rw [← pre_post r l]
  have : (preR r (preR r l ++ postR r l)) = preR r l := by rw [pre_post]
  rw [this, List.take_left' rfl]
theorem drop_pre (r : S_Run) (l : List S_Run) : l.drop (preR r l).length = postR r l := by
  conv => lhs; rw [← pre_post r l]
  have : (preR r (preR r l ++ postR r l)) = preR r l := by rw [pre_post]
  rw [this, List.drop_left' rfl]
theorem pre_len (r : S_Run) (l : List S_Run) : (preR r l).length + (postR r l).length = l.length := by rw [← List.length_append, pre_post]
theorem give_tail {l : List S_Run} {r : S_Run} (hp : l.length ≤ 1000000) (hl : Fre (-1) l) (hr : Ok1 r) (b : Bool) (hb : over r l = b) : Ev (fun k => extent_Give.j1 k l r ((preR r l).length : Int) b) (giveF l r) := by
  unfold extent_Give.j1
  have hn := pre_len r l
  cases b with
  | true => rw [giveF_no hb]; exact Ev.pos rfl (Ev.pure _)
  | false =>
    rw [giveF_yes hl hr hb]
    have e := pre_post r l
    have o1 : OkR (preR r l) := fun x hx => hl.ok x (by rw [← e]; exact List.mem_append_left _ hx)
    have o2 : OkR (postR r l) := fun x hx => hl.ok x (by rw [← e]; exact List.mem_append_right _ hx)
    have or1 : OkR [r] := fun x hx => by simp at hx; subst hx; exact hr
    have j := joinF_len (preR r l) [(⟨r.f_At, r.f_N⟩ : S_Run)]
    simp only [List.length_cons, List.length_nil] at j
    refine Ev.ff rfl (Ev.pos (by omega) (Ev.pos (by omega) ?_))
    simp only [Int.toNat_natCast]
    rw [take_pre, drop_pre]
    refine Ev.bind (Ev.all fun k => join_ev k _ _ (by simp only [List.length_cons, List.length_nil]; omega) o1 or1) (Ev.bind (Ev.all fun k => join_ev k _ _ (by omega) (joinF_ok _ _ o1 or1) o2) (Ev.pure _))
theorem give_ev {l : List S_Run} {r : S_Run} (hp : l.length ≤ 1000000) (hw : Wf l) (hr : -9223372036854775808 ≤ r.f_At ∧ r.f_At ≤ 9223372036854775807 ∧ -9223372036854775808 ≤ r.f_N ∧ r.f_N ≤ 9223372036854775807) : Ev (fun k => extent_Give.f k l r) (giveF l r) := by
  unfold extent_Give.f extent_Give.j2
  refine Ev.bind (check_ev (by omega) hw) ?_
  cases hf : freB (-1) l with
  | false =>
    have : giveF l r = (l, false) := giveF_bad fun h => by rw [(freB_iff _ _).2 h.1] at hf; cases hf
    rw [this]; exact Ev.tt rfl (Ev.pos rfl (Ev.pure _))
  | true =>
    have hl := (freB_iff _ _).1 hf
    refine Ev.ff rfl (Ev.bind (Ev.all fun k => good_ev k ⟨r.f_At, r.f_N⟩ hr) ?_)
    by_cases hok : Ok1 r
    · have hok' := hok; unfold Ok1 at hok'
      have hn := pre_len r l
      have e := pre_post r l
      refine Ev.ff (by simp; exact hok) ?_
      refine Ev.bind (a := ((preR r l).length : Int)) ⟨l.length + 1, fun k hk => ?_⟩ ?_
      · have h := place_ev l (by omega) (fun y0 => extent_Give_1.f k y0 r.f_At r.f_N) (fun y => decide (y.f_At ≥ r.f_At)) (fun y _ => rfl) k (by omega)
        refine h.trans ?_
        have : (fun x : S_Run => !decide (x.f_At ≥ r.f_At)) = fun x => decide (x.f_At < r.f_At) := by
          funext x; rw [Bool.eq_iff_iff]; simp
        rw [this]; rfl
      · have hov := over_ends hl hok
        have er : W64 (r.f_At + r.f_N) = endR r := W64_id (by omega) (by omega)
        have tail : decide (r.f_At < endOf (-1) (preR r l)) = false → Ev (fun k => if decide (((preR r l).length : Int) < (l.length : Int)) = true then (if 0 ≤ ((preR r l).length : Int) ∧ ((preR r l).length : Int) < (l.length : Int) then ((extent_end.f k (⟨r.f_At, r.f_N⟩ : S_Run)).bind fun t5 => extent_Give.j1 k l r ((preR r l).length : Int) (decide (((F_Run.at_ l ((preR r l).length : Int)).f_At) < t5))) else none) else extent_Give.j1 k l r ((preR r l).length : Int) false) (giveF l r) := by
          intro h0
          rw [h0, Bool.false_or] at hov
          cases hpo : postR r l with
          | nil =>
            rw [hpo] at hov hn
            refine Ev.ff (by simp at hn ⊢; omega) (give_tail hp hl hok false hov)
          | cons y bs =>
            have hy : F_Run.at_ l ((preR r l).length : Int) = y := by
              have := at_app F_Run (preR r l) bs y
              rw [← hpo, e] at this; exact this
            rw [hpo] at hov hn
            simp only [List.length_cons] at hn
            refine Ev.tt (by simp; omega) (Ev.pos (by omega) ?_)
            rw [hy]
            refine Ev.bind (a := endR r) (Ev.all fun k => by simp only [extent_end.f]; rw [er]) ?_
            exact give_tail hp hl hok _ hov
        rcases snoc_or (preR r l) with e0 | ⟨i, x, e0⟩
        · have hz : ((preR r l).length : Int) = 0 := by rw [e0]; rfl
          refine Ev.ff (by rw [hz]; rfl) (tail ?_)
          rw [e0]; exact decide_eq_false (by show ¬ r.f_At < (-1 : Int); omega)
        · obtain ⟨l1, l2, l3⟩ := last_at l i x (postR r l) (by rw [← e0, e]) (by omega)
          rw [← e0] at l1
          have hx := hl.ok x (by rw [← e, e0]; simp); unfold Ok1 at hx
          refine Ev.tt (by rw [e0]; simp <;> omega) ?_
          rw [l1, l3]
          refine Ev.pos (by omega) (Ev.bind (a := endR x) (Ev.all fun k => by simp only [extent_end.f]; rw [W64_id (by omega) (by omega)]) ?_)
          have ee : endOf (-1) (preR r l) = endR x := by rw [e0, endOf_snoc]
          refine Ev.ite (fun hc => ?_) (fun hc => ?_)
          · have hc : endR x > r.f_At := by simpa using hc
            refine give_tail hp hl hok true ?_
            rw [hov, ee, decide_eq_true hc]; rfl
          · have hc : ¬ endR x > r.f_At := by simpa using hc
            exact tail (by rw [ee]; simp; omega)
    · have : giveF l r = (l, false) := giveF_bad fun h => hok h.2
      rw [this]
      exact Ev.tt (by simp; exact hok) (Ev.pure _)
theorem refgive_loop2 (l : List S_Run) (r : S_Run) (hp : l.length ≤ 1000000) (ho : OkR l) (hr : Ok1 r) : ∀ (post pre : List S_Run), l = pre ++ post →
    Ev (fun k => scriniumref06_Give.l2 l r k pre (pre.length : Int)) (joinF (joinF (pre ++ preR r post) [r]) (postR r post), true)
  | [], pre, e => by
    refine Ev.succ ?_
    simp only [scriniumref06_Give.l2, scriniumref06_Give.j2]
    have hl : l.length = pre.length := by rw [e]; simp
    have or1 : OkR [r] := fun x hx => by simp at hx; subst hx; exact hr
    have o1 : OkR pre := fun x hx => ho x (by rw [e]; simp [hx])
    have j := joinF_len pre [r]
    simp only [List.length_cons, List.length_nil] at j
    have ed : l.drop pre.length = [] := by rw [e]; simp
    refine Ev.ff (by simp; omega) (Ev.ff rfl (Ev.bind (Ev.all fun k => refjoin_ev k pre [r] (by simp only [List.length_cons, List.length_nil]; omega) o1 or1) (Ev.pos (by omega) ?_)))
    simp only [Int.toNat_natCast]
    rw [ed]
    refine Ev.bind (Ev.all fun k => refjoin_ev k _ [] (by simp only [List.length_nil]; omega) (joinF_ok _ _ o1 or1) (by intro x hx; simp at hx)) ?_
    simpa [preR, postR] using Ev.pure _
  | x :: post, pre, e => by
    refine Ev.succ ?_
    simp only [scriniumref06_Give.l2, scriniumref06_Give.j2]
    have hl : l.length = pre.length + (post.length + 1) := by rw [e]; simp
    have hx : F_Run.at_ l (pre.length : Int) = x := by rw [e]; exact at_app F_Run pre post x
    have or1 : OkR [r] := fun x hx => by simp at hx; subst hx; exact hr
    have o1 : OkR pre := fun x hx => ho x (by rw [e]; simp [hx])
    have j := joinF_len pre [r]
    simp only [List.length_cons, List.length_nil] at j
    refine Ev.tt (by simp; omega) (Ev.pos (by omega) ?_)
    rw [hx]
    by_cases hc : x.f_At < r.f_At
    · have ih := refgive_loop2 l r hp ho hr post (pre ++ [x]) (by simp [e])
      rw [idx_next pre x (by omega)]
      refine Ev.tt (by simpa using hc) (Ev.pos (by omega) (Ev.pos (by simp only [List.length_cons, List.length_nil]; omega) ?_))
      have e1 : preR r (x :: post) = x :: preR r post := by simp [preR, hc]
      have e2 : postR r (x :: post) = postR r post := by simp [postR, hc]
      rw [e1, e2]
      simpa using ih
    · have ed : l.drop pre.length = x :: post := by rw [e]; simp
      have o2 : OkR (x :: post) := fun y hy => ho y (by rw [e]; exact List.mem_append_right _ hy)
      refine Ev.ff (by simpa using hc) (Ev.bind (Ev.all fun k => refjoin_ev k pre [r] (by simp only [List.length_cons, List.length_nil]; omega) o1 or1) (Ev.pos (by omega) ?_))
      simp only [Int.toNat_natCast]
      rw [ed]
      have e1 : preR r (x :: post) = [] := by simp [preR, hc]
      have e2 : postR r (x :: post) = x :: post := by simp [postR, hc]
      rw [e1, e2, List.append_nil]
      exact Ev.bind (Ev.all fun k => refjoin_ev k _ (x :: post) (by simp only [List.length_cons]; omega) (joinF_ok _ _ o1 or1) o2) (Ev.pure _)
theorem refgive_loop1 (l : List S_Run) (r : S_Run) (hp : l.length ≤ 1000000) (hl : Fre (-1) l) (hr : Ok1 r) : ∀ (post pre : List S_Run), l = pre ++ post → over r pre = false →
    Ev (fun k => scriniumref06_Give.l1 l r k (pre.length : Int)) (giveF l r)
  | [], pre, e, hov => by
    refine Ev.succ ?_
    simp only [scriniumref06_Give.l1]
    have he : l = pre := by simpa using e
    refine Ev.ff (by rw [he]; simp) ?_
    rw [giveF_yes hl hr (by rw [he]; exact hov)]
    have := refgive_loop2 l r hp hl.ok hr l [] rfl
    simpa using this
  | x :: post, pre, e, hov => by
    refine Ev.succ ?_
    simp only [scriniumref06_Give.l1, scriniumref06_Give.j1]
    have hlen : l.length = pre.length + (post.length + 1) := by rw [e]; simp
    have hx : F_Run.at_ l (pre.length : Int) = x := by rw [e]; exact at_app F_Run pre post x
    have hxo := hl.ok x (by rw [e]; simp); unfold Ok1 at hxo
    have hr' := hr; unfold Ok1 at hr'
    have ih := fun h => refgive_loop1 l r hp hl hr post (pre ++ [x]) (by simp [e]) h
    have hs : over r (pre ++ [x]) = (decide (x.f_At < endR r) && decide (r.f_At < endR x)) := by
      unfold over at hov ⊢; rw [List.any_append, hov]; simp
    refine Ev.tt (by simp; omega) (Ev.pos (by omega) ?_)
    rw [hx, idx_next pre x (by omega), W64_id (x := r.f_At + r.f_N) (by omega) (by omega), W64_id (x := x.f_At + x.f_N) (by omega) (by omega)]
    by_cases h1 : x.f_At < endR r
    · refine Ev.tt (by simpa using h1) (Ev.pos (by omega) (Ev.pos (by omega) ?_))
      by_cases h2 : r.f_At < endR x
      · have ho : over r l = true := by
          simp only [over, List.any_eq_true, Bool.and_eq_true, decide_eq_true_eq]; exact ⟨x, by rw [e]; simp, h1, h2⟩
        rw [giveF_no ho]
        exact Ev.tt (by simpa using h2) (Ev.pure _)
      · refine Ev.ff (by simpa using h2) (ih ?_)
        rw [hs, decide_eq_false h2, Bool.and_false]
    · refine Ev.ff (by simpa using h1) (Ev.ff rfl (ih ?_))
      rw [hs, decide_eq_false h1, Bool.false_and]
theorem refgive_ev {l : List S_Run} {r : S_Run} (hp : l.length ≤ 1000000) (hw : Wf l) (hr : -9223372036854775808 ≤ r.f_At ∧ r.f_At ≤ 9223372036854775807 ∧ -9223372036854775808 ≤ r.f_N ∧ r.f_N ≤ 9223372036854775807) : Ev (fun k => scriniumref06_Give.f k l r) (giveF l r) := by
  unfold scriniumref06_Give.f scriniumref06_Give.j3
  refine Ev.bind (Ev.all fun k => refgood_ev k ⟨r.f_At, r.f_N⟩ hr) (Ev.bind (refcheck_ev (by omega) hw) ?_)
  cases hf : freB (-1) l with
  | false =>
    have : giveF l r = (l, false) := giveF_bad fun h => by rw [(freB_iff _ _).2 h.1] at hf; cases hf
    rw [this]; exact Ev.tt rfl (Ev.pos rfl (Ev.pure _))
  | true =>
    refine Ev.ff rfl ?_
    by_cases hok : Ok1 r
    · refine Ev.ff (by simp; exact hok) ?_
      have := refgive_loop1 l r hp ((freB_iff _ _).1 hf) hok l [] rfl rfl
      simpa using this
    · have : giveF l r = (l, false) := giveF_bad fun h => hok h.2
      rw [this]
      exact Ev.tt (by simp; exact hok) (Ev.pure _)
theorem giveF_fre {l : List S_Run} (r : S_Run) (hl : Fre (-1) l) : Fre (-1) (giveF l r).1 ∧ (giveF l r).1.length ≤ l.length + 1 := by
  by_cases hr : Ok1 r
  · cases ho : over r l with
    | true => rw [giveF_no ho]; exact ⟨hl, by simp⟩
    | false => have := giveF_ok hl hr ho; exact ⟨this.2.1, this.2.2.2⟩
  · rw [giveF_bad fun h => hr h.2]; exact ⟨hl, by simp⟩
theorem giveF_same {l : List S_Run} (r : S_Run) (h : (giveF l r).2 = false) : (giveF l r).1 = l := by
  unfold giveF at h ⊢
  split
  · split
    · rfl
    · rename_i h1 h2; rw [if_pos h1, if_neg h2] at h; cases h
  · rfl
theorem free_loop (p0 : List S_Run) (hp : p0.length ≤ 9223372036854775807) : ∀ (post pre l : List S_Run), p0 = pre ++ post → Fre (-1) l → l.length ≤ pre.length → pre.length ≤ 20 →
    ∃ m, Ev (fun k => scriniumlaw06_free.l1 p0 k l (pre.length : Int)) m ∧ Fre (-1) m ∧ m.length ≤ 20
  | [], pre, l, e, hl, h1, h2 => by
    refine ⟨l, Ev.succ ?_, hl, by omega⟩
    simp only [scriniumlaw06_free.l1, scriniumlaw06_free.j2]
    exact Ev.ff (by rw [e]; simp) (Ev.ff rfl (Ev.pure _))
  | x :: post, pre, l, e, hl, h1, h2 => by
    have hlen : p0.length = pre.length + (post.length + 1) := by rw [e]; simp
    have hx : F_Run.at_ p0 (pre.length : Int) = x := by rw [e]; exact at_app F_Run pre post x
    by_cases hlt : pre.length < 20
    · have m1 := andK_mask x.f_At 10 (by omega)
      have m2 := andK_mask x.f_N 5 (by omega)
      simp at m1 m2
      have g := giveF_fre (⟨andK .i64 x.f_At 1023, 1 + andK .i64 x.f_N 31⟩ : S_Run) hl
      obtain ⟨m, hm, hf, hn⟩ := free_loop p0 hp post (pre ++ [x]) (giveF l ⟨andK .i64 x.f_At 1023, 1 + andK .i64 x.f_N 31⟩).1 (by simp [e]) g.1 (by simp; omega) (by simp; omega)
      refine ⟨m, Ev.succ ?_, hf, hn⟩
      simp only [scriniumlaw06_free.l1, scriniumlaw06_free.j2, scriniumlaw06_free.j1]
      refine Ev.tt (by simp; omega) (Ev.tt (by simp; omega) (Ev.pos (by omega) (Ev.pos (by omega) ?_)))
      rw [hx, idx_next pre x (by omega), W64_id (x := 1 + andK .i64 x.f_N 31) (by omega) (by omega)]
      refine Ev.bind (refgive_ev (by omega) hl.ok.wf (by simp only; omega)) ?_
      cases hb : (giveF l ⟨andK .i64 x.f_At 1023, 1 + andK .i64 x.f_N 31⟩).2 with
      | true => exact Ev.tt rfl hm
      | false => rw [giveF_same _ hb] at hm; exact Ev.ff rfl hm
    · refine ⟨l, Ev.succ ?_, hl, by omega⟩
      simp only [scriniumlaw06_free.l1, scriniumlaw06_free.j2]
      exact Ev.tt (by simp; omega) (Ev.ff (by simp; omega) (Ev.pure _))
theorem free_ev (p0 : List S_Run) (hp : p0.length ≤ 9223372036854775807) : ∃ m, Ev (fun k => scriniumlaw06_free.f k p0) m ∧ Fre (-1) m ∧ m.length ≤ 20 := by
  have := free_loop p0 hp p0 [] [] rfl trivial (by simp) (by simp)
  simpa [scriniumlaw06_free.f] using this
def hasB (l : List S_Run) (c : Int) : Bool := l.any fun x => decide (x.f_At ≤ c) && decide (c < endR x)
theorem hasB_iff (l : List S_Run) (c : Int) : hasB l c = true ↔ InR l c := by
  simp [hasB, InR]
theorem has_ev {l : List S_Run} (hp : l.length ≤ 1000000) (ho : OkR l) (c : Int) (hc : -9223372036854775808 ≤ c ∧ c ≤ 9223372036854775807) : Ev (fun k => extent_Has.f k l c) (hasB l c) := by
  refine ⟨l.length + 1, fun k hk => ?_⟩
  simp only [extent_Has.f, slices_ContainsFunc_api_Run.f, slices_IndexFunc_api_Run.f]
  have hf : ∀ y ∈ l, extent_Has_1.f k y c = some (decide (y.f_At ≤ c) && decide (c < endR y)) := by
    intro y hy
    have h := ho y hy; unfold Ok1 at h
    unfold extent_Has_1.f
    rw [if_pos (by simp; omega)]
    by_cases h1 : y.f_At ≤ c
    · rw [if_pos (by simpa using h1), decide_eq_true h1, Bool.true_and]
      congr 1
      rw [decide_eq_decide]
      simp only [WK_u64, endR]
      omega
    · rw [if_neg (by simpa using h1), decide_eq_false h1, Bool.false_and]
  have := index_loop l (by omega) (fun y0 => extent_Has_1.f k y0 c) _ hf l [] rfl k (by omega)
  rw [show (0 : Int) = (([] : List S_Run).length : Int) from rfl, this]
  simp only [Option.bind_some]
  unfold hasB
  cases ha : (l.any fun x => decide (x.f_At ≤ c) && decide (c < endR x)) with
  | true => rw [if_pos rfl]; simp
  | false => rw [if_neg Bool.false_ne_true]; rfl
end Go.Proofs.Ytmpnlafggebaiaa
