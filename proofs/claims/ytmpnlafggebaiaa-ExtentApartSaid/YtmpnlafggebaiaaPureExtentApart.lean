/- The plain law of ExtentApart. No condition. -/
import Derived.Test.YtmpnlafggebaiaaLW1
import Derived.Test.YtmpnlafggebaiaaLI
import Derived.Test.YtmpnlafggebaiaaLPf
set_option linter.unusedVariables false
set_option linter.unusedSimpArgs false
namespace Go.Proofs.Ytmpnlafggebaiaa
def ExtentApartPure : Prop := ∀ (p0 : (List S_Run)) (p1 : (List S_Run)), (p0.length ≤ 9223372036854775807) → (∀ x ∈ p0, -9223372036854775808 ≤ x.f_At ∧ x.f_At ≤ 9223372036854775807 ∧ -9223372036854775808 ≤ x.f_N ∧ x.f_N ≤ 9223372036854775807) → (p1.length ≤ 9223372036854775807) → (∀ x ∈ p1, -9223372036854775808 ≤ x.f_At ∧ x.f_At ≤ 9223372036854775807 ∧ -9223372036854775808 ≤ x.f_N ∧ x.f_N ≤ 9223372036854775807) → ∃ k, scriniumlaw06_ExtentApart.f k p0 p1 = some true
theorem giveF_total {l : List S_Run} {r : S_Run} (hl : Fre (-1) l) (hr : Ok1 r) (ho : over r l = false) : (allR (giveF l r).1).length = (allR l).length + r.f_N.toNat := by
  rw [giveF_yes hl hr ho]
  have e := pre_post r l
  have o1 : OkR (preR r l) := fun x hx => hl.ok x (by rw [← e]; exact List.mem_append_left _ hx)
  have o2 : OkR (postR r l) := fun x hx => hl.ok x (by rw [← e]; exact List.mem_append_right _ hx)
  have or1 : OkR [r] := fun x hx => by simp at hx; subst hx; exact hr
  show (allR (joinF (joinF (preR r l) [r]) (postR r l))).length = _
  rw [joinF_all _ _ (joinF_ok _ _ o1 or1) o2, joinF_all _ _ o1 or1]
  conv => rhs; rw [← e, allR_app]
  simp [allR_cons, allR_nil, adr_len]; omega
def some' (l : List S_Run) (r : S_Run) (j : Nat) : Bool := (List.range j).any fun q => hasB l (r.f_At + (q : Int))
theorem some_over {l : List S_Run} {r : S_Run} (hl : Fre (-1) l) (hr : Ok1 r) : some' l r r.f_N.toNat = over r l := by
  rw [Bool.eq_iff_iff, over_iff r l hr hl.ok]
  unfold some'
  simp only [List.any_eq_true, List.mem_range, hasB_iff]
  unfold Ok1 at hr
  constructor
  · rintro ⟨q, hq, h⟩; exact ⟨_, h, by omega, by simp only [endR]; omega⟩
  · rintro ⟨z, h, h1, h2⟩; exact ⟨(z - r.f_At).toNat, by simp only [endR] at h2; omega, by rw [show r.f_At + ((z - r.f_At).toNat : Int) = z by omega]; exact h⟩
theorem apart_inner (l : List S_Run) (r : S_Run) (g : List S_Run) (i : Nat) (hi : i < g.length) (hg : g.length ≤ 12) (hgr : F_Run.at_ g (i : Int) = r) (hl : Fre (-1) l) (hn : l.length ≤ 40) (hr : Ok1 r) (hs : (allR l).length ≤ 40 * 65536) :
    ∀ (m j : Nat), j + m = r.f_N.toNat → EvU (fun c : Bool → List S_Run → Int → List S_Run → Int → Option Bool => c true (giveF l r).1 ((allR (giveF l r).1).length : Int) g (W64 ((i : Int) + 1)) = some true)
      (fun c k => scriniumlaw06_ExtentApart.l2 true l ((allR l).length : Int) g (i : Int) c k (some' l r j) (j : Int)) true
  | 0, j, h => by
    have hr' := hr; unfold Ok1 at hr'
    refine EvU.succ ?_
    simp only [scriniumlaw06_ExtentApart.l2, scriniumlaw06_ExtentApart.j3, scriniumlaw06_ExtentApart.j2]
    rw [hgr]
    have hj : j = r.f_N.toNat := by omega
    subst hj
    rw [some_over hl hr]
    have hw : W64 (((allR l).length : Int) + r.f_N) = ((allR l).length : Int) + r.f_N := W64_id (by omega) (by omega)
    have gf := giveF_fre r hl
    refine EvU.pos (by omega) (EvU.ff (by simp; omega) (EvU.pos (by omega) (EvU.bind (give_ev (by omega) hl.ok.wf (by omega)) ?_)))
    have ck := check_ev (p0 := (giveF l r).1) (by omega) gf.1.ok.wf
    rw [(freB_iff _ _).2 gf.1] at ck
    cases ho : over r l with
    | false =>
      have gk := giveF_ok hl hr ho
      have gt := giveF_total hl hr ho
      rw [gk.1, hw]
      refine EvU.ff rfl (EvU.pos rfl (EvU.pos (by omega) (EvU.bind ck (EvU.ff rfl (EvU.bind (total_ev gf.1.ok (by omega) (by omega)) ?_)))))
      refine EvU.ff (by rw [gt]; simp; omega) (EvU.of fun c hc k => ?_)
      rw [← hc]; congr 1; rw [gt]; omega
    | true =>
      have gn := giveF_no ho
      rw [gn] at ck ⊢
      refine EvU.ff rfl (EvU.neg Bool.false_ne_true (EvU.bind ck (EvU.ff rfl (EvU.bind (total_ev (p0 := (l, false).1) hl.ok (by show l.length ≤ _; omega) (by show (allR l).length ≤ _; omega)) (EvU.ff (by simp) (EvU.of fun c hc k => hc))))))
  | m + 1, j, h => by
    have hr' := hr; unfold Ok1 at hr'
    have ih := apart_inner l r g i hi hg hgr hl hn hr hs m (j + 1) (by omega)
    refine EvU.succ ?_
    simp only [scriniumlaw06_ExtentApart.l2, scriniumlaw06_ExtentApart.j1]
    rw [hgr, W64_id (x := (j : Int) + 1) (by omega) (by omega), W64_id (x := r.f_At + (j : Int)) (by omega) (by omega)]
    have st : some' l r (j + 1) = (some' l r j || hasB l (r.f_At + (j : Int))) := by
      unfold some'; rw [List.range_succ, List.any_append]; simp
    rw [st] at ih
    refine EvU.pos (by omega) (EvU.tt (by simp; omega) ?_)
    cases hb : some' l r j with
    | true => rw [hb] at ih; exact EvU.pos rfl (by simpa using ih)
    | false =>
      rw [hb] at ih
      refine EvU.neg Bool.false_ne_true (EvU.pos (by omega) (EvU.bind (has_ev (by omega) hl.ok _ (by omega)) (by simpa using ih)))
theorem apart_loop (g : List S_Run) (hg : g.length ≤ 12) (og : OkR g) : ∀ (post pre l : List S_Run), g = pre ++ post → Fre (-1) l → l.length ≤ 20 + pre.length →
    Ev (fun k => scriniumlaw06_ExtentApart.l1 k true l ((allR l).length : Int) g (pre.length : Int)) true
  | [], pre, l, e, hl, hn => by
    refine Ev.succ ?_
    simp only [scriniumlaw06_ExtentApart.l1]
    exact Ev.ff (by rw [e]; simp) (Ev.pure _)
  | x :: post, pre, l, e, hl, hn => by
    have hlen : g.length = pre.length + (post.length + 1) := by rw [e]; simp
    have hx : F_Run.at_ g (pre.length : Int) = x := by rw [e]; exact at_app F_Run pre post x
    have hxo := og x (by rw [e]; simp)
    have gf := giveF_fre x hl
    have ih := apart_loop g hg og post (pre ++ [x]) (giveF l x).1 (by simp [e]) gf.1 (by simp; omega)
    have hs := hl.ok.len 40 (by omega)
    refine Ev.succ ?_
    simp only [scriniumlaw06_ExtentApart.l1]
    refine Ev.tt (by simp; omega) ?_
    have inner := apart_inner l x g pre.length (by omega) hg hx hl (by omega) hxo hs x.f_N.toNat 0 (by omega)
    rw [idx_next pre x (by omega)] at inner
    exact inner.use ih
theorem extentApart_law : ExtentApartPure := by
  intro l gives hl _ hg _
  obtain ⟨m, hm, hf, hlen⟩ := free_ev l hl
  have hs := hf.ok.len 20 hlen
  refine Ev.get ?_
  unfold scriniumlaw06_ExtentApart.f
  refine Ev.bind awake_ev (Ev.bind hm (Ev.bind (total_ev hf.ok (by omega) (by omega)) (Ev.bind (file_ev gives hg) ?_)))
  exact apart_loop _ (fileF_len gives) (fileF_ok gives) (fileF gives) [] m rfl hf (by simp; omega)
end Go.Proofs.Ytmpnlafggebaiaa
