/- Plain laws of free lists: checked, taken from, given to, searched. No condition. -/
import Derived.Test.YtmpnlafggebaiaaLPd
set_option linter.unusedVariables false
set_option linter.unusedSimpArgs false
namespace Go.Proofs.Ytmpnlafggebaiaa
open Go
def Wf (l : List S_Run) : Prop := ∀ x ∈ l, -9223372036854775808 ≤ x.f_At ∧ x.f_At ≤ 9223372036854775807 ∧ -9223372036854775808 ≤ x.f_N ∧ x.f_N ≤ 9223372036854775807
theorem OkR.wf {l : List S_Run} (h : OkR l) : Wf l := by intro x hx; have := h x hx; unfold Ok1 at this; omega
theorem good_ev (k : Nat) (x : S_Run) (hx : -9223372036854775808 ≤ x.f_At ∧ x.f_At ≤ 9223372036854775807 ∧ -9223372036854775808 ≤ x.f_N ∧ x.f_N ≤ 9223372036854775807) : extent_good.f k x = some (decide (Ok1 x)) := by
  unfold extent_good.f extent_end.f
  have no : ¬ Ok1 x → some false = some (decide (Ok1 x)) := fun h => by simp [h]
  split
  · rename_i h1
    split
    · rename_i h2
      split
      · rename_i h3
        split
        · rename_i h4
          simp at h1 h2 h3 h4
          simp only [Option.bind_some]
          rw [W64_id (by omega) (by omega)]
          congr 1
          rw [decide_eq_decide]
          unfold Ok1; omega
        · rename_i h; simp at h; exact no (by unfold Ok1; omega)
      · rename_i h; simp at h; exact no (by unfold Ok1; omega)
    · rename_i h; simp at h; exact no (by unfold Ok1; omega)
  · rename_i h; simp at h; exact no (by unfold Ok1; omega)
theorem refgood_ev (k : Nat) (x : S_Run) (hx : -9223372036854775808 ≤ x.f_At ∧ x.f_At ≤ 9223372036854775807 ∧ -9223372036854775808 ≤ x.f_N ∧ x.f_N ≤ 9223372036854775807) : scriniumref06_good.f k x = some (decide (Ok1 x)) := by
  unfold scriniumref06_good.f
  have no : ¬ Ok1 x → some false = some (decide (Ok1 x)) := fun h => by simp [h]
  split
  · rename_i h1
    split
    · rename_i h2
      split
      · rename_i h3
        split
        · rename_i h4
          simp at h1 h2 h3 h4
          rw [W64_id (by omega) (by omega)]
          congr 1
          rw [decide_eq_decide]
          unfold Ok1; omega
        · rename_i h; simp at h; exact no (by unfold Ok1; omega)
      · rename_i h; simp at h; exact no (by unfold Ok1; omega)
    · rename_i h; simp at h; exact no (by unfold Ok1; omega)
  · rename_i h; simp at h; exact no (by unfold Ok1; omega)
def chk (b : Bool) : Int := if b = true then 0 else 1
theorem last_at (p0 i : List S_Run) (y : S_Run) (post : List S_Run) (e : p0 = (i ++ [y]) ++ post) (h : p0.length ≤ 4611686018427387904) : W64 (((i ++ [y]).length : Int) - 1) = (i.length : Int) ∧ i.length < p0.length ∧ F_Run.at_ p0 (i.length : Int) = y := by
  have hl : p0.length = i.length + 1 + post.length := by rw [e]; simp <;> omega
  refine ⟨by rw [W64_id (by simp <;> omega) (by simp <;> omega)]; simp, by omega, ?_⟩
  rw [e, List.append_assoc]; exact at_app F_Run i post y
theorem check_loop (p0 : List S_Run) (hp : p0.length ≤ 4611686018427387904) : ∀ (post pre : List S_Run), p0 = pre ++ post → Wf post → OkR pre →
    Ev (fun k => extent_Check.l1 p0 k (pre.length : Int)) (chk (freB (endOf (-1) pre) post))
  | [], pre, e, h, ho => by
    subst e
    refine Ev.succ ?_
    simp only [extent_Check.l1]
    exact Ev.ff (by simp) (by simpa [freB, chk] using Ev.pure (0 : Int))
  | x :: post, pre, e, h, ho => by
    refine Ev.succ ?_
    simp only [extent_Check.l1, extent_Check.j1]
    have hx : F_Run.at_ p0 (pre.length : Int) = x := by rw [e]; exact at_app F_Run pre post x
    have hl : p0.length = pre.length + (post.length + 1) := by rw [e]; simp
    have hw := h x (by simp)
    have ih := fun o => check_loop p0 hp post (pre ++ [x]) (by simp [e]) (fun y hy => h y (by simp [hy])) o
    refine Ev.tt (by simp <;> omega) (Ev.pos ⟨by omega, by omega⟩ ?_)
    rw [hx]
    refine Ev.bind (Ev.all fun k => good_ev k ⟨x.f_At, x.f_N⟩ hw) ?_
    by_cases hok : Ok1 x
    · have ih := ih (by intro y hy; rcases List.mem_append.1 hy with hy | hy; exact ho y hy; simp at hy; subst hy; exact hok)
      rw [endOf_snoc] at ih
      rw [← idx_next pre x (by omega)] at ih
      refine Ev.ff (by simp; exact hok) ?_
      rcases snoc_or pre with rfl | ⟨i, y, rfl⟩
      · refine Ev.ff (by simp) (Ev.ff rfl ?_)
        have : freB (endOf (-1) []) (x :: post) = freB (endR x) post := by
          have := hok; unfold Ok1 at this
          rw [Bool.eq_iff_iff, freB_iff, freB_iff]
          exact ⟨fun h => h.2.2, fun h => ⟨hok, by show (-1 : Int) < x.f_At; omega, h⟩⟩
        rw [this]; exact ih
      · have hy := ho y (by simp); unfold Ok1 at hy
        obtain ⟨l1, l2, l3⟩ := last_at p0 i y (x :: post) e hp
        refine Ev.tt (by simp) ?_
        rw [l1, l3]
        refine Ev.pos (by omega) (Ev.bind (Ev.pure (endR y)) ?_ |> fun t => by simpa only [extent_end.f, W64_id (x := y.f_At + y.f_N) (by omega) (by omega)] using t)
        rw [endOf_snoc]
        by_cases hc : endR y ≥ x.f_At
        · refine Ev.tt (by simpa using hc) ?_
          have : freB (endR y) (x :: post) = false := by simp only [freB]; simp; intro _ hh; omega
          rw [this]; exact Ev.pure _
        · refine Ev.ff (by simpa using hc) ?_
          have : freB (endR y) (x :: post) = freB (endR x) post := by simp only [freB]; simp [hok]; intro _; omega
          rw [this]; exact ih
    · have : freB (endOf (-1) pre) (x :: post) = false := by simp only [freB]; simp [hok]
      rw [this]
      exact Ev.tt (by simp; exact hok) (Ev.pos trivial (Ev.pure _))
theorem check_ev {p0 : List S_Run} (hp : p0.length ≤ 4611686018427387904) (h : Wf p0) : Ev (fun k => extent_Check.f k p0) (chk (freB (-1) p0)) := by
  have := check_loop p0 hp p0 [] rfl h (by intro x hx; simp at hx)
  simpa [extent_Check.f, endOf] using this
theorem reffiles_loop (p0 : List S_Run) (hp : p0.length ≤ 4611686018427387904) : ∀ (post pre : List S_Run), p0 = pre ++ post → Wf post →
    Ev (fun k => scriniumref06_Files.l1 p0 k (pre.length : Int)) (post.all fun x => decide (Ok1 x))
  | [], pre, e, h => by
    subst e
    refine Ev.succ ?_
    simp only [scriniumref06_Files.l1]
    exact Ev.ff (by simp) (by simpa using Ev.pure true)
  | x :: post, pre, e, h => by
    refine Ev.succ ?_
    simp only [scriniumref06_Files.l1]
    have hx : F_Run.at_ p0 (pre.length : Int) = x := by rw [e]; exact at_app F_Run pre post x
    have hl : p0.length = pre.length + (post.length + 1) := by rw [e]; simp
    have ih := reffiles_loop p0 hp post (pre ++ [x]) (by simp [e]) (fun y hy => h y (by simp [hy]))
    refine Ev.tt (by simp <;> omega) (Ev.pos ⟨by omega, by omega⟩ ?_)
    rw [hx, idx_next pre x (by omega)]
    refine Ev.bind (Ev.all fun k => refgood_ev k x (h x (by simp))) ?_
    by_cases hok : Ok1 x
    · refine Ev.ff (by simp [hok]) ?_
      simpa [hok] using ih
    · refine Ev.tt (by simp [hok]) ?_
      simpa [hok] using Ev.pure false
theorem refcheck_loop (p0 : List S_Run) (hp : p0.length ≤ 4611686018427387904) (hok : OkR p0) : ∀ (post i : List S_Run) (y : S_Run), p0 = (i ++ [y]) ++ post →
    Ev (fun k => scriniumref06_Check.l1 p0 k ((i ++ [y]).length : Int)) (chk (freB (endR y) post))
  | [], i, y, e => by
    refine Ev.succ ?_
    simp only [scriniumref06_Check.l1]
    exact Ev.ff (by rw [e]; simp) (by simpa [freB, chk] using Ev.pure (0 : Int))
  | x :: post, i, y, e => by
    refine Ev.succ ?_
    simp only [scriniumref06_Check.l1]
    obtain ⟨l1, l2, l3⟩ := last_at p0 i y (x :: post) e hp
    have hl : p0.length = (i ++ [y]).length + (post.length + 1) := by rw [e]; simp <;> omega
    have hx : F_Run.at_ p0 ((i ++ [y]).length : Int) = x := by rw [e]; exact at_app F_Run (i ++ [y]) post x
    have hy := hok y (by rw [e]; simp); have hxo := hok x (by rw [e]; simp)
    have ih := refcheck_loop p0 hp hok post (i ++ [y]) x (by simp [e])
    unfold Ok1 at hy
    refine Ev.tt (by simp only [decide_eq_true_eq]; omega) ?_
    rw [l1, l3, hx, W64_id (x := y.f_At + y.f_N) (by omega) (by omega), idx_next (i ++ [y]) x (by omega)]
    refine Ev.pos (by omega) (Ev.pos (by omega) (Ev.pos (by omega) (Ev.ite (fun hc => ?_) (fun hc => ?_))))
    · have : freB (endR y) (x :: post) = false := by simp only [freB]; simp at hc ⊢; intro _ hh; simp only [endR] at hh; omega
      rw [this]; exact Ev.pure _
    · have : freB (endR y) (x :: post) = freB (endR x) post := by simp only [freB]; simp at hc; simp [hxo]; intro _; simp only [endR]; omega
      rw [this]; exact ih
theorem refcheck_ev {p0 : List S_Run} (hp : p0.length ≤ 4611686018427387904) (h : Wf p0) : Ev (fun k => scriniumref06_Check.f k p0) (chk (freB (-1) p0)) := by
  unfold scriniumref06_Check.f scriniumref06_Files.f
  refine Ev.bind (reffiles_loop p0 hp p0 [] rfl h) ?_
  by_cases hok : OkR p0
  · refine Ev.ff (by simp only [Bool.not_eq_false']; rw [List.all_eq_true]; intro x hx; simpa using hok x hx) ?_
    cases p0 with
    | nil =>
      refine Ev.succ ?_
      simp only [scriniumref06_Check.l1]
      exact Ev.ff (by simp) (by simpa [freB, chk] using Ev.pure (0 : Int))
    | cons x post =>
      have := refcheck_loop (x :: post) hp hok post [] x rfl
      have hx := hok x (by simp)
      have e : freB (-1) (x :: post) = freB (endR x) post := by
        have hx' := hx; unfold Ok1 at hx'
        simp only [freB]; simp [hx]; intro _; omega
      rw [e]; simpa using this
  · refine Ev.tt ?_ ?_
    · simp only [Bool.not_eq_true']
      rw [Bool.eq_false_iff]
      intro hh; rw [List.all_eq_true] at hh
      exact hok fun x hx => by simpa using hh x hx
    · have : freB (-1) p0 = false := by
        rw [Bool.eq_false_iff]; intro hh; exact hok ((freB_iff _ _).1 hh).ok
      rw [this]; exact Ev.pure _
theorem reftotal_loop (p0 : List S_Run) (hp : p0.length ≤ 4611686018427387904) : ∀ (post pre : List S_Run) (s : Int), p0 = pre ++ post → OkR post → 0 ≤ s → s + (allR post).length ≤ 1125899906842624 →
    Ev (fun k => scriniumref06_Total.l1 p0 k s (pre.length : Int)) (s + (allR post).length)
  | [], pre, s, e, h, h0, h1 => by
    subst e
    refine Ev.succ ?_
    simp only [scriniumref06_Total.l1]
    refine Ev.ff (by simp) (by simpa [allR] using Ev.pure s)
  | x :: post, pre, s, e, h, h0, h1 => by
    refine Ev.succ ?_
    simp only [scriniumref06_Total.l1, scriniumref06_Total.j1]
    have hx : F_Run.at_ p0 (pre.length : Int) = x := by rw [e]; exact at_app F_Run pre post x
    have hl : p0.length = pre.length + (post.length + 1) := by rw [e]; simp
    have hok := h x (by simp)
    unfold Ok1 at hok
    have hs : (allR (x :: post)).length = x.f_N.toNat + (allR post).length := by rw [allR_cons, List.length_append, adr_len]
    have ih := reftotal_loop p0 hp post (pre ++ [x]) (s + x.f_N) (by simp [e]) (fun y hy => h y (by simp [hy])) (by omega) (by omega)
    refine Ev.tt (by simp <;> omega) (Ev.pos ⟨by omega, by omega⟩ ?_)
    rw [hx, idx_next pre x (by omega), W64_id (x := s + x.f_N) (by omega) (by omega)]
    refine Ev.ff (by simp <;> omega) (Ev.pos (by omega) (Ev.tt (by simp <;> omega) (Ev.pos (by omega) (Ev.ff (by simp <;> omega) ?_))))
    rw [show (s + ((allR (x :: post)).length : Int)) = s + x.f_N + ((allR post).length : Int) by omega]
    exact ih
theorem reftotal_ev {p0 : List S_Run} (h : OkR p0) (hp : p0.length ≤ 4611686018427387904) (h1 : (allR p0).length ≤ 1125899906842624) : Ev (fun k => scriniumref06_Total.f k p0) ((allR p0).length : Int) := by
  have := reftotal_loop p0 hp p0 [] 0 rfl h (by omega) (by omega)
  simpa [scriniumref06_Total.f] using this
/-- Some taken from a free list. -/
def takeF (l : List S_Run) (n : Int) : List S_Run × List S_Run × Bool :=
  if freB (-1) l && (decide (0 ≤ n) && decide (n ≤ ((allR l).length : Int))) then (restF 0 n.toNat l, restF n.toNat 1125899906842624 l, true) else ([], l, false)
theorem take_ev {p0 : List S_Run} (hp : p0.length ≤ 1000000) (h : Wf p0) (n : Int) (hn : n ≤ 9223372036854775807) : Ev (fun k => extent_Take.f k p0 n) (takeF p0 n) := by
  unfold extent_Take.f extent_Take.j1
  refine Ev.ite (fun hc => Ev.pos rfl ?_) (fun hc => ?_)
  · have hc : n < 0 := by simpa using hc
    have : takeF p0 n = ([], p0, false) := by unfold takeF; rw [show decide (0 ≤ n) = false by simp; omega]; simp
    rw [this]; exact Ev.pure _
  · have hc : ¬ n < 0 := by simpa using hc
    refine Ev.bind (check_ev (by omega) h) ?_
    cases hf : freB (-1) p0 with
    | false =>
      have : takeF p0 n = ([], p0, false) := by unfold takeF; rw [hf]; simp
      rw [this]; exact Ev.tt rfl (Ev.pos rfl (Ev.pure _))
    | true =>
      have ho := ((freB_iff _ _).1 hf).ok
      have hlen := ho.len 1000000 hp
      refine Ev.ff rfl (Ev.bind (total_ev ho (by omega) (by omega)) (Ev.ite (fun hd => ?_) (fun hd => ?_)))
      · have hd : ((allR p0).length : Int) < n := by simpa using hd
        have : takeF p0 n = ([], p0, false) := by unfold takeF; rw [show decide (n ≤ ((allR p0).length : Int)) = false by simp; omega]; simp
        rw [this]; exact Ev.pure _
      · have hd : ¬ ((allR p0).length : Int) < n := by simpa using hd
        have : takeF p0 n = (restF 0 n.toNat p0, restF n.toNat 1125899906842624 p0, true) := by
          unfold takeF; rw [hf, show decide (n ≤ ((allR p0).length : Int)) = true by simp; omega, show decide (0 ≤ n) = true by simp; omega]; simp
        rw [this]
        exact Ev.bind (cut_ev' ho (by omega) n hn) (Ev.pure _)
theorem reftake_ev {p0 : List S_Run} (hp : p0.length ≤ 1000000) (h : Wf p0) (n : Int) (hm : -9223372036854775808 ≤ n) (hn : n ≤ 9223372036854775807) : Ev (fun k => scriniumref06_Take.f k p0 n) (takeF p0 n) := by
  unfold scriniumref06_Take.f scriniumref06_Take.j1
  refine Ev.bind (refcheck_ev (by omega) h) ?_
  cases hf : freB (-1) p0 with
  | false =>
    have : takeF p0 n = ([], p0, false) := by unfold takeF; rw [hf]; simp
    rw [this]; exact Ev.tt rfl (Ev.pos rfl (Ev.pure _))
  | true =>
    have ho := ((freB_iff _ _).1 hf).ok
    have hlen := ho.len 1000000 hp
    refine Ev.ff rfl (Ev.ite (fun hc => Ev.pos rfl ?_) (fun hc => ?_))
    · have hc : n < 0 := by simpa using hc
      have : takeF p0 n = ([], p0, false) := by unfold takeF; rw [show decide (0 ≤ n) = false by simp; omega]; simp
      rw [this]; exact Ev.pure _
    · have hc : ¬ n < 0 := by simpa using hc
      refine Ev.bind (reftotal_ev ho (by omega) (by omega)) (Ev.ite (fun hd => ?_) (fun hd => ?_))
      · have hd : ((allR p0).length : Int) < n := by simpa using hd
        have : takeF p0 n = ([], p0, false) := by unfold takeF; rw [show decide (n ≤ ((allR p0).length : Int)) = false by simp; omega]; simp
        rw [this]; exact Ev.pure _
      · have hd : ¬ ((allR p0).length : Int) < n := by simpa using hd
        have : takeF p0 n = (restF 0 n.toNat p0, restF n.toNat 1125899906842624 p0, true) := by
          unfold takeF; rw [hf, show decide (n ≤ ((allR p0).length : Int)) = true by simp; omega, show decide (0 ≤ n) = true by simp; omega]; simp
        rw [this]
        exact Ev.bind (refcut_ev ho (by omega) n hm hn) (Ev.pure _)
theorem index_loop (p0 : List S_Run) (hp : p0.length ≤ 4611686018427387904) (f : S_Run → Option Bool) (q : S_Run → Bool) (hf : ∀ y ∈ p0, f y = some (q y)) : ∀ (post pre : List S_Run), p0 = pre ++ post → ∀ k, post.length < k →
    slices_IndexFunc_api_Run.l1 p0 f k (pre.length : Int) = some (if post.any q then ((pre.length + (post.takeWhile fun x => !q x).length : Nat) : Int) else -1)
  | [], pre, e, k, hk => by
    obtain ⟨k, rfl⟩ : ∃ n, k = n + 1 := ⟨k - 1, by omega⟩
    subst e
    simp only [slices_IndexFunc_api_Run.l1]
    rw [if_neg (by simp)]; simp
  | x :: post, pre, e, k, hk => by
    obtain ⟨k, rfl⟩ : ∃ n, k = n + 1 := ⟨k - 1, by omega⟩
    simp only [slices_IndexFunc_api_Run.l1]
    have hx : F_Run.at_ p0 (pre.length : Int) = x := by rw [e]; exact at_app F_Run pre post x
    have hl : p0.length = pre.length + (post.length + 1) := by rw [e]; simp
    have ih := index_loop p0 hp f q hf post (pre ++ [x]) (by simp [e]) k (by simp at hk; omega)
    rw [if_pos (by simp <;> omega), if_pos (by omega), hx, hf x (by rw [e]; simp), idx_next pre x (by omega)]
    simp only [Option.bind_some]
    cases hq : q x with
    | true => rw [if_pos rfl]; simp [hq]
    | false =>
      rw [if_neg (by simp), ih]
      simp [hq, Nat.add_assoc, Nat.add_comm 1]
theorem place_ev (p0 : List S_Run) (hp : p0.length ≤ 4611686018427387904) (f : S_Run → Option Bool) (q : S_Run → Bool) (hf : ∀ y ∈ p0, f y = some (q y)) (k : Nat) (hk : p0.length < k) :
    extent_place_api_Run.f k p0 f = some ((p0.takeWhile fun x => !q x).length : Int) := by
  unfold extent_place_api_Run.f slices_IndexFunc_api_Run.f
  have := index_loop p0 hp f q hf p0 [] rfl k hk
  rw [show (0 : Int) = (([] : List S_Run).length : Int) from rfl, this]
  simp only [Option.bind_some]
  cases ha : p0.any q with
  | true =>
    rw [if_pos rfl, if_neg (by simp <;> omega)]; simp
  | false =>
    rw [if_neg (c := false = true) Bool.false_ne_true, if_pos (by decide)]
    have hall : ∀ (l : List S_Run), (∀ x ∈ l, q x = false) → (l.takeWhile fun x => !q x) = l := by
      intro l
      induction l with
      | nil => intro _; rfl
      | cons x l ih => intro h; rw [List.takeWhile_cons, h x (by simp)]; simp [ih fun y hy => h y (by simp [hy])]
    rw [hall p0 fun x hx => by have := List.any_eq_false.1 ha x hx; simpa using this]
theorem endOf_ge : ∀ (lo : Int) (l : List S_Run), Fre lo l → ∀ x ∈ l, endR x ≤ endOf lo l
  | _, [], _ => by intro x hx; simp at hx
  | lo, y :: l, h => by
    intro x hx
    simp only [endOf]
    rcases snoc_or l with rfl | ⟨i, z, rfl⟩
    · simp at hx; subst hx; simp [endOf]
    · rcases List.mem_cons.1 hx with rfl | hx
      · have a1 := endOf_ge _ _ h.2.2 z (by simp)
        have a2 := h.2.2.lt z (by simp)
        have a3 := h.2.2.ok z (by simp); unfold Ok1 at a3
        simp only [endR] at *; omega
      · exact endOf_ge _ _ h.2.2 x hx
theorem over_ends {l : List S_Run} {r : S_Run} (hl : Fre (-1) l) (hr : Ok1 r) : over r l = (decide (r.f_At < endOf (-1) (preR r l)) || match postR r l with | [] => false | y :: _ => decide (y.f_At < endR r)) := by
  have hr' := hr; unfold Ok1 at hr'
  have hsplit := pre_post r l
  have hl2 := hl
  rw [← hsplit] at hl2
  obtain ⟨h1, h2⟩ := (Fre_app _ _ _).1 hl2
  rw [Bool.eq_iff_iff]
  simp only [over, List.any_eq_true, Bool.and_eq_true, Bool.or_eq_true, decide_eq_true_eq]
  constructor
  · rintro ⟨x, hx, a, b⟩
    rw [← hsplit] at hx
    rcases List.mem_append.1 hx with hx | hx
    · exact .inl (by have := endOf_ge _ _ h1 x hx; omega)
    · right
      cases hpo : postR r l with
      | nil => rw [hpo] at hx; simp at hx
      | cons y bs =>
        rw [hpo] at hx h2
        simp only [decide_eq_true_eq]
        rcases List.mem_cons.1 hx with rfl | hx
        · exact a
        · have := h2.2.2.lt x hx; have := h2.1; unfold Ok1 at this; simp only [endR] at *; omega
  · rintro (h | h)
    · rcases snoc_or (preR r l) with e0 | ⟨i, x, e0⟩
      · rw [e0] at h; simp only [endOf] at h; omega
      · rw [e0, endOf_snoc] at h
        have hx : x ∈ preR r l := by rw [e0]; simp
        have := pre_lt r l x hx
        exact ⟨x, by rw [← hsplit]; exact List.mem_append_left _ hx, by simp only [endR]; omega, h⟩
    · cases hpo : postR r l with
      | nil => rw [hpo] at h; simp at h
      | cons y bs =>
        rw [hpo] at h
        simp only [decide_eq_true_eq] at h
        have hy : y ∈ postR r l := by rw [hpo]; simp
        have a := post_ge r l _ hl y hy
        have hym : y ∈ l := by rw [← hsplit]; exact List.mem_append_right _ hy
        have b := hl.ok y hym; unfold Ok1 at b
        exact ⟨y, hym, h, by simp only [endR]; omega⟩
end Go.Proofs.Ytmpnlafggebaiaa
