/- Plain laws of runs: their addresses, their sum, what is cut from them, joined. No condition. -/
import Derived.Test.YtmpnlafggebaiaaLW1
import Derived.Test.YtmpnlafggebaiaaLJ
set_option linter.unusedVariables false
set_option linter.unusedSimpArgs false
namespace Go.Proofs.Ytmpnlafggebaiaa
open Go
/-- A run within 65536 places. -/
def Ok1 (x : S_Run) : Prop := 1 ≤ x.f_N ∧ x.f_N ≤ 65536 ∧ 0 ≤ x.f_At ∧ x.f_At + x.f_N ≤ 65536
def OkR (l : List S_Run) : Prop := ∀ x ∈ l, Ok1 x
def adr (x : S_Run) : List Int := (List.range x.f_N.toNat).map fun (i : Nat) => x.f_At + (i : Int)
def allR (l : List S_Run) : List Int := l.flatMap adr
theorem allR_nil : allR [] = [] := rfl
theorem allR_cons (x : S_Run) (l : List S_Run) : allR (x :: l) = adr x ++ allR l := by simp [allR]
theorem allR_app (a b : List S_Run) : allR (a ++ b) = allR a ++ allR b := by simp [allR]
theorem adr_len (x : S_Run) : (adr x).length = x.f_N.toNat := by simp [adr]
theorem idx_next {α : Type} (pre : List α) (x : α) (h : pre.length < 4611686018427387904) : W64 ((pre.length : Int) + 1) = ((pre ++ [x]).length : Int) := by
  rw [W64_id (by omega) (by omega)]; simp

theorem total_loop (p0 : List S_Run) (hp : p0.length ≤ 4611686018427387904) : ∀ (post pre : List S_Run) (s : Int), p0 = pre ++ post → OkR post → 0 ≤ s → s + (allR post).length ≤ 1125899906842624 →
    Ev (fun k => extent_Total.l1 p0 k s (pre.length : Int)) (s + (allR post).length)
  | [], pre, s, e, h, h0, h1 => by
    subst e
    refine Ev.succ ?_
    simp only [extent_Total.l1]
    refine Ev.ff (by simp) (by simpa [allR] using Ev.pure s)
  | x :: post, pre, s, e, h, h0, h1 => by
    refine Ev.succ ?_
    simp only [extent_Total.l1]
    have hx : F_Run.at_ p0 (pre.length : Int) = x := by rw [e]; exact at_app F_Run pre post x
    have hl : p0.length = pre.length + (post.length + 1) := by rw [e]; simp
    have hok := h x (by simp)
    unfold Ok1 at hok
    have hs : (allR (x :: post)).length = x.f_N.toNat + (allR post).length := by rw [allR_cons, List.length_append, adr_len]
    have ih := total_loop p0 hp post (pre ++ [x]) (s + x.f_N) (by simp [e]) (fun y hy => h y (by simp [hy])) (by omega) (by omega)
    refine Ev.tt (by simp; omega) (Ev.pos ⟨by omega, by omega⟩ ?_)
    rw [hx, idx_next pre x (by omega)]
    simp only [mnI_eq, mxI_eq]
    rw [show min (max x.f_N 0) 1125899906842624 = x.f_N by omega, W64_id (x := s + x.f_N) (by omega) (by omega), show min (s + x.f_N) 1125899906842624 = s + x.f_N by omega]
    rw [show (s + ((allR (x :: post)).length : Int)) = s + x.f_N + ((allR post).length : Int) by omega]
    exact ih
theorem total_ev {p0 : List S_Run} (h : OkR p0) (hp : p0.length ≤ 4611686018427387904) (h1 : (allR p0).length ≤ 1125899906842624) : Ev (fun k => extent_Total.f k p0) ((allR p0).length : Int) := by
  have := total_loop p0 hp p0 [] 0 rfl h (by omega) (by omega)
  simpa [extent_Total.f] using this

theorem all_inner (p0 : List S_Run) (x4 : Int) (N : Nat) (hN : (F_Run.at_ p0 x4).f_N = N) (h0 : 0 ≤ (F_Run.at_ p0 x4).f_At) (h1 : (F_Run.at_ p0 x4).f_At + N ≤ 65536) (LOOP : List Int → Int → Option (List Int)) :
    ∀ (m j : Nat) (l : List Int), j + m = N → l.length + m ≤ 1000000000000 → ∀ k, m < k →
      extent_All.l2 p0 x4 LOOP k l (j : Int) = LOOP (l ++ (List.range' j m).map fun (i : Nat) => (F_Run.at_ p0 x4).f_At + (i : Int)) (W64 (x4 + 1))
  | 0, j, l, hj, hl, k, hk => by
    obtain ⟨k, rfl⟩ : ∃ n, k = n + 1 := ⟨k - 1, by omega⟩
    simp only [extent_All.l2]
    rw [if_neg (by simp; omega)]
    simp
  | m + 1, j, l, hj, hl, k, hk => by
    obtain ⟨k, rfl⟩ : ∃ n, k = n + 1 := ⟨k - 1, by omega⟩
    simp only [extent_All.l2]
    rw [if_pos (by simp; omega), if_pos (by simp; omega)]
    rw [W64_id (x := (F_Run.at_ p0 x4).f_At + (j : Int)) (by omega) (by omega), W64_id (x := (j : Int) + 1) (by omega) (by omega)]
    have ih := all_inner p0 x4 N hN h0 h1 LOOP m (j + 1) (l ++ [(F_Run.at_ p0 x4).f_At + (j : Int)]) (by omega) (by simp; omega) k (by omega)
    rw [show ((j : Int) + 1) = ((j + 1 : Nat) : Int) by push_cast; rfl, ih]
    simp [List.range'_succ]
theorem all_loop (p0 : List S_Run) (hp : p0.length ≤ 4611686018427387904) : ∀ (post pre : List S_Run) (l : List Int), p0 = pre ++ post → OkR post → l.length + (allR post).length ≤ 1000000000000 →
    Ev (fun k => extent_All.l1 p0 k l (pre.length : Int)) (l ++ allR post)
  | [], pre, l, e, h, h1 => by
    subst e
    refine Ev.succ ?_
    simp only [extent_All.l1]
    exact Ev.ff (by simp) (by simpa [allR] using Ev.pure l)
  | x :: post, pre, l, e, h, h1 => by
    refine Ev.succ ?_
    simp only [extent_All.l1]
    have hx : F_Run.at_ p0 (pre.length : Int) = x := by rw [e]; exact at_app F_Run pre post x
    have hl : p0.length = pre.length + (post.length + 1) := by rw [e]; simp
    have hok := h x (by simp)
    unfold Ok1 at hok
    have hs : (allR (x :: post)).length = x.f_N.toNat + (allR post).length := by rw [allR_cons, List.length_append, adr_len]
    have ih := all_loop p0 hp post (pre ++ [x]) (l ++ adr x) (by simp [e]) (fun y hy => h y (by simp [hy])) (by simp [adr_len]; omega)
    refine Ev.tt (by simp; omega) (Ev.pos ⟨by omega, by omega⟩ (Ev.of ⟨x.f_N.toNat + 1, fun k hk => ?_⟩ (h := fun k => extent_All.l1 p0 k (l ++ adr x) ((pre ++ [x]).length : Int)) ?_))
    · have := all_inner p0 (pre.length : Int) x.f_N.toNat (by rw [hx]; omega) (by rw [hx]; omega) (by rw [hx]; omega) (extent_All.l1 p0 k) x.f_N.toNat 0 l (by omega) (by omega) k (by omega)
      rw [idx_next pre x (by omega), hx] at this
      simpa [adr, List.range_eq_range'] using this
    · rw [allR_cons, ← List.append_assoc]; exact ih
theorem all_ev {p0 : List S_Run} (h : OkR p0) (hp : p0.length ≤ 4611686018427387904) (h1 : (allR p0).length ≤ 1000000000000) : Ev (fun k => extent_All.f k p0) (allR p0) := by
  have := all_loop p0 hp p0 [] [] rfl h (by simpa using h1)
  simpa [extent_All.f] using this

/-- What is left behind s places, and of it n. -/
def restF : Nat → Nat → List S_Run → List S_Run
  | _, _, [] => []
  | s, n, x :: post =>
    let sk := min s x.f_N.toNat
    let tk := min (x.f_N.toNat - sk) n
    (if 0 < tk then [⟨x.f_At + sk, tk⟩] else []) ++ restF (s - sk) (n - tk) post
theorem restF_zero : ∀ (s : Nat) (l : List S_Run), restF s 0 l = []
  | s, [] => rfl
  | s, x :: post => by simp [restF, restF_zero]
theorem restF_ok : ∀ (s n : Nat) (l : List S_Run), OkR l → OkR (restF s n l)
  | s, n, [], h => by simp [restF, OkR]
  | s, n, x :: post, h => by
    have hx := h x (by simp)
    have ih := restF_ok (s - min s x.f_N.toNat) (n - min (x.f_N.toNat - min s x.f_N.toNat) n) post (fun y hy => h y (by simp [hy]))
    unfold Ok1 at hx
    intro y hy
    simp only [restF, List.mem_append] at hy
    rcases hy with hy | hy
    · split at hy
      · simp at hy; subst hy; unfold Ok1; simp; omega
      · simp at hy
    · exact ih y hy
theorem restF_len : ∀ (s n : Nat) (l : List S_Run), (restF s n l).length ≤ l.length
  | s, n, [] => by simp [restF]
  | s, n, x :: post => by
    have ih := restF_len (s - min s x.f_N.toNat) (n - min (x.f_N.toNat - min s x.f_N.toNat) n) post
    simp only [restF, List.length_append, List.length_cons]
    split <;> simp <;> omega
theorem adr_cut (x : S_Run) (h : 0 ≤ x.f_N) (s n : Nat) (hs : s ≤ x.f_N.toNat) : adr ⟨x.f_At + s, (min (x.f_N.toNat - s) n : Nat)⟩ = ((adr x).drop s).take n := by
  apply List.ext_getElem
  · simp [adr]; omega
  · intro i h1 h2
    simp [adr]; omega
theorem restF_all : ∀ (s n : Nat) (l : List S_Run), OkR l → allR (restF s n l) = ((allR l).drop s).take n
  | s, n, [], h => by simp [restF, allR]
  | s, n, x :: post, h => by
    have hx := h x (by simp)
    unfold Ok1 at hx
    have ih := restF_all (s - min s x.f_N.toNat) (n - min (x.f_N.toNat - min s x.f_N.toNat) n) post (fun y hy => h y (by simp [hy]))
    have e : ∀ c : Prop, ∀ [Decidable c], ∀ y : S_Run, allR ((if c then [y] else []) ++ restF (s - min s x.f_N.toNat) (n - min (x.f_N.toNat - min s x.f_N.toNat) n) post) = (if c then adr y else []) ++ allR (restF (s - min s x.f_N.toNat) (n - min (x.f_N.toNat - min s x.f_N.toNat) n) post) := by
      intro c _ y; rw [allR_app]; split <;> simp [allR]
    simp only [restF]
    rw [e, ih, allR_cons, List.drop_append, List.take_append, adr_len]
    have hl : (List.drop s (adr x)).length = x.f_N.toNat - s := by simp [adr_len]
    rw [hl]
    have c1 : (if 0 < min (x.f_N.toNat - min s x.f_N.toNat) n then adr ⟨x.f_At + (min s x.f_N.toNat : Nat), (min (x.f_N.toNat - min s x.f_N.toNat) n : Nat)⟩ else []) = ((adr x).drop s).take n := by
      have e1 : (adr x).drop s = (adr x).drop (min s x.f_N.toNat) := by
        by_cases hs : s ≤ x.f_N.toNat
        · rw [Nat.min_eq_left hs]
        · rw [List.drop_eq_nil_of_le (by rw [adr_len]; omega), List.drop_eq_nil_of_le (by rw [adr_len]; omega)]
      rw [e1, ← adr_cut x (by omega) _ n (Nat.min_le_right _ _)]
      split
      · rfl
      · rename_i h0
        have : min (x.f_N.toNat - min s x.f_N.toNat) n = 0 := by omega
        rw [this]; simp [adr]
    rw [c1]
    congr 2
    · omega
    · congr 1; omega
theorem rest_loop (p0 : List S_Run) (hp : p0.length ≤ 1000000000) : ∀ (post pre : List S_Run) (s n : Nat) (l : List S_Run), p0 = pre ++ post → OkR post → s ≤ 9223372036854775807 → n ≤ 9223372036854775807 → l.length ≤ pre.length →
    Ev (fun k => extent_Rest.l1 p0 k (s : Int) (n : Int) l (pre.length : Int)) (l ++ restF s n post)
  | [], pre, s, n, l, e, h, h0, h1, hl => by
    subst e
    refine Ev.succ ?_
    simp only [extent_Rest.l1, extent_Rest.j1]
    exact Ev.ff (by simp) (by simpa [restF] using Ev.pure l)
  | x :: post, pre, s, n, l, e, h, h0, h1, hl => by
    refine Ev.succ ?_
    simp only [extent_Rest.l1, extent_Rest.j1, extent_Rest.j2]
    have hx : F_Run.at_ p0 (pre.length : Int) = x := by rw [e]; exact at_app F_Run pre post x
    have hlen : p0.length = pre.length + (post.length + 1) := by rw [e]; simp
    have hok := h x (by simp)
    unfold Ok1 at hok
    refine Ev.tt (by simp; omega) (Ev.pos ⟨by omega, by omega⟩ (Ev.ite (fun hn => ?_) (fun hn => ?_)))
    · have : n = 0 := by simpa using hn
      subst this
      rw [restF_zero]; simpa using Ev.pure l
    · rw [hx, idx_next pre x (by omega)]
      have m1 : mnI (s : Int) x.f_N = ((min s x.f_N.toNat : Nat) : Int) := by rw [mnI_eq]; omega
      have m2 : W64 (x.f_N - ((min s x.f_N.toNat : Nat) : Int)) = ((x.f_N.toNat - min s x.f_N.toNat : Nat) : Int) := by rw [W64_id (by omega) (by omega)]; omega
      have m3 : mnI ((x.f_N.toNat - min s x.f_N.toNat : Nat) : Int) (n : Int) = ((min (x.f_N.toNat - min s x.f_N.toNat) n : Nat) : Int) := by rw [mnI_eq]; omega
      have m4 : W64 (x.f_At + ((min s x.f_N.toNat : Nat) : Int)) = x.f_At + ((min s x.f_N.toNat : Nat) : Int) := W64_id (by omega) (by omega)
      have m5 : W64 ((s : Int) - ((min s x.f_N.toNat : Nat) : Int)) = ((s - min s x.f_N.toNat : Nat) : Int) := by rw [W64_id (by omega) (by omega)]; omega
      have m6 : W64 ((n : Int) - ((min (x.f_N.toNat - min s x.f_N.toNat) n : Nat) : Int)) = ((n - min (x.f_N.toNat - min s x.f_N.toNat) n : Nat) : Int) := by rw [W64_id (by omega) (by omega)]; omega
      simp only [m1, m2, m3, m4, m5, m6]
      have ih := fun l' hl' => rest_loop p0 hp post (pre ++ [x]) (s - min s x.f_N.toNat) (n - min (x.f_N.toNat - min s x.f_N.toNat) n) l' (by simp [e]) (fun y hy => h y (by simp [hy])) (by omega) (by omega) hl'
      refine Ev.ite (fun ht => Ev.pos (by simp; omega) ?_) (fun ht => ?_)
      · have ht' : 0 < min (x.f_N.toNat - min s x.f_N.toNat) n := by simpa using ht
        have := ih (l ++ [⟨x.f_At + ((min s x.f_N.toNat : Nat) : Int), ((min (x.f_N.toNat - min s x.f_N.toNat) n : Nat) : Int)⟩]) (by simp; omega)
        simp only [restF]
        rw [if_pos ht', ← List.append_assoc]
        exact this
      · have ht' : ¬ 0 < min (x.f_N.toNat - min s x.f_N.toNat) n := by simpa using ht
        have z : min (x.f_N.toNat - min s x.f_N.toNat) n = 0 := by omega
        have := ih l (by simp; omega)
        simp only [restF]
        rw [if_neg ht', List.nil_append]
        rw [z] at this ⊢
        exact this
theorem rest_ev' {p0 : List S_Run} (h : OkR p0) (hp : p0.length ≤ 1000000000) (s n : Int) (hs : s ≤ 9223372036854775807) (hn : n ≤ 9223372036854775807) : Ev (fun k => extent_Rest.f k p0 s n) (restF s.toNat n.toNat p0) := by
  have := rest_loop p0 hp p0 [] s.toNat n.toNat [] rfl h (by omega) (by omega) (by simp)
  have e1 : mxI s 0 = (s.toNat : Int) := by rw [mxI_eq]; omega
  have e2 : mxI n 0 = (n.toNat : Int) := by rw [mxI_eq]; omega
  simpa [extent_Rest.f, e1, e2] using this
theorem rest_ev {p0 : List S_Run} (h : OkR p0) (hp : p0.length ≤ 1000000000) (s n : Nat) (hs : s ≤ 1125899906842624) (hn : n ≤ 1125899906842624) : Ev (fun k => extent_Rest.f k p0 (s : Int) (n : Int)) (restF s n p0) := by
  simpa using rest_ev' h hp (s : Int) (n : Int) (by omega) (by omega)
theorem cut_ev' {p0 : List S_Run} (h : OkR p0) (hp : p0.length ≤ 1000000000) (n : Int) (hn : n ≤ 9223372036854775807) : Ev (fun k => extent_Cut.f k p0 n) (restF 0 n.toNat p0, restF n.toNat 1125899906842624 p0) := by
  unfold extent_Cut.f
  exact Ev.bind (rest_ev' h hp 0 n (by omega) hn) (Ev.bind (rest_ev' h hp n 1125899906842624 hn (by omega)) (Ev.pure _))
theorem cut_ev {p0 : List S_Run} (h : OkR p0) (hp : p0.length ≤ 1000000000) (n : Nat) (hn : n ≤ 1125899906842624) : Ev (fun k => extent_Cut.f k p0 (n : Int)) (restF 0 n p0, restF n 1125899906842624 p0) := by
  simpa using cut_ev' h hp (n : Int) (by omega)
end Go.Proofs.Ytmpnlafggebaiaa
