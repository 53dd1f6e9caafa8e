/- Plain laws of runs: the second form of each tells the same. No condition. -/
import Derived.Test.YtmpnlafggebaiaaLPb
set_option linter.unusedVariables false
set_option linter.unusedSimpArgs false
namespace Go.Proofs.Ytmpnlafggebaiaa
open Go
theorem refrest_loop (p0 : List S_Run) (hp : p0.length ≤ 1000000000) : ∀ (post pre : List S_Run) (s : Nat) (n : Int) (l : List S_Run), p0 = pre ++ post → OkR post → s ≤ 9223372036854775807 → -9223372036854775808 ≤ n → n ≤ 9223372036854775807 → l.length ≤ pre.length →
    Ev (fun k => scriniumref06_Rest.l1 p0 k (s : Int) n l (pre.length : Int)) (l ++ restF s n.toNat post)
  | [], pre, s, n, l, e, h, h0, hm, h1, hl => by
    subst e
    refine Ev.succ ?_
    simp only [scriniumref06_Rest.l1]
    exact Ev.ff (by simp) (by simpa [restF] using Ev.pure l)
  | x :: post, pre, s, n, l, e, h, h0, hm, h1, hl => by
    refine Ev.succ ?_
    simp only [scriniumref06_Rest.l1, scriniumref06_Rest.j1, scriniumref06_Rest.j2]
    have hx : F_Run.at_ p0 (pre.length : Int) = x := by rw [e]; exact at_app F_Run pre post x
    have hlen : p0.length = pre.length + (post.length + 1) := by rw [e]; simp
    have hok := h x (by simp)
    unfold Ok1 at hok
    have ih := fun s' n' l' h0' hm' h1' hl' => refrest_loop p0 hp post (pre ++ [x]) s' n' l' (by simp [e]) (fun y hy => h y (by simp [hy])) h0' hm' h1' hl'
    refine Ev.tt (by simp <;> omega) (Ev.pos ⟨by omega, by omega⟩ ?_)
    rw [hx, idx_next pre x (by omega)]
    refine Ev.ite (fun hc => ?_) (fun hc => ?_)
    · have hc : x.f_N ≤ (s : Int) := by simpa using hc
      have m : W64 ((s : Int) - x.f_N) = ((s - x.f_N.toNat : Nat) : Int) := by rw [W64_id (by omega) (by omega)]; omega
      rw [m]
      have := ih (s - x.f_N.toNat) n l (by omega) hm h1 (by simp <;> omega)
      simp only [restF]
      rw [if_neg (by omega), List.nil_append, show min s x.f_N.toNat = x.f_N.toNat by omega, Nat.sub_self, Nat.zero_min, Nat.sub_zero]
      exact this
    · have hc : ¬ x.f_N ≤ (s : Int) := by simpa using hc
      have m : W64 (x.f_N - (s : Int)) = x.f_N - s := W64_id (by omega) (by omega)
      have m4 : W64 (x.f_At + (s : Int)) = x.f_At + (s : Int) := W64_id (by omega) (by omega)
      rw [m, m4]
      have fin : ∀ t : Int, t = min (x.f_N - s) n → Ev (fun k => if decide (t < 1) = true then some l else if (l.length + ([(⟨x.f_At + (s : Int), t⟩ : S_Run)]).length) * 16 ≤ 140737488355328 then scriniumref06_Rest.l1 p0 k 0 (W64 (n - t)) (l ++ [(⟨x.f_At + (s : Int), t⟩ : S_Run)]) ((pre ++ [x]).length : Int) else none) (l ++ restF s n.toNat (x :: post)) := by
        intro t ht
        have hmn : min s x.f_N.toNat = s := by omega
        refine Ev.ite (fun h1 => ?_) (fun h1 => Ev.pos (by simp <;> omega) ?_)
        · have h1 : t < 1 := by simpa using h1
          rw [show n.toNat = 0 by omega, restF_zero]; simpa using Ev.pure l
        · have h1 : ¬ t < 1 := by simpa using h1
          have := ih 0 (W64 (n - t)) (l ++ [(⟨x.f_At + (s : Int), t⟩ : S_Run)]) (by omega) (by rw [W64_id (by omega) (by omega)]; omega) (by rw [W64_id (by omega) (by omega)]; omega) (by simp <;> omega)
          simp only [restF, hmn]
          rw [if_pos (by omega), Nat.sub_self, ← List.append_assoc]
          have e1 : ((min (x.f_N.toNat - s) n.toNat : Nat) : Int) = t := by omega
          have e2 : (W64 (n - t)).toNat = n.toNat - min (x.f_N.toNat - s) n.toNat := by rw [W64_id (by omega) (by omega)]; omega
          rw [e1, ← e2]
          exact this
      refine Ev.ite (fun hd => ?_) (fun hd => ?_)
      · have hd : n < x.f_N - s := by simpa using hd
        exact fin n (by omega)
      · have hd : ¬ n < x.f_N - s := by simpa using hd
        exact fin (x.f_N - s) (by omega)
theorem refrest_ev {p0 : List S_Run} (h : OkR p0) (hp : p0.length ≤ 1000000000) (s n : Int) (hs : s ≤ 9223372036854775807) (hm : -9223372036854775808 ≤ n) (hn : n ≤ 9223372036854775807) : Ev (fun k => scriniumref06_Rest.f k p0 s n) (restF s.toNat n.toNat p0) := by
  unfold scriniumref06_Rest.f scriniumref06_Rest.j3
  have := refrest_loop p0 hp p0 [] s.toNat n [] rfl h (by omega) hm hn (by simp)
  refine Ev.ite (fun hc => ?_) (fun hc => ?_)
  · have hc : s < 0 := by simpa using hc
    rw [show s.toNat = 0 by omega] at this ⊢
    simpa using this
  · have hc : ¬ s < 0 := by simpa using hc
    rw [show ((s.toNat : Nat) : Int) = s by omega] at this
    simpa using this
theorem refcut_ev {p0 : List S_Run} (h : OkR p0) (hp : p0.length ≤ 1000000000) (n : Int) (hm : -9223372036854775808 ≤ n) (hn : n ≤ 9223372036854775807) : Ev (fun k => scriniumref06_Cut.f k p0 n) (restF 0 n.toNat p0, restF n.toNat 1125899906842624 p0) := by
  unfold scriniumref06_Cut.f scriniumref06_Cut.j1
  refine Ev.ite (fun hc => ?_) (fun hc => ?_)
  · have hc : n < 0 := by simpa using hc
    rw [show n.toNat = 0 by omega]
    exact Ev.bind (refrest_ev h hp 0 0 (by omega) (by omega) (by omega)) (Ev.bind (refrest_ev h hp 0 1125899906842624 (by omega) (by omega) (by omega)) (Ev.pure _))
  · exact Ev.bind (refrest_ev h hp 0 n (by omega) hm hn) (Ev.bind (refrest_ev h hp n 1125899906842624 hn (by omega) (by omega)) (Ev.pure _))
theorem refjoin_ev (k : Nat) (a b : List S_Run) (hla : a.length + b.length ≤ 1000000000) (ha : OkR a) (hb : OkR b) : scriniumref06_Join.f k a b = some (joinF a b) := by
  unfold scriniumref06_Join.f
  rw [if_pos (by simp <;> omega)]
  have j1 : ∀ l : List S_Run, scriniumref06_Join.j1 a b l false = if (l.length + b.length) * 16 ≤ 140737488355328 then some (l ++ b) else none := fun l => rfl
  rcases snoc_or a with rfl | ⟨i, x, rfl⟩
  · rw [if_neg (by simp), j1, if_pos (by simp at hla ⊢; omega), joinF_nil]; rfl
  · rw [if_pos (by simp <;> omega)]
    cases b with
    | nil => rw [if_neg (by simp), j1, if_pos (by simp at hla ⊢; omega), joinF_nil']; simp
    | cons y bs =>
      have hx := ha x (by simp); have hy := hb y (by simp); unfold Ok1 at hx hy
      have hl : W64 (((i ++ [x]).length : Int) - 1) = (i.length : Int) := by
        simp only [List.length_append, List.length_cons, List.length_nil] at hla ⊢
        rw [W64_id (by omega) (by omega)]; omega
      have h0 : F_Run.at_ (y :: bs) (0 : Int) = y := at_app F_Run [] bs y
      rw [if_pos (by simp <;> omega), hl, if_pos (by simp <;> omega), if_pos (by simp <;> omega), if_pos (by simp <;> omega)]
      simp only [at_snoc, h0]
      rw [W64_id (by omega) (by omega), joinF_cons]
      by_cases e : x.f_At + x.f_N = y.f_At
      · rw [show (x.f_At + x.f_N == y.f_At) = true by simpa using e, if_pos e]
        unfold scriniumref06_Join.j1
        rw [if_pos rfl, hl, if_pos (by simp <;> omega), if_pos (by simp <;> omega), if_pos (by simp <;> omega), if_pos (by simp <;> omega)]
        simp only [at_snoc, h0]
        rw [W64_id (by omega) (by omega), if_pos (by simp at hla ⊢; omega)]
        simp
      · rw [show (x.f_At + x.f_N == y.f_At) = false by simpa using e, if_neg e, j1, if_pos (by simp at hla ⊢; omega)]
theorem refall_inner (p0 : List S_Run) (i : Nat) (hi : i < p0.length) (N : Nat) (hN : (F_Run.at_ p0 (i : Int)).f_N = N) (h0 : 0 ≤ (F_Run.at_ p0 (i : Int)).f_At) (h1 : (F_Run.at_ p0 (i : Int)).f_At + N ≤ 65536) (LOOP : List Int → Int → Option (List Int)) :
    ∀ (m j : Nat) (l : List Int), j + m = N → l.length + m ≤ 1000000000000 → ∀ k, m < k →
      scriniumref06_All.l2 p0 (i : Int) LOOP k l (j : Int) = LOOP (l ++ (List.range' j m).map fun (q : Nat) => (F_Run.at_ p0 (i : Int)).f_At + (q : Int)) (W64 ((i : Int) + 1))
  | 0, j, l, hj, hl, k, hk => by
    obtain ⟨k, rfl⟩ : ∃ n, k = n + 1 := ⟨k - 1, by omega⟩
    simp only [scriniumref06_All.l2]
    rw [if_pos (by omega), if_neg (by simp; omega)]
    simp
  | m + 1, j, l, hj, hl, k, hk => by
    obtain ⟨k, rfl⟩ : ∃ n, k = n + 1 := ⟨k - 1, by omega⟩
    simp only [scriniumref06_All.l2]
    rw [if_pos (by omega), if_pos (by simp; omega), if_pos (by omega), if_pos (by simp; omega)]
    rw [W64_id (x := (F_Run.at_ p0 (i : Int)).f_At + (j : Int)) (by omega) (by omega), W64_id (x := (j : Int) + 1) (by omega) (by omega)]
    have ih := refall_inner p0 i hi N hN h0 h1 LOOP m (j + 1) (l ++ [(F_Run.at_ p0 (i : Int)).f_At + (j : Int)]) (by omega) (by simp; omega) k (by omega)
    rw [show ((j : Int) + 1) = ((j + 1 : Nat) : Int) by push_cast; rfl, ih]
    simp [List.range'_succ]
theorem refall_loop (p0 : List S_Run) (hp : p0.length ≤ 4611686018427387904) : ∀ (post pre : List S_Run) (l : List Int), p0 = pre ++ post → OkR post → l.length + (allR post).length ≤ 1000000000000 →
    Ev (fun k => scriniumref06_All.l1 p0 k l (pre.length : Int)) (l ++ allR post)
  | [], pre, l, e, h, h1 => by
    subst e
    refine Ev.succ ?_
    simp only [scriniumref06_All.l1]
    exact Ev.ff (by simp) (by simpa [allR] using Ev.pure l)
  | x :: post, pre, l, e, h, h1 => by
    refine Ev.succ ?_
    simp only [scriniumref06_All.l1]
    have hx : F_Run.at_ p0 (pre.length : Int) = x := by rw [e]; exact at_app F_Run pre post x
    have hl : p0.length = pre.length + (post.length + 1) := by rw [e]; simp
    have hok := h x (by simp)
    unfold Ok1 at hok
    have hs : (allR (x :: post)).length = x.f_N.toNat + (allR post).length := by rw [allR_cons, List.length_append, adr_len]
    have ih := refall_loop p0 hp post (pre ++ [x]) (l ++ adr x) (by simp [e]) (fun y hy => h y (by simp [hy])) (by simp [adr_len]; omega)
    refine Ev.tt (by simp; omega) (Ev.of ⟨x.f_N.toNat + 1, fun k hk => ?_⟩ (h := fun k => scriniumref06_All.l1 p0 k (l ++ adr x) ((pre ++ [x]).length : Int)) ?_)
    · have := refall_inner p0 pre.length (by omega) x.f_N.toNat (by rw [hx]; omega) (by rw [hx]; omega) (by rw [hx]; omega) (scriniumref06_All.l1 p0 k) x.f_N.toNat 0 l (by omega) (by omega) k (by omega)
      rw [idx_next pre x (by omega), hx] at this
      simpa [adr, List.range_eq_range'] using this
    · rw [allR_cons, ← List.append_assoc]; exact ih
theorem refall_ev {p0 : List S_Run} (h : OkR p0) (hp : p0.length ≤ 4611686018427387904) (h1 : (allR p0).length ≤ 1000000000000) : Ev (fun k => scriniumref06_All.f k p0) (allR p0) := by
  have := refall_loop p0 hp p0 [] [] rfl h (by simpa using h1)
  simpa [scriniumref06_All.f] using this
theorem same_loop (l : List S_Run) (hl : l.length ≤ 4611686018427387904) : ∀ (m i : Nat), i + m = l.length → Ev (fun k => scriniumref06_Same.l1 l l k (i : Int)) true
  | 0, i, h => by
    refine Ev.succ ?_
    simp only [scriniumref06_Same.l1]
    exact Ev.ff (by simp <;> omega) (Ev.pure _)
  | m + 1, i, h => by
    refine Ev.succ ?_
    simp only [scriniumref06_Same.l1]
    have ih := same_loop l hl m (i + 1) (by omega)
    refine Ev.tt (by simp <;> omega) (Ev.pos (by omega) (Ev.pos (by omega) (Ev.ff (by simp) ?_)))
    rw [W64_id (by omega) (by omega)]
    simpa using ih
theorem same_ev (l : List S_Run) (hl : l.length ≤ 4611686018427387904) : Ev (fun k => scriniumref06_Same.f k l l) true := by
  unfold scriniumref06_Same.f
  exact Ev.ff (by simp) (same_loop l hl l.length 0 (by omega))
end Go.Proofs.Ytmpnlafggebaiaa
