/- Texts of the proof, put together: part 10. No condition. -/
import Derived.Test.YtlepjakmadlkjaaGreatDoorT9
set_option linter.unusedVariables false
set_option linter.unusedSimpArgs false
namespace Go.Proofs.YtlepjakmadlkjaaGreatDoor
open Go
def ex (v : Va) (s : Sh) : Bool := qM s.w v.W v.T v.t
def qR (v : Va) (s : Sh) : Nat := if ex v s = true then 1 + (s.left + 3) / 4 else 0
def zU (v : Va) (s : Sh) : Nat := if ex v s = true then (if s.st = 2 then 0 else 1) + (s.left + 3) / 4 else 0
def qS (v : Va) : Nat := (v.shs.map (qR v)).sum
def HU (v : Va) : Nat := (v.shs.map (zU v)).sum
theorem GG {α : Type} (f g : α → Nat) (h : ∀ x, f x ≤ g x) : ∀ l : List α, (l.map f).sum ≤ (l.map g).sum
 | [] => Nat.le_refl _
 | x :: l => by
   have := GG f g h l
   have := h x
   simp only [List.map_cons, List.sum_cons]
   omega
theorem HV (v : Va) : HU v ≤ qS v := by
 refine GG _ _ (fun s => ?_) _
 unfold zU qR
 split
 ·split <;> omega
 ·exact Nat.le_refl _
theorem Ci {α : Type} (f : α → Nat) : ∀ (l : List α) (i : Nat) (a b : α), l[i]? = some a → ((l.set i b).map f).sum + f a = (l.map f).sum + f b
 | [], i, a, b, h => by simp at h
 | x :: l, 0, a, b, h => by
   simp only [List.getElem?_cons_zero, Option.some.injEq] at h
   subst h
   simp only [List.set_cons_zero, List.map_cons, List.sum_cons]
   omega
 | x :: l, i + 1, a, b, h => by
   have := Ci f l i a b (by simpa using h)
   simp only [List.set_cons_succ, List.map_cons, List.sum_cons]
   omega
structure Comp (v v' : Va) : Prop where
 W : v'.W = v.W
 T : v'.T = v.T
 key : v'.key = v.key
 t : v'.t = v.t
 len : v'.shs.length = v.shs.length
 g : ∀ (i : Nat) s, v.shs[i]? = some s → ∃ s', v'.shs[i]? = some s' ∧ s'.w = s.w ∧ s'.recs = s.recs ∧ (ex v s = false → s' = s)
theorem Comp.refl (v : Va) : Comp v v := ⟨rfl, rfl, rfl, rfl, rfl, fun i s h => ⟨s, h, rfl, rfl, fun _ => rfl⟩⟩
theorem Comp.trans {a b c : Va} (h : Comp a b) (k : Comp b c) : Comp a c := by
 refine ⟨k.W.trans h.W, k.T.trans h.T, k.key.trans h.key, k.t.trans h.t, k.len.trans h.len, fun i s hs => ?_⟩
 obtain ⟨s1, h1, h2, h3, h4⟩ := h.g i s hs
 obtain ⟨s2, k1, k2, k3, k4⟩ := k.g i s1 h1
 refine ⟨s2, k1, k2.trans h2, k3.trans h3, fun hx => ?_⟩
 have : ex b s1 = false := by unfold ex at hx ⊢; rw [h2, h.W, h.T, h.t]; exact hx
 rw [k4 this, h4 hx]
theorem xT {v : Va} {N : Nat} (I : VI v N) :
 ((aF v).1.n = -1 ∧ (aF v).2 = v ∧ ∀ s ∈ v.shs, old v s = false) ∨ ((aF v).1.n ≠ -1 ∧ HU (aF v).2 + 1 = HU v ∧ Comp v (aF v).2) := by
 unfold aF
 cases hf : v.shs.findIdx? (old v) with
 | none =>
   left
   refine ⟨rfl, rfl, fun s hs => ?_⟩
   have := List.findIdx?_eq_none_iff.1 hf s hs
   simpa using this
 | some i =>
   right
   obtain ⟨_, h2⟩ := xR v.shs (some i) hf
   obtain ⟨hi, ho⟩ := h2 i rfl
   have hs : v.shs[i]? = some v.shs[i] := List.getElem?_eq_getElem hi
   obtain ⟨s, he⟩ : ∃ s, s = v.shs[i] := ⟨_, rfl⟩
   rw [← he] at ho hs
   dsimp only
   rw [hs]
   dsimp only
   have O := I.ok s (List.mem_of_getElem? hs)
   have hw := O.w0
   have hx : ex v s = true := by unfold old at ho; rw [Bool.and_eq_true] at ho; exact ho.1
   have hn0 : s.st ≠ 0 := fun h0 => by
    have a := O.op h0
    have b := vn (w := s.w) (W := v.W) (T := v.T) (t := v.t) I.T0 hx
    rw [a] at b; cases b
   have hsl : ¬ (s.st = 2 ∧ s.left = 0) := fun ⟨a, b⟩ => by
    unfold old at ho; rw [a, b] at ho; simp at ho
   obtain ⟨g1, g2, g3⟩ := ou s v.key v.t O.le
   refine ⟨by omega, ?_, ⟨rfl, rfl, rfl, rfl, by show (v.shs.set i _).length = _; rw [List.length_set], fun j u hj => ?_⟩⟩
   ·have e := Ci (zU v) v.shs i s (s.give v.key v.t) hs
    have hc : zU v (s.give v.key v.t) + 1 = zU v s := by
     have hx' : ex v (s.give v.key v.t) = true := by unfold ex at hx ⊢; rw [g3]; exact hx
     unfold zU
     rw [if_pos hx, if_pos hx']
     unfold Sh.give
     rcases O.st with c | c | c
     ·exact absurd c hn0
     ·rw [if_pos c, if_neg (show ¬ s.st = 2 by omega)]
      show (if (2 : Int) = 2 then 0 else 1) + (s.left + 3) / 4 + 1 = _
      rw [if_pos rfl]
      omega
     ·rw [if_neg (show ¬ s.st = 1 by omega), if_pos c, if_pos c]; dsimp only; try rw [if_pos c]
      show 0 + (s.left - min 4 s.left + 3) / 4 + 1 = 0 + (s.left + 3) / 4
      have : s.left ≠ 0 := fun h => hsl ⟨c, h⟩
      omega
    show ((v.shs.set i (s.give v.key v.t)).map (zU v)).sum + 1 = (v.shs.map (zU v)).sum
    omega
   ·by_cases c : i = j
    ·subst c
     rw [hs] at hj; cases hj
     refine ⟨_, by show (v.shs.set i _)[i]? = _; rw [List.getElem?_set, if_pos rfl, if_pos hi], g3, g2, fun h => ?_⟩
     rw [hx] at h; cases h
    ·exact ⟨u, by show (v.shs.set i _)[j]? = _; rw [List.getElem?_set, if_neg c]; exact hj, rfl, rfl, fun _ => rfl⟩
theorem zW (v : Va) : (aF v).1.err = 0 := by
 unfold aF
 repeat' split
 all_goals rfl
theorem HW {v : Va} {N : Nat} (I : VI v N) {s : Sh} (hs : s ∈ v.shs) (h : old v s = false) (hx : ex v s = true) : s.st = 2 ∧ s.left = 0 := by
 unfold old at h
 unfold ex at hx
 rw [hx] at h
 simpa using h
end Go.Proofs.YtlepjakmadlkjaaGreatDoor
namespace Go.Proofs.YtlepjakmadlkjaaGreatDoor
open Go
def vJ : Prop := ∀ (z0 : Ty.den (.arr 2 (.int .i64))) (z1 : Ty.den (.sl 31 (.pair (.pair (.int .i64) (.pair (.int .i64) (.pair (.int .i64) (.pair (.int .i64) .str)))) (.pair (.int .i64) .bool)))), wfT (.arr 2 (.int .i64)) z0 → wfT (.sl 31 (.pair (.pair (.int .i64) (.pair (.int .i64) (.pair (.int .i64) (.pair (.int .i64) .str)))) (.pair (.int .i64) .bool))) z1 → ∃ k, jc k (z0, z1, aj) = some true
theorem vK : vJ := by
 intro z0 z1 _ _
 refine ⟨1000, ?_⟩
 obtain ⟨v, xs, lv, n, pk, h, I, R, L⟩ := HQ z0 z1
 have K := R.kids
 have few : v.shs.length ≤ 14 := I.few
 have kl := K.len
 have ex_ok : ∀ s ∈ v.shs, dG 1000 (s.w, v.W, v.T, v.t) = some (ex v s) := fun s hs => zT (I.ok s hs).w0 (wP I (I.ok s hs)) I.W0 I.W1 I.T0 I.T1 I.t0 I.t1
 have small : ∀ s ∈ v.shs, s.left ≤ 30 := fun s hs => Nat.le_trans (I.ok s hs).le (I.sz s hs)
 have st9 : ∀ s ∈ v.shs, qR v s ≤ 9 := fun s hs => by
  have := small s hs
  unfold qR
  split <;> omega
 have tk9 : ∀ i, i ≤ v.shs.length → ((v.shs.take i).map (qR v)).sum ≤ 9 * i := by
  intro i
  induction i with
  | zero => intro _; simp
  | succ i ih =>
    intro hi
    have := ih (by omega)
    have h9 := st9 v.shs[i] (List.getElem_mem (by omega))
    rw [List.take_add_one, List.getElem?_eq_getElem (by omega), List.map_append, List.sum_append]
    simp only [Option.toList_some, List.map_cons, List.map_nil, List.sum_cons, List.sum_nil]
    omega
 unfold jc
 refine ak GE (ak h ?_)
 rw [au]
 refine ak (wR I (by decide) K ..) ?_
 refine dH (fun dd h => ∃ i : Nat, h = ((((v.shs.take i).map (qR v)).sum : Int), (i : Int)) ∧ i + dd = xs.length) (fun e => e = (qS v : Int)) xs.length (by omega) ⟨0, rfl, by omega⟩ (fun dd h hh => ?_) (fun e he => ?_)
 ·obtain ⟨i, rfl, hi⟩ := hh
  by_cases c1 : i < xs.length
  ·have c2 : (i : Int) < af xs := by unfold af; omega
   have c3 : inR (i : Int) (af xs) := ⟨by omega, c2⟩
   obtain ⟨s, pk2, h1, h2, h3, h4⟩ := K.nth c1
   have hm := List.mem_of_getElem? h1
   have sm := small s hm
   have le := (I.ok s hm).le
   have t9 := tk9 i (by omega)
   have e1 : ((v.shs.take (i + 1)).map (qR v)).sum = ((v.shs.take i).map (qR v)).sum + qR v s := by
    rw [List.take_add_one, h1, List.map_append, List.sum_append]
    simp
   refine .yes (bE c2) (.grd c3 (.grd c3 (.grd c3 ?_)))
   dsimp only
   rw [h2]
   refine .go (ex_ok s hm) ?_
   by_cases hx : ex v s = true
   ·refine .yes hx (.grd c3 (.grd c3 (.grd c3 (.grd (show (4 : Int) ≠ 0 by decide) ?_))))
    have ll : af (s.kid pk2).2.2.2.2.2.2.2.2.1 = (s.left : Int) := by
     show af (s.recs.take s.left) = _
     unfold af
     rw [List.length_take]
     omega
    have ht : Int.tdiv ((s.left : Int) + 3) 4 = (((s.left + 3) / 4 : Nat) : Int) := by
     rw [Int.tdiv_eq_ediv_of_nonneg (by omega)]
     omega
    rw [ll, aA (x := (s.left : Int) + 3) (by omega) (by omega), ht, aA (x := (((s.left + 3) / 4 : Nat) : Int)) (by omega) (by omega), aA (x := (((v.shs.take i).map (qR v)).sum : Int) + 1) (by omega) (by omega), aA (x := (((v.shs.take i).map (qR v)).sum : Int) + 1 + (((s.left + 3) / 4 : Nat) : Int)) (by omega) (by omega), aA (by omega) (by omega)]
    refine .on (dd - 1) (by omega) ⟨i + 1, ?_, by omega⟩
    rw [e1]
    unfold qR
    rw [if_pos hx]
    congr 1
    omega
   ·refine .no (by simpa using hx) ?_
    rw [aA (by omega) (by omega)]
    refine .on (dd - 1) (by omega) ⟨i + 1, ?_, by omega⟩
    rw [e1]
    unfold qR
    rw [if_neg hx]
    rfl
  ·refine .no (aZ (show af xs ≤ (i : Int) by unfold af; omega)) (.out ?_)
   show ((((v.shs.take i).map (qR v)).sum : Nat) : Int) = _
   rw [List.take_of_length_le (by omega)]
   rfl
 subst he
 have hst : qS v ≤ 9 * v.shs.length := by
  have := tk9 v.shs.length (Nat.le_refl _)
  rw [List.take_length] at this
  exact this
 have hn6 : ¬ (6 : Int) = 1 := by decide
 refine dH (fun dd h => ∃ (i : Nat) (v' : Va) (xs' : List KT) (lv' : List Vh) (n' : Int) (pk' : List Vh), h = ((i : Int), (i : Int), v'.W, v'.T, mkB v'.key, v'.t, n', xs', v'.log, lv', pk') ∧ VI v' 30 ∧ PR v' xs' lv' n' pk' ∧ Comp v v' ∧ HU v' + i ≤ qS v ∧ i + dd = qS v + 1)
  (fun e => ∃ (i : Nat) (v' : Va) (xs' : List KT) (lv' : List Vh) (n' : Int) (pk' : List Vh), e = .inr ((i : Int), v'.W, v'.T, mkB v'.key, v'.t, n', xs', v'.log, lv', pk') ∧ VI v' 30 ∧ PR v' xs' lv' n' pk' ∧ Comp v v' ∧ i ≤ qS v ∧ (aF v').1.n = -1 ∧ (aF v').2 = v' ∧ ∀ s ∈ v'.shs, old v' s = false)
  (qS v + 1) (by omega) ⟨0, v, xs, lv, n, pk, rfl, I, R, .refl v, HV v, by omega⟩ (fun dd h hh => ?_) (fun e he => ?_)
 ·obtain ⟨i, v', xs', lv', n', pk', rfl, I', R', C, T', hi⟩ := hh
  refine .yes (iR (show (i : Int) ≤ (qS v : Int) by omega)) ?_
  obtain ⟨x4, l4, n4, p4, q1, R4⟩ := Le I' (by decide) R' ⟨6, 0, 0, 0, aI⟩ (fun h => absurd h hn6)
  rw [show vdo v' ⟨6, 0, 0, 0, aI⟩ = aF v' from rfl] at q1 R4
  refine .go q1 (.no (cU (zW v')) ?_)
  rcases xT I' with ⟨c1, c2, c3⟩ | ⟨c1, c2, c3⟩
  ·refine .yes (cH c1) (.out ⟨i, (aF v').2, x4, l4, n4, p4, rfl, ?_, R4, ?_, by omega, ?_⟩)
   ·rw [c2]; exact I'
   ·rw [c2]; exact C
   ·rw [c2]; exact ⟨c1, c2, c3⟩
  ·refine .no (cG c1) ?_
   rw [aA (by first | omega | (dsimp only; omega)) (by first | omega | (dsimp only; omega))]
   exact .on (dd - 1) (by omega) ⟨i + 1, (aF v').2, x4, l4, n4, p4, rfl, vo I', R4, C.trans c3, by omega, by omega⟩
 obtain ⟨i, v', xs', lv', n', pk', rfl, I', R', C, hi, c1, c2, c3⟩ := he
 rw [au]
 obtain ⟨x4, l4, n4, p4, q1, R4⟩ := Le I' (by decide) R' ⟨6, 0, 0, 0, aI⟩ (fun h => absurd h hn6)
 rw [show vdo v' ⟨6, 0, 0, 0, aI⟩ = ((aF v').1, v') from (congrArg (Prod.mk (aF v').1) c2)] at q1 R4
 have K4 := R4.kids
 have kl4 := K4.len
 refine ak q1 (ak (wR I' (by decide) K4 ..) ?_)
 refine ((congrArg (ai · _ _) (iS (show (i : Int) ≤ (qS v : Int) by omega))).trans (aa _ _)).trans ?_
 refine ((congrArg (ai · _ _) (cU c1)).trans (aa _ _)).trans ?_
 have hlen : x4.length = xs.length := by rw [kl4, kl, C.len]
 refine ((congrArg (ai · _ _) (cU (show af x4 = af xs by unfold af; omega))).trans (aa _ _)).trans ?_
 refine dH (fun dd h => ∃ i : Nat, h = (i : Int) ∧ i + dd = xs.length) (fun e => e = .inr ()) xs.length (by omega) ⟨0, rfl, by omega⟩ (fun dd h hh => ?_) (fun e he => by subst he; rfl)
 obtain ⟨j, rfl, hj⟩ := hh
 by_cases d1 : j < xs.length
 ·have d2 : (j : Int) < af xs := by unfold af; omega
  have d3 : inR (j : Int) (af xs) := ⟨by omega, d2⟩
  have d4 : inR (j : Int) (af x4) := ⟨by omega, by unfold af; omega⟩
  obtain ⟨s, pk2, h1, h2, h3, h4⟩ := K.nth d1
  obtain ⟨s', pk3, g1, g2, g3, g4⟩ := K4.nth (i := j) (by omega)
  obtain ⟨s2, k1, k2, k3, k4⟩ := C.g j s h1
  rw [g1] at k1
  cases k1
  have hm := List.mem_of_getElem? h1
  have hm' := List.mem_of_getElem? g1
  refine .yes (bE d4.2) (.grd d3 (.grd d3 (.grd d3 ?_)))
  rw [h2, g2]
  have hE := ex_ok s hm
  rw [← C.W, ← C.T, ← C.t] at hE
  refine .go hE ?_
  by_cases hx : ex v s = true
  ·have hx' : ex v' s' = true := by unfold ex at hx ⊢; rw [k2, C.W, C.T, C.t]; exact hx
   obtain ⟨o1, o2⟩ := HW I' hm' (c3 s' hm') hx'
   rw [hx]
   have l0 : af (s'.kid pk3).2.2.2.2.2.2.2.2.1 = 0 := by
    show af (s'.recs.take s'.left) = _
    rw [o2]; rfl
   have l1 : af (s'.kid pk3).2.2.2.2.2.2.2.1 = af (s.kid pk2).2.2.2.2.2.2.2.1 := by
    show af s'.lv = af s.lv
    unfold af
    rw [dh, dh, k3]
   refine .go (s := .inr ()) ?_ ?_
   ·rw [ag, ac d4, ac d4, ac d4, cU (show (s'.kid pk3).2.1 = 2 from o1), aa, ac d4, ac d4, ac d4, l0, cU rfl, aa, ac d4, ac d4, ac d3, ac d3, ac d4, ac d3, l1, cU rfl, aa]
   ·rw [au]
    refine .no rfl ?_
    rw [aA (by omega) (by omega)]
    exact .on (dd - 1) (by omega) ⟨j + 1, rfl, by omega⟩
  ·have hx' : ex v s = false := by simpa using hx
   have hs := k4 hx'
   rw [hx']
   refine .go (s := .inr ()) (aa _ _) ?_
   rw [au]
   refine .yes rfl (.grd d4 (.grd d4 (.grd d3 (.grd d3 (.grd d4 (.grd d3 ?_))))))
   refine .no (cU (show s'.st = s.st by rw [hs])) (.grd d4 (.grd d4 (.grd d3 (.grd d3 (.grd d4 (.grd d3 ?_))))))
   refine .no (cU (show af (s'.recs.take s'.left) = af (s.recs.take s.left) by rw [hs])) ?_
   rw [aA (by omega) (by omega)]
   exact .on (dd - 1) (by omega) ⟨j + 1, rfl, by omega⟩
 ·exact .no (aZ (show af x4 ≤ (j : Int) by unfold af; omega)) (.out rfl)
end Go.Proofs.YtlepjakmadlkjaaGreatDoor
