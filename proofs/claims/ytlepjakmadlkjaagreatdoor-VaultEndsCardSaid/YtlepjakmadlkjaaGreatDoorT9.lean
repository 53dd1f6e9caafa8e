/- Texts of the proof, put together: part 9. No condition. -/
import Derived.Test.YtlepjakmadlkjaaGreatDoorT8
set_option linter.unusedVariables false
set_option linter.unusedSimpArgs false
namespace Go.Proofs.YtlepjakmadlkjaaGreatDoor
open Go
def ab : List Vh → List Vh
 | a :: b :: r => sX a b :: ab r
 | [x] => [x]
 | [] => []
theorem mj : ∀ l : List Vh, (ab l).length = (l.length + 1) / 2
 | [] => by simp [ab]
 | [_] => by simp [ab]
 | a :: b :: r => by simp only [ab, List.length_cons, mj r]; omega
theorem Gd : ∀ (l : List Vh) (i : Nat) (h : 2 * i + 1 < l.length), (ab l)[i]'(by rw [mj]; omega) = sX l[2 * i] l[2 * i + 1]
 | [], i, h => by simp at h
 | [_], i, h => by simp at h
 | a :: b :: r, 0, h => rfl
 | a :: b :: r, i + 1, h => by
   have := Gd r i (by simp at h; omega)
   simpa [ab, Nat.mul_add] using this
theorem B7 : ∀ (l : List Vh) (h : l.length % 2 = 1), ab l = (ab l).take (l.length / 2) ++ [l[l.length - 1]'(by omega)]
 | [], h => by simp at h
 | [x], h => by simp [ab]
 | a :: b :: r, h => by
   have hr : r.length % 2 = 1 := by simp at h; omega
   have := B7 r hr
   have e : (a :: b :: r).length / 2 = r.length / 2 + 1 := by simp; omega
   rw [e]
   simp only [ab, List.take_succ_cons, List.cons_append, List.cons.injEq, true_and]
   rw [this]
   congr 1
   ·rw [List.take_append_of_le_length (by rw [List.length_take, mj]; omega), List.take_take, Nat.min_self]
   ·have h1 : (a :: b :: r).length - 1 = (r.length - 1) + 1 + 1 := by simp; omega
    simp only [h1, List.getElem_cons_succ]
theorem Ge : ∀ (l r : List Vh), l.length % 2 = 0 → ab (l ++ r) = ab l ++ ab r
 | [], r, _ => rfl
 | [_], r, h => by simp at h
 | a :: b :: l, r, h => by
   simp only [ab, List.cons_append]
   rw [Ge l r (by simp at h; omega)]
theorem Lc : ∀ (d : Nat) (l : List Vh), 2 ≤ l.length → l.length ≤ 2 ^ (d + 1) → rt (d + 1) l = rt d (ab l) := by
 intro d
 induction d with
 | zero =>
   intro l h1 h2
   match l, h1, h2 with
   | [a, b], _, _ => rfl
   | a :: b :: c :: r, _, h2 => simp at h2 <;> omega
 | succ d ih =>
   intro l h1 h2
   by_cases h3 : l.length = 2
   ·match l, h3 with
    | [a, b], _ =>
      have e2 : sp [a, b].length = 1 := rfl
      rw [rP (by simp), dg (l := ab [a, b]) (by simp [ab]), e2, dg (l := [a, b].take 1) (by simp), dg (l := [a, b].drop 1) (by simp)]
      rfl
   ·obtain ⟨a1, a2, a3⟩ := jq (n := l.length) h1
    have a4 := B1 (n := l.length) (d := d + 1) h1 h2
    obtain ⟨j, hj⟩ : ∃ j, sp l.length = 2 ^ j := ⟨_, rfl⟩
    have hj0 : j ≠ 0 := by
     rintro rfl
     rw [Nat.pow_zero] at hj
     omega
    obtain ⟨j, rfl⟩ : ∃ i, j = i + 1 := ⟨j - 1, by omega⟩
    rw [Nat.pow_succ] at hj
    have hpd : 2 ^ (d + 1) = 2 * 2 ^ d := by rw [Nat.pow_succ, Nat.mul_comm]
    have hs : sp ((ab l).length) = 2 ^ j := by
     rw [mj]
     apply wF
     ·omega
     ·rw [Nat.pow_succ]; omega
    have hl : (ab l).length = (l.length + 1) / 2 := mj l
    have e : ab l = ab (l.take (2 ^ j * 2)) ++ ab (l.drop (2 ^ j * 2)) := by
     rw [← Ge _ _ (by rw [List.length_take]; omega), List.take_append_drop]
    have et : (ab l).take (2 ^ j) = ab (l.take (2 ^ j * 2)) := by
     rw [e, List.take_left']
     rw [mj, List.length_take]; omega
    have ed : (ab l).drop (2 ^ j) = ab (l.drop (2 ^ j * 2)) := by
     rw [e, List.drop_left']
     rw [mj, List.length_take]; omega
    rw [rP h1, rP (l := ab l) (d := d) (by omega), hs, hj, et, ed]
    congr 1
    ·exact ih _ (by rw [List.length_take]; omega) (by rw [List.length_take]; omega)
    ·by_cases h5 : (l.drop (2 ^ j * 2)).length = 1
     ·obtain ⟨x, hx⟩ := List.length_eq_one_iff.1 h5
      rw [hx, dg (by simp), dg (by simp [ab])]
      rfl
     ·rw [List.length_drop] at h5
      exact ih _ (by rw [List.length_drop]; omega) (by rw [List.length_drop]; omega)
theorem Gf (l : List Vh) (hl : l.length ≤ 900) : lT 1000 (l, aj) = some (ab l) := by
 have h0 := mj l
 unfold lT
 dsimp only
 refine (ac (by decide)).trans ?_
 have ed : WK .i64 (Int.tdiv (af l) 2) = ((l.length / 2 : Nat) : Int) := by
  show WK .i64 ((l.length / 2 : Nat) : Int) = _
  exact vc (by omega)
 rw [ed]
 refine ak (fq (fun i : Nat => ((i : Int), (ab l).take i)) (l.length / 2) ((ab l).take (l.length / 2)) 1000 (fun i hi => ?_) ?_ (by omega)) ?_
 ·dsimp only
  refine (congrArg (ai · _ _) (bE (by omega))).trans ((ag _ _).trans ?_)
  have e1 : WK .i64 (2 * (i : Int)) = ((2 * i : Nat) : Int) := by rw [aA (by omega) (by omega)]; omega
  have e2 : WK .i64 (((2 * i : Nat) : Int) + 1) = ((2 * i + 1 : Nat) : Int) := by rw [aA (by omega) (by omega)]; omega
  have e3 : at_ T1 l ((2 * i : Nat) : Int) = l[2 * i] := cD (t := T1) (by omega)
  have e4 : at_ T1 l ((2 * i + 1 : Nat) : Int) = l[2 * i + 1] := cD (t := T1) (by omega)
  rw [e1, e2, e3, e4]
  refine (ac ⟨by omega, by unfold af; omega⟩).trans ((ac ⟨by omega, by unfold af; omega⟩).trans ?_)
  refine (ac (rN _)).trans ((ac (rO _ _)).trans (ak (vg _ _) ?_))
  refine (ac (show bu _ _ _ from by unfold bu; simp; omega)).trans ?_
  rw [aA (x := (i : Int) + 1) (by omega) (by omega), List.take_add_one, List.getElem?_eq_getElem (by omega), Gd l i (by omega)]
  rfl
 ·dsimp only
  exact (congrArg (ai · _ _) (aZ (by omega))).trans (aa _ _)
 ·have key : (ae ((nz 2)) (ai (ieq (Int.tmod (af l) 2) 1) (ae ((inR (WK .i64 ((af l) - 1)) (af l))) (ae ((bu ((ab l).take (l.length / 2)) ([(at_ T1 l (WK .i64 ((af l) - 1)))] : List Vh) 32)) (some ((((ab l).take (l.length / 2)) ++ ([(at_ T1 l (WK .i64 ((af l) - 1)))] : List Vh)))))) (some ((ab l).take (l.length / 2)))) : Option (List Vh)) = some (ab l) := by
   refine (ac (by decide)).trans ?_
   have em : Int.tmod (af l) 2 = ((l.length % 2 : Nat) : Int) := rfl
   rw [em]
   by_cases h1 : l.length % 2 = 1
   ·refine (congrArg (ai · _ _) (cH (by omega))).trans ((ag _ _).trans ?_)
    have e1 : WK .i64 (af l - 1) = ((l.length - 1 : Nat) : Int) := by rw [aA (by unfold af; omega) (by unfold af; omega)]; unfold af; omega
    have e2 : at_ T1 l ((l.length - 1 : Nat) : Int) = l[l.length - 1] := cD (t := T1) (by omega)
    rw [e1, e2]
    refine (ac ⟨by omega, by unfold af; omega⟩).trans ((ac (show bu _ _ _ from by unfold bu; simp; omega)).trans ?_)
    exact congrArg some (B7 l h1).symm
   ·refine (congrArg (ai · _ _) (cG (by omega))).trans ((aa _ _).trans ?_)
    rw [List.take_of_length_le (by omega)]
  exact ak key rfl
theorem Gg (l : List Vh) (h : l.length ≤ 900) : du 1000 l = some l := by
 have hb : l.length * 32 ≤ 140737488355328 := by omega
 exact ac hb
theorem HK {d : Nat} (l : List Vh) (h : l.length ≤ 2 ^ d) (hd : d ≤ 9) : io 1000 (l, aj) = some (rt d l) := by
 have hb : l.length ≤ 512 := Nat.le_trans h (Nat.le_trans (Nat.pow_le_pow_right (by omega) hd) (by decide))
 unfold io
 dsimp only
 by_cases h0 : l.length = 0
 ·have : l = [] := List.eq_nil_of_length_eq_zero h0
  subst this
  refine (congrArg (ai · _ _) (cH (by simp))).trans ((ag _ _).trans ?_)
  refine ak (pA [] (by simp) (by simp)) ?_
  rw [dg (by simp)]; rfl
 ·refine (congrArg (ai · _ _) (cG (by unfold af; omega))).trans ((aa _ _).trans ?_)
  have hL : ∃ r, kv 1000 (l, aj) = some r ∧ ∃ o, r = o ++ [[rt d l]] ∧ o.length ≤ 30 := by
   unfold kv
   dsimp only
   rw [Gg l (by omega), Option.bind_some]
   refine mh (fun e h => ∃ (row : List Vh) (o : List (List Vh)), h = (row, o ++ [row]) ∧ row.length ≤ 2 ^ e ∧ row ≠ [] ∧ rt e row = rt d l ∧ o.length + e ≤ d ∧ row.length ≤ 900) (fun e => ∃ o, e = o ++ [[rt d l]] ∧ o.length ≤ 30) d (by omega) ⟨l, [], rfl, h, by intro e; subst e; exact h0 rfl, rfl, by simp, by omega⟩ ?_ (fun e he => ⟨e, rfl, he⟩)
   rintro e _ ⟨row, o, rfl, r1, r2, r3, r4, r5⟩
   dsimp only
   by_cases a : row.length < 2
   ·refine (congrArg (fun b => Goes _ _ _ (ai b _ _)) (bE (a := af row) (b := 2) (by unfold af; omega))).mpr ?_
    rw [ag]
    refine .out ⟨o, ?_, by omega⟩
    have h1 : row.length = 1 := by
     have : row.length ≠ 0 := fun e => r2 (List.eq_nil_of_length_eq_zero e)
     omega
    obtain ⟨x, rfl⟩ := List.length_eq_one_iff.1 h1
    rw [dg (by simp)] at r3
    rw [← r3]; rfl
   ·refine (congrArg (fun b => Goes _ _ _ (ai b _ _)) (aZ (a := af row) (b := 2) (by unfold af; omega))).mpr ?_
    obtain ⟨e, rfl⟩ := ve (n := row.length) (by omega) r1
    have hal := mj row
    rw [aa, Gf row r5, Option.bind_some, ac (show bu _ _ _ from by unfold bu; simp; omega)]
    have hpd : 2 ^ (e + 1) = 2 * 2 ^ e := by rw [Nat.pow_succ, Nat.mul_comm]
    exact .on e (by omega) ⟨ab row, o ++ [row], by simp, by omega, by intro h; rw [h] at hal; simp at hal; omega, by rw [← Lc e row (by omega) r1]; exact r3, by simp; omega, by omega⟩
  obtain ⟨_, hL, o, rfl, ho⟩ := hL
  refine ak hL ?_
  have e1 : WK .i64 (af (o ++ [[rt d l]]) - 1) = ((o.length : Nat) : Int) := by
   rw [show af (o ++ [[rt d l]]) = (o.length : Int) + 1 by unfold af; simp]
   rw [aA (by omega) (by omega)]; omega
  have e2 : at_ T9 (o ++ [[rt d l]]) ((o.length : Nat) : Int) = [rt d l] := by
   rw [cD (t := T9) (by simp)]; simp
  have e3 : af (o ++ [[rt d l]]) = (o.length : Int) + 1 := by unfold af; simp
  rw [e1, e2, e3]
  exact (ac ⟨by omega, by omega⟩).trans ((ac ⟨by decide, by show (0 : Int) < 1; decide⟩).trans rfl)
end Go.Proofs.YtlepjakmadlkjaaGreatDoor
namespace Go.Proofs.YtlepjakmadlkjaaGreatDoor
open Go
theorem Ba (l : List Vh) (hl : l.length ≤ 900) : gV 1000 l = some l.reverse := by
 unfold gV
 refine dH (fun d h => ∃ (t : Nat) (L : List Vh), h = ((t : Int), (l.length : Int) - 1 - (t : Int), L) ∧ d = l.length - t ∧ t ≤ l.length ∧ L.length = l.length ∧ ∀ j, j < l.length → L[j]? = if j < t ∨ l.length - t ≤ j then l[l.length - 1 - j]? else l[j]?) (fun e => e = l.reverse) l.length (by omega)
  ⟨0, l, by rw [aA (by unfold af; omega) (by unfold af; omega)]; unfold af; simp, by omega, by omega, rfl, fun j hj => by rw [if_neg (by omega)]⟩ ?_ (fun e he => by rw [he])
 rintro d _ ⟨t, L, rfl, hd, ht, hL, hj⟩
 dsimp only
 by_cases a : (t : Int) < (l.length : Int) - 1 - (t : Int)
 ·have e0 : (l.length : Int) - 1 - (t : Int) = ((l.length - 1 - t : Nat) : Int) := by omega
  rw [bE a, ag, e0]
  rw [ac ⟨by omega, by unfold af; omega⟩, ac ⟨by omega, by unfold af; omega⟩, ac ⟨by omega, by unfold af; omega⟩, ac ⟨by omega, by unfold af; rw [List.length_set]; omega⟩]
  have e1 : WK .i64 ((t : Int) + 1) = ((t + 1 : Nat) : Int) := by rw [aA (by omega) (by omega)]; omega
  have e2 : WK .i64 (((l.length - 1 - t : Nat) : Int) - 1) = (l.length : Int) - 1 - ((t + 1 : Nat) : Int) := by rw [aA (by omega) (by omega)]; omega
  have e3 : at_ T1 L ((l.length - 1 - t : Nat) : Int) = L[l.length - 1 - t] := cD (t := T1) (by omega)
  have e4 : at_ T1 L (t : Int) = L[t] := cD (t := T1) (by omega)
  rw [e1, e2, e3, e4]
  unfold bz
  rw [Int.toNat_natCast, Int.toNat_natCast]
  refine .on (l.length - (t + 1)) (by omega) ⟨t + 1, _, rfl, rfl, by omega, by simp [hL], fun j hjl => ?_⟩
  have g1 := hj t (by omega)
  have g2 := hj (l.length - 1 - t) (by omega)
  rw [if_neg (by omega), List.getElem?_eq_getElem (by omega)] at g1 g2
  rw [List.getElem?_set, List.getElem?_set]
  simp only [List.length_set]
  by_cases b1 : l.length - 1 - t = j
  ·rw [if_pos b1, if_pos (by omega), if_pos (by omega), g1]
   congr 1; omega
  ·rw [if_neg b1]
   by_cases b2 : t = j
   ·rw [if_pos b2, if_pos (by omega), if_pos (by omega), g2]
    congr 1; omega
   ·rw [if_neg b2, hj j hjl]
    by_cases b3 : j < t ∨ l.length - t ≤ j
    ·rw [if_pos b3, if_pos (by omega)]
    ·rw [if_neg b3, if_neg (by omega)]
 ·rw [aZ (by omega), aa]
  refine .out ?_
  apply List.ext_getElem?
  intro j
  by_cases b : j < l.length
  ·rw [hj j b, List.getElem?_reverse b]
   split
   ·rfl
   ·congr 1; omega
  ·rw [List.getElem?_eq_none (by omega), List.getElem?_eq_none (by simp; omega)]
theorem Bb (l : List Vh) (h : l.length ≤ 512) : io 1000 (l, aj) = some (rt 40 l) := by
 rw [HK (d := 9) l (by simpa using h) (by omega), mi 9 l (by simpa using h) 40 (by omega)]
def pth (w : Bool) : Nat → Nat → List Vh → List Vh
 | 0, _, _ => []
 | d + 1, m, l => if l.length < 2 ∨ (w = true ∧ m = l.length) then [] else
   if m < sp l.length ∨ (w = true ∧ m = sp l.length) then pth w d m (l.take (sp l.length)) ++ [rt 40 (l.drop (sp l.length))] else pth w d (m - sp l.length) (l.drop (sp l.length)) ++ [rt 40 (l.take (sp l.length))]
theorem HM {w : Bool} {m : Nat} {l : List Vh} (h : l.length < 2 ∨ (w = true ∧ m = l.length)) (d : Nat) : pth w d m l = [] := by
 cases d with
 | zero => rfl
 | succ d => rw [pth, if_pos h]
theorem zK {w : Bool} {d m : Nat} {l : List Vh} (a : ¬ (l.length < 2 ∨ (w = true ∧ m = l.length))) (b : m < sp l.length ∨ (w = true ∧ m = sp l.length)) : pth w (d + 1) m l = pth w d m (l.take (sp l.length)) ++ [rt 40 (l.drop (sp l.length))] := by
 rw [pth, if_neg a, if_pos b]
theorem wJ {w : Bool} {d m : Nat} {l : List Vh} (a : ¬ (l.length < 2 ∨ (w = true ∧ m = l.length))) (b : ¬ (m < sp l.length ∨ (w = true ∧ m = sp l.length))) : pth w (d + 1) m l = pth w d (m - sp l.length) (l.drop (sp l.length)) ++ [rt 40 (l.take (sp l.length))] := by
 rw [pth, if_neg a, if_neg b]
theorem qL (w : Bool) : ∀ d m (l : List Vh), (pth w d m l).length = (stp w d m l.length).length
 | 0, _, _ => rfl
 | d + 1, m, l => by
   by_cases a : l.length < 2 ∨ (w = true ∧ m = l.length)
   ·rw [HM a, tp a]; rfl
   ·by_cases b : m < sp l.length ∨ (w = true ∧ m = sp l.length)
    ·rw [zK a b, qK a b, List.length_append, qL w d, zA l (by omega)]; rfl
    ·rw [wJ a b, om a b, List.length_append, qL w d, List.length_drop]; rfl
theorem wK (w : Bool) (m : Nat) (l : List Vh) (hl : l.length ≤ 512) : iQ 1000 (l, (stp w 40 m l.length).map sY, aj) = some (pth w 40 m l) := by
 obtain ⟨S, hS⟩ : ∃ S, S = (stp w 40 m l.length).map sY := ⟨_, rfl⟩
 have hSl : S.length ≤ 40 := by rw [hS, List.length_map]; exact qJ ..
 have hP := qL w 40 m l
 have hP2 : (pth w 40 m l).length ≤ 40 := by rw [hP]; exact qJ ..
 obtain ⟨R, hR⟩ : ∃ R, R = pth w 40 m l := ⟨_, rfl⟩
 rw [← hR] at hP2
 rw [← hS, ← hR]
 unfold iQ
 dsimp only
 refine dH (fun e h => ∃ (i d m' : Nat) (l' out : List Vh), h = ((i : Int), l', out) ∧ i + e = S.length ∧ S.drop i = (stp w d m' l'.length).map sY ∧ l'.length ≤ 512 ∧ out ++ (pth w d m' l').reverse = R.reverse) (fun e => e = R.reverse) S.length (by omega) ⟨0, 40, m, l, [], rfl, by omega, by simp [hS], hl, by simp [hR]⟩ ?_ ?_
 ·clear hP hS hR
  rintro e _ ⟨i, d, m', l', out, rfl, hi, hd, hl', ho⟩
  dsimp only
  by_cases a : i < S.length
  ·have hne : stp w d m' l'.length ≠ [] := by
    intro h
    rw [h, List.map_nil] at hd
    have := congrArg List.length hd
    rw [List.length_drop] at this
    simp at this; omega
   have h1 : ¬ (l'.length < 2 ∨ (w = true ∧ m' = l'.length)) := fun h => hne (tp h d)
   obtain ⟨d, rfl⟩ : ∃ d', d = d' + 1 := by
    cases d with
    | zero => exact absurd rfl hne
    | succ d => exact ⟨d, rfl⟩
   have h2 : 2 ≤ l'.length := by omega
   obtain ⟨s1, s2, s3⟩ := jq h2
   have hdr : S.drop i = S[i] :: S.drop (i + 1) := List.drop_eq_getElem_cons a
   have hat : at_ T8 S (i : Int) = S[i] := cD (t := T8) a
   have hlen : (pth w (d + 1) m' l').length + out.length ≤ 40 := by
    have := congrArg List.length ho
    simp at this; omega
   rw [bE (show (i : Int) < af S by unfold af; omega), ag, ac ⟨by omega, by unfold af; omega⟩, hat]
   have ei : WK .i64 ((i : Int) + 1) = ((i + 1 : Nat) : Int) := aA (by omega) (by omega)
   have ap : ∀ x : Vh, bu out [x] 32 := fun x => by unfold bu; simp; omega
   by_cases b : m' < sp l'.length ∨ (w = true ∧ m' = sp l'.length)
   ·rw [qK h1 b, hdr, List.map_cons, List.cons.injEq] at hd
    obtain ⟨hd1, hd2⟩ := hd
    rw [zK h1 b] at ho
    rw [hd1]
    dsimp only
    rw [aa, cK, rQ]
    rw [ac ⟨by omega, by unfold af; omega, by omega, by omega⟩, Bb _ (by rw [List.length_drop]; omega), Option.bind_some, ac (ap _), ac ⟨by omega, by omega, by unfold af; omega, by omega⟩, ei]
    refine .on (e - 1) (by omega) ⟨i + 1, d, m', l'.take (sp l'.length), _, rfl, by omega, by rw [zA l' h2]; exact hd2, by rw [List.length_take]; omega, ?_⟩
    simpa using ho
   ·rw [om h1 b, hdr, List.map_cons, List.cons.injEq] at hd
    obtain ⟨hd1, hd2⟩ := hd
    rw [wJ h1 b] at ho
    rw [hd1]
    dsimp only
    have ek : WK .i64 (af l' - ((l'.length - sp l'.length : Nat) : Int)) = ((sp l'.length : Nat) : Int) := by rw [aA (by unfold af; omega) (by unfold af; omega)]; unfold af; omega
    rw [ag, ek, cK, rQ]
    rw [ac ⟨by omega, by omega, by unfold af; omega, by omega⟩, Bb _ (by rw [List.length_take]; omega), Option.bind_some, ac (ap _), ac ⟨by omega, by unfold af; omega, by omega, by omega⟩, ei]
    refine .on (e - 1) (by omega) ⟨i + 1, d, m' - sp l'.length, l'.drop (sp l'.length), _, rfl, by omega, by rw [List.length_drop]; exact hd2, by rw [List.length_drop]; omega, ?_⟩
    simpa using ho
  ·rw [aZ (show af S ≤ (i : Int) by unfold af; omega), aa]
   refine .out ?_
   have hd0 : stp w d m' l'.length = [] := by
    rw [List.drop_eq_nil_of_le (by omega)] at hd
    simpa using hd.symm
   have hp0 : pth w d m' l' = [] := List.eq_nil_of_length_eq_zero (by rw [qL, hd0]; rfl)
   rw [hp0] at ho
   simpa using ho
 ·intro e he
  rw [he]
  refine ak (Ba _ (by simp; omega)) ?_
  simp
theorem B8 {m : Nat} {l : List Vh} (hm : m < l.length) (hl : l.length ≤ 512) : ip 1000 ((m : Int), l, aj) = some (true, pth false 40 m l) := by
 unfold ip
 dsimp only
 rw [aZ (by omega), aa, qD (show (m : Int) < af l by unfold af; omega), aa]
 refine ak (B6 (w := false) (show plc false m l.length by simpa [plc] using hm) (by omega)) (ak (wK false m l hl) rfl)
theorem wL {a : Int} {l : List Vh} (h : a < 0 ∨ (l.length : Int) ≤ a) : ip 1000 (a, l, aj) = some (false, []) := by
 unfold ip
 dsimp only
 by_cases h0 : a < 0
 ·rw [bE h0, ag]
 ·rw [aZ (by omega), aa, ec (show af l ≤ a by unfold af; omega), ag]
def part : Nat → Nat → List Vh → List Vh
 | 0, _, l => l
 | d + 1, m, l => if l.length < 2 ∨ m = l.length then l else if m ≤ sp l.length then part d m (l.take (sp l.length)) else part d (m - sp l.length) (l.drop (sp l.length))
theorem Gh {m : Nat} {l : List Vh} (h : l.length < 2 ∨ m = l.length) (d : Nat) : part d m l = l := by
 cases d with
 | zero => rfl
 | succ d => rw [part, if_pos h]
theorem Dp {d m : Nat} {l : List Vh} (a : ¬ (l.length < 2 ∨ m = l.length)) (b : m ≤ sp l.length) : part (d + 1) m l = part d m (l.take (sp l.length)) := by
 rw [part, if_neg a, if_pos b]
theorem Bc {d m : Nat} {l : List Vh} (a : ¬ (l.length < 2 ∨ m = l.length)) (b : ¬ m ≤ sp l.length) : part (d + 1) m l = part d (m - sp l.length) (l.drop (sp l.length)) := by
 rw [part, if_neg a, if_neg b]
theorem vj : ∀ (d m : Nat) (l : List Vh), (part d m l).length ≤ l.length
 | 0, _, _ => Nat.le_refl _
 | d + 1, m, l => by
   rw [part]
   split
   ·exact Nat.le_refl _
   ·split
    ·exact Nat.le_trans (vj d _ _) (by rw [List.length_take]; omega)
    ·exact Nat.le_trans (vj d _ _) (by rw [List.length_drop]; omega)
theorem Gi {d m : Nat} {l : List Vh} (h : stp true d m l.length = []) : part d m l = l := by
 cases d with
 | zero => rfl
 | succ d =>
   by_cases a : l.length < 2 ∨ m = l.length
   ·rw [Gh a]
   ·exfalso
    have a2 : ¬ (l.length < 2 ∨ (true = true ∧ m = l.length)) := by simpa using a
    by_cases b : m < sp l.length ∨ (true = true ∧ m = sp l.length)
    ·rw [qK a2 b] at h; cases h
    ·rw [om a2 b] at h; cases h
def lks (m : Nat) (l : List Vh) : List Vh := (if (stp true 40 m l.length).any (·.1) = true then [rt 40 (part 40 m l)] else []) ++ pth true 40 m l
theorem Dq (x : Vh) (l : List Vh) (h1 : 1 ≤ l.length) (h : l.length ≤ 900) : kP 1000 (0, l, [x]) = some (x :: l) :=
 ac (p := (0 : Int) = 0 ∧ 1 ≤ l.length ∧ (l.length + 1) * 32 ≤ 140737488355328) ⟨rfl, h1, by omega⟩
theorem Dr {m : Nat} {l : List Vh} (h0 : 1 ≤ m) (hm : m ≤ l.length) (hl : l.length ≤ 512) : iw 1000 ((m : Int), l, aj) = some (true, lks m l) := by
 have hsl := qJ true 40 m l.length
 obtain ⟨S, hS⟩ : ∃ S, S = (stp true 40 m l.length).map sY := ⟨_, rfl⟩
 have hSl : S.length ≤ 40 := by rw [hS, List.length_map]; exact hsl
 obtain ⟨r, hr, hr2⟩ := Gc S (by omega)
 have ha : S.any (·.1) = (stp true 40 m l.length).any (·.1) := by rw [hS, List.any_map]; rfl
 rw [ha] at hr2
 unfold iw
 dsimp only
 rw [aZ (by omega), aa, iS (show (m : Int) ≤ af l by unfold af; omega), aa]
 refine ak (B6 (w := true) (show plc true m l.length by simp [plc]; omega) (by omega)) ?_
 refine ak (wK true m l hl) ?_
 rw [← hS]
 refine ak hr ?_
 rw [hr2]
 unfold lks
 have hpl := qL true 40 m l
 cases hb : (stp true 40 m l.length).any (·.1)
 ·rw [Bool.not_false, ag]; simp
 ·rw [Bool.not_true, aa, if_pos rfl]
  have hne : 1 ≤ (pth true 40 m l).length := by
   rw [hpl]
   rcases hx : stp true 40 m l.length with _ | ⟨y, ys⟩
   ·rw [hx] at hb; cases hb
   ·simp
  obtain ⟨R, hR⟩ : ∃ R, R = pth true 40 m l := ⟨_, rfl⟩
  rw [← hR] at hne hpl ⊢
  refine dH (fun e h => ∃ (i d m' a n : Nat), h = ((a : Int), (n : Int), (i : Int)) ∧ i + e = S.length ∧ a + n ≤ l.length ∧ S.drop i = (stp true d m' n).map sY ∧ part d m' ((l.drop a).take n) = part 40 m l) (fun e => ∃ a n : Nat, e = ((a : Int), (n : Int)) ∧ a + n ≤ l.length ∧ (l.drop a).take n = part 40 m l) S.length (by omega) ⟨0, 40, m, 0, l.length, rfl, by omega, by omega, by simp [hS], by simp⟩ ?_ ?_
  ·clear hR hpl hr hr2 ha hS
   rintro e _ ⟨i, d, m', a, n, rfl, hi, han, hd, hp⟩
   dsimp only
   have hln : ((l.drop a).take n).length = n := by rw [List.length_take, List.length_drop]; omega
   by_cases c : i < S.length
   ·have hne : stp true d m' n ≠ [] := by
     intro h
     rw [h, List.map_nil] at hd
     have := congrArg List.length hd
     rw [List.length_drop] at this
     simp at this; omega
    have h1 : ¬ (n < 2 ∨ (true = true ∧ m' = n)) := fun h => hne (tp h d)
    have h1' : ¬ (((l.drop a).take n).length < 2 ∨ m' = ((l.drop a).take n).length) := by rw [hln]; simpa using h1
    obtain ⟨d, rfl⟩ : ∃ d', d = d' + 1 := by
     cases d with
     | zero => exact absurd rfl hne
     | succ d => exact ⟨d, rfl⟩
    have h2 : 2 ≤ n := by omega
    obtain ⟨s1, s2, s3⟩ := jq h2
    have hdr : S.drop i = S[i] :: S.drop (i + 1) := List.drop_eq_getElem_cons c
    have hat : at_ T8 S (i : Int) = S[i] := cD (t := T8) c
    have ei : WK .i64 ((i : Int) + 1) = ((i + 1 : Nat) : Int) := aA (by omega) (by omega)
    rw [bE (show (i : Int) < af S by unfold af; omega), ag, ac ⟨by omega, by unfold af; omega⟩, hat, ei]
    by_cases b : m' < sp n ∨ (true = true ∧ m' = sp n)
    ·have b' : m' ≤ sp ((l.drop a).take n).length := by rw [hln]; simp at b; omega
     rw [qK h1 b, hdr, List.map_cons, List.cons.injEq] at hd
     obtain ⟨hd1, hd2⟩ := hd
     rw [Dp h1' b', hln, List.take_take, Nat.min_eq_left (by omega)] at hp
     rw [hd1]
     dsimp only
     rw [aa]
     exact .on (e - 1) (by omega) ⟨i + 1, d, m', a, sp n, rfl, by omega, by omega, hd2, hp⟩
    ·have b' : ¬ m' ≤ sp ((l.drop a).take n).length := by rw [hln]; simp at b; omega
     rw [om h1 b, hdr, List.map_cons, List.cons.injEq] at hd
     obtain ⟨hd1, hd2⟩ := hd
     rw [Bc h1' b', hln, List.drop_take, List.drop_drop] at hp
     rw [hd1]
     dsimp only
     rw [ag]
     have ek : WK .i64 ((a : Int) + WK .i64 ((n : Int) - ((n - sp n : Nat) : Int))) = ((a + sp n : Nat) : Int) := by
      rw [aA (x := (n : Int) - ((n - sp n : Nat) : Int)) (by omega) (by omega), aA (by omega) (by omega)]; omega
     rw [ek]
     exact .on (e - 1) (by omega) ⟨i + 1, d, m' - sp n, a + sp n, n - sp n, rfl, by omega, by omega, hd2, hp⟩
   ·rw [aZ (show af S ≤ (i : Int) by unfold af; omega), aa]
    refine .out ⟨a, n, rfl, han, ?_⟩
    have hd0 : stp true d m' n = [] := by
     rw [List.drop_eq_nil_of_le (by omega)] at hd
     simpa using hd.symm
    rw [Gi (by rw [hln]; exact hd0)] at hp
    exact hp
  ·rintro _ ⟨a, n, rfl, han, hp⟩
   dsimp only
   have e1 : WK .i64 ((a : Int) + (n : Int)) = ((a + n : Nat) : Int) := by rw [aA (by omega) (by omega)]; omega
   rw [e1, ac ⟨by omega, by omega, by unfold af; omega, by omega⟩, cK, rQ]
   have e2 : (l.take (a + n)).drop a = (l.drop a).take n := by rw [List.drop_take]; congr 1; omega
   rw [e2, hp]
   have hpl2 := vj 40 m l
   refine ak (Bb _ (by omega)) (ak (Dq _ _ hne (by omega)) rfl)
theorem Bd {a : Int} {l : List Vh} (h : a < 1 ∨ (l.length : Int) < a) : iw 1000 (a, l, aj) = some (false, []) ∧ nE 1000 (a, l) = some (false, []) := by
 constructor
 ·unfold iw
  dsimp only
  by_cases h0 : a < 1
  ·rw [bE h0, ag]
  ·rw [aZ (by omega), aa, ms (show af l < a by unfold af; omega), ag]
 ·unfold nE
  dsimp only
  by_cases h0 : a < 1
  ·rw [bE h0, ag]
  ·rw [aZ (by omega), aa, ms (show af l < a by unfold af; omega), ag]
theorem Gj {m q : Nat} {w s : Int} {lv pk : List Vh} {rows : List Rec} {n : Int} (a b : Int) (c : Vh) (d : Int) (e : Vh) (hm : m < q) (h : q ≤ lv.length) (hl : lv.length ≤ 512) : aR 1000 ((m : Int), (q : Int), w, s, a, b, c, d, e, aj, lv, rows, n, pk) = some (0, pth false 40 m (lv.take q)) := by
 unfold aR
 dsimp only
 rw [aZ (by omega), aa, iS (show (q : Int) ≤ af lv by unfold af; omega), aa, ac ⟨by omega, by omega, by unfold af; omega, by omega⟩, cK]
 refine ak (B8 (by rw [List.length_take]; omega) (by rw [List.length_take]; omega)) ?_
 dsimp only
 rw [Bool.not_true, aa]
theorem Gk {m q : Nat} {w s : Int} {lv pk : List Vh} {rows : List Rec} {n : Int} (a b : Int) (c : Vh) (d : Int) (e : Vh) (hm : q ≤ m) (h1 : 1 ≤ q) (h : q ≤ lv.length) : aR 1000 ((m : Int), (q : Int), w, s, a, b, c, d, e, aj, lv, rows, n, pk) = some (19, []) := by
 unfold aR
 dsimp only
 rw [aZ (by omega), aa, iS (show (q : Int) ≤ af lv by unfold af; omega), aa, ac ⟨by omega, by omega, by unfold af; omega, by omega⟩, cK]
 refine ak (wL (.inr (by rw [List.length_take]; omega))) ?_
 dsimp only
 rw [Bool.not_false, ag]
theorem Dt {m q : Int} {w s : Int} {lv pk : List Vh} {rows : List Rec} {n : Int} (a b : Int) (c : Vh) (d : Int) (e : Vh) (h : q < 1 ∨ (lv.length : Int) < q) : aR 1000 (m, q, w, s, a, b, c, d, e, aj, lv, rows, n, pk) = some (19, []) := by
 unfold aR
 dsimp only
 by_cases h1 : q < 1
 ·rw [bE h1, ag]
 ·rw [aZ (by omega), aa, ms (show af lv < q by unfold af; omega), ag]
theorem rT {b : Nat} (all : List Fz) (lv : List Vh) (n : Int) (pk : List Vh) (h1 : 1 ≤ b) (h : b ≤ lv.length) : bC 1000 ((b : Int), all, lv, n, pk) = some (0, lv.take b) := by
 unfold bC
 dsimp only
 rw [aZ (by omega), aa, iS (show (b : Int) ≤ af lv by unfold af; omega), aa, ac ⟨by omega, by omega, by unfold af; omega, by omega⟩, cK]
theorem Gl {b : Int} (all : List Fz) (lv : List Vh) (n : Int) (pk : List Vh) (h : b < 1 ∨ (lv.length : Int) < b) : bC 1000 (b, all, lv, n, pk) = some (19, []) := by
 unfold bC
 dsimp only
 by_cases h1 : b < 1
 ·rw [bE h1, ag]
 ·rw [aZ (by omega), aa, ms (show af lv < b by unfold af; omega), ag]
theorem Du {a b : Nat} (all : List Fz) (lv : List Vh) (n : Int) (pk : List Vh) (h1 : 1 ≤ a) (hab : a ≤ b) (h : b ≤ lv.length) (hl : lv.length ≤ 512) : bD 1000 ((a : Int), (b : Int), aj, all, lv, n, pk) = some (0, lks a (lv.take b)) := by
 unfold bD
 dsimp only
 refine ak (rT all lv n pk (by omega) h) ?_
 dsimp only
 rw [cU (rfl : (0 : Int) = 0), aa]
 refine ak (Dr h1 (by rw [List.length_take]; omega) (by rw [List.length_take]; omega)) ?_
 dsimp only
 rw [Bool.not_true, aa]
theorem Gm {m b : Nat} (all : List Fz) (lv : List Vh) (n : Int) (pk : List Vh) (hmb : m < b) (h : b ≤ lv.length) (hl : lv.length ≤ 512) : fh 1000 ((m : Int), (b : Int), aj, all, lv, n, pk) = some (0, pth false 40 m (lv.take b)) := by
 unfold fh
 dsimp only
 refine ak (rT all lv n pk (by omega) h) ?_
 dsimp only
 rw [cU (rfl : (0 : Int) = 0), aa]
 refine ak (B8 (by rw [List.length_take]; omega) (by rw [List.length_take]; omega)) ?_
 dsimp only
 rw [Bool.not_true, aa]
def okT (a : Int) : Bool := decide (0 ≤ a) && decide (a ≤ 1125899906842624)
theorem sH {a : Int} (h : 0 ≤ a) (h2 : a ≤ 1125899906842624) : okT a = true := by simp [okT, h, h2]
theorem B9 {a : Int} : okT a = true ↔ 0 ≤ a ∧ a ≤ 1125899906842624 := by simp [okT]
theorem zL (l : List Int) : bP 1000 l = some (l.all okT) ∨ 900 ≤ l.length := by
 by_cases hl : l.length < 900
 ·left
  unfold bP
  refine dH (fun dd h => ∃ i : Nat, h = (i : Int) ∧ i + dd = l.length ∧ (l.take i).all okT = true) (fun e => (∃ h : l.all okT = false, e = .inl false) ∨ (l.all okT = true ∧ e = .inr ())) l.length (by omega) ⟨0, rfl, by omega, by simp⟩ ?_ ?_
  ·rintro dd _ ⟨i, rfl, hi, ha⟩
   by_cases h1 : i < l.length
   ·have ea : at_ (.int .i64) l (i : Int) = l[i] := cD (t := .int .i64) h1
    rw [bE (show (i : Int) < af l by unfold af; omega), ag, ac ⟨by omega, by unfold af; omega⟩, ea]
    have hmem : l[i] ∈ l := List.getElem_mem h1
    have no : okT l[i] = false → l.all okT = false := fun h => by
     cases hc : l.all okT with
     | false => rfl
     | true => rw [List.all_eq_true.1 hc _ hmem] at h; cases h
    by_cases h2 : l[i] < 0
    ·rw [bE h2, ag]
     exact .out (.inl ⟨no (by simp [okT]; omega), rfl⟩)
    ·rw [aZ (by omega), aa]
     by_cases h3 : 1125899906842624 < l[i]
     ·rw [ms h3, ag]
      exact .out (.inl ⟨no (by simp [okT]; omega), rfl⟩)
     ·rw [iS (by omega), aa, aA (by omega) (by omega)]
      refine .on (dd - 1) (by omega) ⟨i + 1, by omega, by omega, ?_⟩
      rw [List.take_add_one, List.getElem?_eq_getElem h1, List.all_append, ha]
      simp [okT]; omega
   ·rw [aZ (show af l ≤ (i : Int) by unfold af; omega), aa]
    refine .out (.inr ⟨?_, rfl⟩)
    rwa [List.take_of_length_le (by omega)] at ha
  ·rintro e (⟨h, rfl⟩ | ⟨h, rfl⟩)
   ·rw [h]; rfl
   ·rw [h]; rfl
 ·right; omega
theorem Be (a : Int) : bP 1000 [a] = some (okT a) := by
 rcases zL [a] with h | h
 ·rw [h]; simp
 ·simp at h
theorem LF (a b : Int) : bP 1000 [a, b] = some (okT a && okT b) := by
 rcases zL [a, b] with h | h
 ·rw [h]; simp
 ·simp at h
def lz (w W : Int) : Int × Bool := if (w + 1) * W ≤ 1125899906842624 then ((w + 1) * W, true) else (0, false)
theorem xP {a W : Int} (hW : 1 ≤ W) : a ≤ 1125899906842624 / W ↔ a * W ≤ 1125899906842624 := Int.le_ediv_iff_mul_le (by omega)
theorem zM {a W : Int} (h : 0 ≤ a) : Int.tdiv a W = a / W := Int.tdiv_eq_ediv_of_nonneg h
theorem wM {a W : Int} (h0 : 0 ≤ a) (hW : 1 ≤ W) (h : a * W ≤ 1125899906842624) : WK .i64 (a * W) = a * W := by
 have : 0 ≤ a * W := Int.mul_nonneg h0 (by omega)
 exact aA (by omega) (by omega)
theorem wN {W : Int} (hW : 1 ≤ W) : WK .i64 (Int.tdiv 1125899906842624 W) = 1125899906842624 / W := by
 rw [zM (by omega)]
 have h1 : 0 ≤ 1125899906842624 / W := Int.ediv_nonneg (by omega) (by omega)
 have h2 : 1125899906842624 / W ≤ 1125899906842624 := Int.ediv_le_self _ (by omega)
 exact aA (by omega) (by omega)
theorem Gn {w W : Int} (h0 : 0 ≤ w) (h1 : w ≤ 1125899906842624) (hW : 1 ≤ W) (hW2 : W ≤ 1125899906842624) : jO 1000 (w, W) = some (lz w W) := by
 unfold jO
 dsimp only
 rw [Be, sH h0 h1, Option.bind_some, Bool.not_true, aa, aA (by omega) (by omega)]
 unfold lX
 dsimp only
 rw [Be, sH (by omega) hW2, Option.bind_some, ag, ms (show 0 < W by omega), ag, ac (show nz W by show W ≠ 0; omega), wN hW]
 unfold lz
 by_cases h : (w + 1) * W ≤ 1125899906842624
 ·rw [iR ((xP hW).2 h), Bool.not_true, aa, if_pos h, wM (by omega) hW h]; rfl
 ·rw [Jo (by have := mt (xP hW).1 h; omega), Bool.not_false, ag, if_neg h]; rfl
def bF (w W t : Int) : Bool := (lz w W).2 && decide ((lz w W).1 ≤ t)
theorem Dv {w W t : Int} (h0 : 0 ≤ w) (h1 : w ≤ 1125899906842624) (hW : 1 ≤ W) (hW2 : W ≤ 1125899906842624) (ht : 0 ≤ t) (ht2 : t ≤ 1125899906842624) : iI 1000 (w, W, t) = some (bF w W t) := by
 unfold iI
 dsimp only
 rw [Gn h0 h1 hW hW2, Option.bind_some, Be, sH ht ht2]
 unfold bF
 cases (lz w W).2 <;> rfl
def xQ (w W T : Int) : Int × Bool := if (lz w W).2 = true ∧ (lz w W).1 + T ≤ 1125899906842624 then ((lz w W).1 + T, true) else (0, false)
theorem Cd {w W : Int} (h0 : 0 ≤ w) (hW : 1 ≤ W) : 0 ≤ (lz w W).1 ∧ (lz w W).1 ≤ 1125899906842624 := by
 unfold lz
 split
 ·exact ⟨Int.mul_nonneg (by omega) (by omega), by assumption⟩
 ·exact ⟨Int.le_refl _, by decide⟩
theorem J7 {w W T : Int} (h0 : 0 ≤ w) (h1 : w ≤ 1125899906842624) (hW : 1 ≤ W) (hW2 : W ≤ 1125899906842624) (hT : 0 ≤ T) (hT2 : T ≤ 1125899906842624) : lY 1000 (w, W, T) = some (xQ w W T) := by
 unfold lY
 dsimp only
 obtain ⟨n1, n2⟩ := Cd h0 hW
 rw [Gn h0 h1 hW hW2, Option.bind_some, Be, sH hT hT2]
 unfold xQ
 cases (lz w W).2 with
 | false => rfl
 | true =>
   simp only [Option.bind_some, Bool.not_true, aa, true_and]
   rw [aA (by omega) (by omega), Be]
   by_cases h : (lz w W).1 + T ≤ 1125899906842624
   ·rw [sH (by omega) h, if_pos h]; rfl
   ·rw [show okT ((lz w W).1 + T) = false by simp [okT]; omega, if_neg h]; rfl
def qM (w W T t : Int) : Bool := (xQ w W T).2 && decide ((xQ w W T).1 ≤ t)
theorem Bf {w W T t : Int} (h0 : 0 ≤ w) (h1 : w ≤ 1125899906842624) (hW : 1 ≤ W) (hW2 : W ≤ 1125899906842624) (hT : 0 ≤ T) (hT2 : T ≤ 1125899906842624) (ht : 0 ≤ t) (ht2 : t ≤ 1125899906842624) : eD 1000 (w, W, T, t) = some (qM w W T t) := by
 unfold eD
 dsimp only
 rw [J7 h0 h1 hW hW2 hT hT2, Option.bind_some, Be, sH ht ht2]
 unfold qM
 cases (xQ w W T).2 <;> rfl
theorem Ld {t W : Int} (ht : 0 ≤ t) (ht2 : t ≤ 1125899906842624) (hW : 1 ≤ W) (hW2 : W ≤ 1125899906842624) : od 1000 (t, W) = some (t / W) := by
 unfold od
 dsimp only
 have h1 : 0 ≤ t / W := Int.ediv_nonneg (by omega) (by omega)
 have h2 : t / W ≤ t := Int.ediv_le_self _ (by omega)
 rw [LF, sH ht ht2, sH (by omega) hW2, Option.bind_some, cG (by omega), ac (show nz W by show W ≠ 0; omega), zM ht, aA (by omega) (by omega)]
 rfl
def kC (c a : Int) : Int × Int := if okT a = true ∧ c ≤ a then (a, 0) else (c, 21)
theorem HN (c a : Int) : kw 1000 (c, a) = some (kC c a) := by
 unfold kw kC
 dsimp only
 rw [Be, Option.bind_some]
 cases okT a with
 | false => rfl
 | true =>
   by_cases h : c ≤ a
   ·rw [ec h, if_pos ⟨rfl, h⟩]; rfl
   ·rw [qD (by omega), if_neg (by rintro ⟨_, h2⟩; exact h h2)]; rfl
theorem Gp (key : List UInt8) (hk : key.length ≤ 64) (n : Nat) (hn : n ≤ 4000) (r : Vh) {t : Int} (h0 : 0 ≤ t) (h1 : t ≤ 1125899906842624) :
 fe 1000 (mkB key, (n : Int), r, t, aj) = some ((n : Int), r, t, zD key (qI n r t)) := by
 unfold fe
 dsimp only
 have a := bH (x := n) (by omega)
 have b := bH (x := t.toNat) (by omega)
 have d := bH (x := 32) (by decide)
 have hl : (qI n r t).length ≤ 100 := by
  unfold qI
  simp only [List.length_append, iA, List.length_singleton]
  omega
 have hsay : iH 1000 ((n : Int), r, t, Vector.replicate 32 0) = some (mkB (qI n r t), 0) := by
  unfold iH
  dsimp only
  rw [ec (show (0 : Int) ≤ (n : Int) by omega), ag, iR (show (n : Int) ≤ 1099511627776 by omega), Bool.not_true, aa, ec h0, ag, iR h1, Bool.not_true, aa]
  refine ak (iB (x := (n : Int)) (by omega) (by omega)) ?_
  rw [xM]
  refine ak (iB (x := 32) (by decide) (by decide)) ?_
  refine (ac (cY (a := bU 32) (b := vb r) (by rw [iA]; omega))).trans ?_
  refine ak (iB h0 h1) ?_
  rw [vf, show mkB (bU (32 : Int).toNat) ++ mkB (vb r) = mkB (bU 32 ++ vb r) from cP _ _]
  refine ak (a := mkB (qI n r t)) ?_ rfl
  show aV 1000 _ = _
  unfold aV
  have hj : Lib.join (([⟨#[72]⟩, mkB (bU (n : Int).toNat), mkB (bU 32 ++ vb r), mkB (bU t.toNat)] : List ByteArray).map (·.data.toList)) (aI : ByteArray).data.toList = qI n r t := by
   simp [Lib.join, qI, mkB]
  have hb : (Lib.join (([⟨#[72]⟩, mkB (bU (n : Int).toNat), mkB (bU 32 ++ vb r), mkB (bU t.toNat)] : List ByteArray).map (·.data.toList)) (aI : ByteArray).data.toList).length ≤ 140737488355328 := by
   rw [hj]; omega
  refine (ac ⟨by simp, by simp, hb⟩).trans ?_
  exact congrArg (fun l => some (mkB l)) hj
 refine ak hsay ?_
 dsimp only
 rw [cU rfl, aa]
 have hp := B2 hk
 refine ak (B3 key hk) (ak (qH 54 _ hp) (ak (qH 92 _ hp) ?_))
 exact ak (B4 (qI n r t) _ _ (by omega) (by rw [nK, hp]) (by rw [nK, hp])) rfl
theorem wO {w c : Int} (h : qG w c) (r : Vh) {t : Int} (h0 : 0 ≤ t) (h1 : t ≤ 1125899906842624) (key : List UInt8) (hk : key.length ≤ 64) :
 lZ 1000 (mkB key, w, c, r, t, aj) = some (w, c, r, t, zD key (dR w c r t)) := by
 unfold lZ
 dsimp only
 have hl := pB h r h0 h1
 refine ak (zI h r h0 h1 _) ?_
 dsimp only
 rw [cU rfl, aa]
 have hp := B2 hk
 refine ak (B3 key hk) (ak (qH 54 _ hp) (ak (qH 92 _ hp) ?_))
 exact ak (B4 (dR w c r t) _ _ (by omega) (by rw [nK, hp]) (by rw [nK, hp])) rfl
abbrev Stn := Int × Int × Vh × Int × Vh
abbrev Hd := Int × Vh × Int × Vh
structure Sh where
 w : Int
 st : Int
 left : Nat
 sn : Stn
 recs : List Rec
def Sh.lv (s : Sh) : List Vh := s.recs.map lfR
def Sh.fz (s : Sh) : Fz := (s.w, (s.recs.length : Int), rt 40 s.lv)
structure Va where
 W : Int
 T : Int
 key : List UInt8
 t : Int
 shs : List Sh
 log : List Fz
structure Told where
 err : Int
 n : Int
 m : Int
 rc : Rec
 sn : Stn
 hd : Hd
 cf : Fz
 pl : Int
 ch : Hd
 path : List Vh
 cp : List Vh
 cs : List Vh
abbrev zR : Rec := (0, 0, 0, aI)
abbrev zS : Stn := (0, 0, z32, 0, z32)
abbrev zH : Hd := (0, z32, 0, z32)
abbrev zF : Fz := (0, 0, z32)
def dD (e : Int) : Told := ⟨e, 0, 0, zR, zS, zH, zF, 0, zH, [], [], []⟩
def Told.tup (o : Told) {β : Type} (x : β) : Int × Int × Int × Int × Int × Int × ByteArray × Int × Int × Vh × Int × Vh × Int × Vh × Int × Vh × Int × Int × Vh × Int × Int × Vh × Int × Vh × β :=
 (o.err, o.n, o.m, o.rc.1, o.rc.2.1, o.rc.2.2.1, o.rc.2.2.2, o.sn.1, o.sn.2.1, o.sn.2.2.1, o.sn.2.2.2.1, o.sn.2.2.2.2, o.hd.1, o.hd.2.1, o.hd.2.2.1, o.hd.2.2.2, o.cf.1, o.cf.2.1, o.cf.2.2, o.pl, o.ch.1, o.ch.2.1, o.ch.2.2.1, o.ch.2.2.2, x)
structure Ask where
 op : Int
 a : Int
 b : Int
 c : Int
 data : ByteArray
def fnd (l : List Sh) (w : Int) : Option Nat := l.findIdx? fun s => s.w == w
def jU (w : Int) : Sh := ⟨w, 0, 0, zS, []⟩
def Sh.put (s : Sh) (t : Int) (d : ByteArray) : Sh := { s with left := s.recs.length + 1, recs := s.recs ++ [(s.w, (s.recs.length : Int), t, d)] }
def jf (v : Va) (d : ByteArray) : Told × Va :=
 match fnd v.shs (v.t / v.W) with
 | none => if 14 ≤ v.shs.length then (dD 15, v) else if 2000 < d.size then (dD 11, v)
  else ({ dD 0 with n := v.t / v.W, m := 0 }, { v with shs := v.shs ++ [(jU (v.t / v.W)).put v.t d] })
 | some i => match v.shs[i]? with
   | some s => if s.st ≠ 0 then (dD 13, v) else if 2000 < d.size then (dD 11, v)
    else ({ dD 0 with n := v.t / v.W, m := (s.recs.length : Int) }, { v with shs := v.shs.set i (s.put v.t d) })
   | none => (dD 0, v)
def Bg (v : Va) (w : Int) : Option Sh := (fnd v.shs w).bind fun i => v.shs[i]?
def rU (v : Va) (w b : Int) : Told :=
 match Bg v w with
 | none => dD 19
 | some s => if b < 0 ∨ (s.recs.length : Int) ≤ b then dD 19 else if s.st = 2 then { dD 20 with sn := s.sn } else { dD 0 with rc := s.recs.getD b.toNat zR }
def rV (l : List Vh) (i n : Int) : Int × List Vh :=
 if n < 1 ∨ (l.length : Int) < n ∨ i < 0 ∨ n ≤ i then (19, []) else (0, pth false 40 i.toNat (l.take n.toNat))
def ot (v : Va) (w b c : Int) : Told :=
 match Bg v w with
 | none => dD 19
 | some s => { dD (rV s.lv b c).1 with path := (rV s.lv b c).2 }
def Va.lfs (v : Va) : List Vh := v.log.map lfF
def Bh (v : Va) : Hd := ((v.log.length : Int), rt 40 v.lfs, v.t, zD v.key (qI v.log.length (rt 40 v.lfs) v.t))
def vk (v : Va) : Told := { dD 0 with hd := Bh v }
def gG (v : Va) : Va :=
 match v.shs.getLast? with
 | some s => if s.st = 0 ∧ bF s.w v.W v.t = true then { v with shs := v.shs.set (v.shs.length - 1) { s with st := 1 }, log := v.log ++ [s.fz] } else v
 | none => v
def fS (v : Va) (a : Int) : Told × Va :=
 if (kC v.t a).2 ≠ 0 then (dD (kC v.t a).2, v) else (dD 0, gG { v with t := (kC v.t a).1 })
def old (v : Va) (s : Sh) : Bool := qM s.w v.W v.T v.t && !(decide (s.st = 2) && decide (s.left = 0))
def Sh.give (s : Sh) (key : List UInt8) (t : Int) : Sh :=
 if s.st = 1 then { s with st := 2, sn := (s.w, (s.recs.length : Int), rt 40 s.lv, t, zD key (dR s.w (s.recs.length : Int) (rt 40 s.lv) t)) }
 else if s.st = 2 then { s with left := s.left - min 4 s.left } else s
def aF (v : Va) : Told × Va :=
 match v.shs.findIdx? (old v) with
 | none => ({ dD 0 with n := -1 }, v)
 | some i => match v.shs[i]? with
   | some s => ({ dD 0 with n := s.w, m := ((s.give v.key v.t).left : Int) }, { v with shs := v.shs.set i (s.give v.key v.t) })
   | none => (dD 0, v)
def jr (v : Va) (w : Int) : Nat := (v.log.findIdx? fun f => f.1 == w).getD 0
def rW (v : Va) (w b : Int) : Told :=
 match Bg v w with
 | none => dD 19
 | some s => if b < 0 ∨ (s.recs.length : Int) ≤ b then dD 19 else if s.st = 0 then dD 13
  else { dD 0 with cf := s.fz, cp := pth false 40 b.toNat s.lv, pl := (jr v w : Int), cs := pth false 40 (jr v w) v.lfs, ch := Bh v }
def tq (l : List Vh) (m n : Int) : Int × List Vh :=
 if n < 1 ∨ (l.length : Int) < n ∨ m < 1 ∨ n < m then (19, []) else (0, lks m.toNat (l.take n.toNat))
def qN (v : Va) (m n : Int) : Told := { dD (tq v.lfs m n).1 with path := (tq v.lfs m n).2 }
def vdo (v : Va) (q : Ask) : Told × Va :=
 if q.op = 1 then jf v q.data else if q.op = 2 then (rU v q.a q.b, v) else if q.op = 3 then (ot v q.a q.b q.c, v) else if q.op = 4 then (vk v, v)
 else if q.op = 5 then fS v q.a else if q.op = 6 then aF v else if q.op = 7 then (rW v q.a q.b, v) else if q.op = 8 then (qN v q.a q.b, v) else (dD 1, v)
structure ShOk (v : Va) (s : Sh) : Prop where
 w0 : 0 ≤ s.w
 w1 : s.w ≤ v.t / v.W
 st : s.st = 0 ∨ s.st = 1 ∨ s.st = 2
 le : s.left ≤ s.recs.length
 full : s.st ≠ 2 → s.left = s.recs.length
 may : ∀ r ∈ s.recs, zE r.1 r.2.1 r.2.2.1 r.2.2.2
 some1 : 1 ≤ s.recs.length
 ix : ∀ (i : Nat) r, s.recs[i]? = some r → r.1 = s.w ∧ r.2.1 = (i : Int)
 cl : s.st ≠ 0 → bF s.w v.W v.t = true
 op : s.st = 0 → bF s.w v.W v.t = false
 stn : s.st = 2 → qM s.w v.W v.T v.t = true ∧ ∃ t, 0 ≤ t ∧ t ≤ v.t ∧ s.sn = (s.w, (s.recs.length : Int), rt 40 s.lv, t, zD v.key (dR s.w (s.recs.length : Int) (rt 40 s.lv) t))
structure VI (v : Va) (n : Nat) : Prop where
 W0 : 1 ≤ v.W
 W1 : v.W ≤ 1125899906842624
 T0 : 0 ≤ v.T
 T1 : v.T ≤ 1125899906842624
 key : v.key.length ≤ 64
 t0 : 0 ≤ v.t
 t1 : v.t ≤ 1125899906842624
 few : v.shs.length ≤ 14
 asc : ∀ (i j : Nat) a b, i < j → v.shs[i]? = some a → v.shs[j]? = some b → a.w < b.w
 ok : ∀ s ∈ v.shs, ShOk v s
 last : ∀ (i : Nat) s, v.shs[i]? = some s → s.st = 0 → i + 1 = v.shs.length
 log : v.log = (v.shs.filter fun s => decide (s.st ≠ 0)).map Sh.fz
 sz : ∀ s ∈ v.shs, s.recs.length ≤ n
abbrev KT := Int × Int × Int × Int × Vh × Int × Vh × List Vh × List Rec × Int × List Vh
def Sh.kid (s : Sh) (pk : List Vh) : KT := (s.w, s.st, s.sn.1, s.sn.2.1, s.sn.2.2.1, s.sn.2.2.2.1, s.sn.2.2.2.2, s.lv, s.recs.take s.left, (s.recs.length : Int), pk)
structure Kids (ss : List Sh) (xs : List KT) : Prop where
 len : xs.length = ss.length
 g : ∀ (i : Nat) s, ss[i]? = some s → ∃ pk, xs[i]? = some (s.kid pk) ∧ Stk 0 s.recs.length pk.reverse s.lv
theorem dh (s : Sh) : s.lv.length = s.recs.length := by simp [Sh.lv]
theorem Kids.get {ss : List Sh} {xs : List KT} (K : Kids ss xs) {i : Nat} {s : Sh} (h : ss[i]? = some s) : ∃ pk, at_ T3 xs (i : Int) = s.kid pk ∧ Stk 0 s.recs.length pk.reverse s.lv := by
 obtain ⟨pk, h1, h2⟩ := K.g i s h
 have hi := (List.getElem?_eq_some_iff.1 h1).1
 refine ⟨pk, ?_, h2⟩
 have := cD (t := T3) (l := xs) (n := i) hi
 rw [this]
 rw [List.getElem?_eq_getElem hi] at h1
 exact Option.some.inj h1
theorem Kids.inr {ss : List Sh} {xs : List KT} (K : Kids ss xs) {i : Nat} {s : Sh} (h : ss[i]? = some s) : inR (i : Int) (af xs) := by
 have := (List.getElem?_eq_some_iff.1 h).1
 exact ⟨by omega, by unfold af; rw [K.len]; omega⟩
theorem Kids.set {ss : List Sh} {xs : List KT} (K : Kids ss xs) {i : Nat} {s : Sh} {pk : List Vh} (hk : Stk 0 s.recs.length pk.reverse s.lv) : Kids (ss.set i s) (bz xs (i : Int) (s.kid pk)) := by
 refine ⟨by simp [K.len], fun j s' hj => ?_⟩
 by_cases e : i = j
 ·subst e
  have hi : i < ss.length := by have := (List.getElem?_eq_some_iff.1 hj).1; simpa using this
  rw [List.getElem?_set, if_pos rfl, if_pos hi] at hj
  cases hj
  refine ⟨pk, ?_, hk⟩
  show (xs.set (Int.toNat (i : Int)) _)[i]? = _
  rw [Int.toNat_natCast, List.getElem?_set, if_pos rfl, if_pos (by rw [K.len]; exact hi)]
 ·rw [List.getElem?_set, if_neg e] at hj
  obtain ⟨pk', h1, h2⟩ := K.g j s' hj
  refine ⟨pk', ?_, h2⟩
  show (xs.set (Int.toNat (i : Int)) _)[j]? = _
  rw [Int.toNat_natCast, List.getElem?_set, if_neg e]
  exact h1
theorem Kids.snoc {ss : List Sh} {xs : List KT} (K : Kids ss xs) {s : Sh} {pk : List Vh} (hk : Stk 0 s.recs.length pk.reverse s.lv) : Kids (ss ++ [s]) (xs ++ [s.kid pk]) := by
 refine ⟨by simp [K.len], fun j s' hj => ?_⟩
 rcases Nat.lt_or_ge j ss.length with h | h
 ·rw [List.getElem?_append_left h] at hj
  obtain ⟨pk', h1, h2⟩ := K.g j s' hj
  exact ⟨pk', by rw [List.getElem?_append_left (by rw [K.len]; exact h)]; exact h1, h2⟩
 ·rw [List.getElem?_append_right h] at hj
  have : j = ss.length := by
   have := (List.getElem?_eq_some_iff.1 hj).1
   simp at this; omega
  subst this
  simp at hj
  subst hj
  exact ⟨pk, by rw [← K.len]; simp, hk⟩
theorem Kids.nil : Kids [] [] := ⟨rfl, fun i s h => by simp at h⟩
structure PR (v : Va) (xs : List KT) (lv : List Vh) (n : Int) (pk : List Vh) : Prop where
 kids : Kids v.shs xs
 inv : Inv v.log lv n pk
theorem nL {l : List Sh} {w : Int} {i : Nat} (h : fnd l w = some i) : ∃ s, l[i]? = some s ∧ s.w = w := by
 unfold fnd at h
 obtain ⟨hi, h1, _⟩ := List.findIdx?_eq_some_iff_getElem.1 h
 exact ⟨l[i], List.getElem?_eq_getElem hi, by simpa using h1⟩
theorem Gq {l : List Sh} {w : Int} (h : fnd l w = none) : ∀ s ∈ l, s.w ≠ w := by
 unfold fnd at h
 intro s hs e
 have := List.findIdx?_eq_none_iff.1 h s hs
 simp [e] at this
theorem xR {α : Type} {p : α → Bool} (l : List α) (r : Option Nat) (h : l.findIdx? p = r) : (∀ j (hj : j < l.length), (∀ i, r = some i → j < i) → p l[j] = false) ∧ (∀ i, r = some i → ∃ hi : i < l.length, p l[i] = true) := by
 subst h
 constructor
 ·intro j hj hr
  cases hc : l.findIdx? p with
  | none => simpa using List.findIdx?_eq_none_iff.1 hc _ (List.getElem_mem hj)
  | some i =>
    obtain ⟨hi, _, h3⟩ := List.findIdx?_eq_some_iff_getElem.1 hc
    have := h3 j (hr i hc)
    simpa using this
 ·intro i hi
  obtain ⟨h1, h2, _⟩ := List.findIdx?_eq_some_iff_getElem.1 hi
  exact ⟨h1, h2⟩
theorem Dw {ss : List Sh} {xs : List KT} (K : Kids ss xs) (w : Int) (hb : ss.length ≤ 900) : eZ 1000 (xs, w) = some (match fnd ss w with | some i => (i : Int) | none => -1) := by
 obtain ⟨r, hr⟩ : ∃ r, r = fnd ss w := ⟨_, rfl⟩
 obtain ⟨q1, q2⟩ := xR ss r hr.symm
 rw [← hr]
 unfold eZ
 dsimp only
 refine dH (fun dd h => ∃ i : Nat, h = (i : Int) ∧ i + dd = ss.length ∧ ∀ m, r = some m → i ≤ m) (fun e => (r = none ∧ e = .inr ()) ∨ ∃ m : Nat, r = some m ∧ e = .inl (m : Int)) ss.length (by omega) ⟨0, rfl, by omega, fun m _ => Nat.zero_le _⟩ ?_ ?_
 ·rintro dd _ ⟨i, rfl, hi, ha⟩
  by_cases h1 : i < ss.length
  ·have hs : ss[i]? = some ss[i] := List.getElem?_eq_getElem h1
   obtain ⟨pk, ek, _⟩ := K.get hs
   rw [bE (K.inr hs).2, ag, ac (K.inr hs), ac (K.inr hs), ac (K.inr hs), ek]
   unfold ew Sh.kid
   dsimp only
   rw [Option.bind_some]
   by_cases hw : ss[i].w = w
   ·rw [cH hw, ag]
    have : r = some i := by
     cases hc : r with
     | none =>
       have := q1 i h1 (fun m hm => by rw [hc] at hm; cases hm)
       simp [hw] at this
     | some m =>
       have h2 := ha m hc
       by_cases e : i = m
       ·rw [e]
       ·have := q1 i h1 (fun m' hm => by rw [hc] at hm; cases hm; omega)
        simp [hw] at this
    exact .out (.inr ⟨i, this, rfl⟩)
   ·rw [cG hw, aa, aA (by omega) (by omega)]
    refine .on (dd - 1) (by omega) ⟨i + 1, by omega, by omega, fun m hm => ?_⟩
    have := ha m hm
    obtain ⟨h3, h4⟩ := q2 m hm
    by_cases e : i = m
    ·subst e; simp at h4; exact absurd h4 hw
    ·omega
  ·rw [aZ (show af xs ≤ (i : Int) by unfold af; rw [K.len]; omega), aa]
   refine .out (.inl ⟨?_, rfl⟩)
   cases hc : r with
   | none => rfl
   | some m => have := ha m hc; obtain ⟨h3, _⟩ := q2 m hc; omega
 ·rintro e (⟨h, rfl⟩ | ⟨m, h, rfl⟩)
  ·rw [h]; rfl
  ·rw [h]; rfl
theorem qO {ss : List Sh} {xs : List KT} (K : Kids ss xs) (w : Int) (hb : ss.length ≤ 900) (a b : Int) (c : ByteArray) (d : Int) (e : List Fz) (f : List Vh) (g : Int) (h : List Vh) :
 bQ 1000 (w, a, b, c, d, xs, e, f, g, h) = some (match fnd ss w with | some i => .inr (i : Int) | none => .inl ()) := by
 unfold bQ
 dsimp only
 rw [Dw K w hb, Option.bind_some]
 cases hf : fnd ss w with
 | none => rfl
 | some i =>
   obtain ⟨s, h1, _⟩ := nL hf
   have e0 : ilt ((i : Nat) : Int) 0 = false := aZ (Int.natCast_nonneg i)
   show ai (ilt ((i : Nat) : Int) 0) _ (ae _ (ae _ (some (Sum.inr ((i : Nat) : Int))))) = _
   rw [e0, aa, ac (K.inr h1), ac (K.inr h1)]
theorem rX {v : Va} {w : Int} (h : fnd v.shs w = none) : Bg v w = none := by unfold Bg; rw [h]; rfl
theorem rY {v : Va} {w : Int} {i : Nat} {s : Sh} (h : fnd v.shs w = some i) (hs : v.shs[i]? = some s) : Bg v w = some s := by unfold Bg; rw [h]; exact hs
section
variable {v : Va} {N : Nat} {xs : List KT} {lv : List Vh} {n : Int} {pk : List Vh}
theorem Gr (I : VI v N) (R : PR v xs lv n pk) (op a b c : Int) (d : ByteArray) :
 fb 1000 (op, a, b, c, d, v.W, v.T, mkB v.key, v.t, xs, v.log, lv, n, pk) = some ((rU v a b).tup ((rU v a b).path, (rU v a b).cp, (rU v a b).cs)) := by
 unfold fb
 dsimp only
 rw [qO R.kids a (by have := I.few; omega), Option.bind_some]
 unfold rU
 cases hf : fnd v.shs a with
 | none => rw [rX hf]; rfl
 | some i =>
   obtain ⟨s, h1, _⟩ := nL hf
   rw [rY hf h1]
   have O := I.ok s (List.mem_of_getElem? h1)
   obtain ⟨pk1, ek, hst⟩ := R.kids.get h1
   dsimp only
   rw [au, ac (R.kids.inr h1), ek]
   unfold Sh.kid iZ
   dsimp only
   have hl : af s.lv = (s.recs.length : Int) := by unfold af; rw [dh]
   by_cases c0 : b < 0
   ·rw [qD c0, aa, Option.bind_some, if_pos (.inl c0)]
    rfl
   by_cases c1 : (s.recs.length : Int) ≤ b
   ·rw [ec (by omega), ag, aZ (by rw [hl]; exact c1), Bool.not_false, ag, Option.bind_some, if_pos (.inr c1)]
    rfl
   rw [ec (by omega), ag, bE (by rw [hl]; omega), Bool.not_true, aa, if_neg (by omega)]
   by_cases c2 : s.st = 2
   ·rw [cH c2, ag, Option.bind_some, if_pos c2]
    dsimp only
    rw [cH rfl, ag, ac (R.kids.inr h1)]
    unfold gU
    dsimp only
    rw [cU c2, aa]
    rfl
   ·have hfull := O.full c2
    have hb : b.toNat < s.recs.length := by omega
    have e2 : at_ T2 (s.recs.take s.left) b = s.recs.getD b.toNat zR := by
     obtain ⟨m, rfl⟩ : ∃ m : Nat, b = (m : Int) := ⟨b.toNat, by omega⟩
     rw [hfull, List.take_length]
     have := cD (t := T2) (l := s.recs) (n := m) (by omega)
     rw [this, Int.toNat_natCast, List.getD_eq_getElem?_getD, List.getElem?_eq_getElem (by omega)]
     rfl
    rw [cG c2, aa, ac ⟨by omega, by unfold af; rw [hfull, List.take_length]; omega⟩, Option.bind_some, if_neg c2, e2]
    dsimp only
    rw [cG (by decide), aa]
    rfl
theorem zN (s : Sh) (pk1 : List Vh) (i m : Int) (h : s.recs.length ≤ 512) (st : Int) (a b : Int) (c : Vh) (d : Int) (e : Vh) (rows : List Rec) (n : Int) :
 aR 1000 (i, m, s.w, st, a, b, c, d, e, aj, s.lv, rows, n, pk1) = some (rV s.lv i m) := by
 unfold rV
 have hl := dh s
 by_cases h1 : m < 1 ∨ (s.lv.length : Int) < m
 ·rw [if_pos (by omega), Dt a b c d e h1]
 ·obtain ⟨M, rfl⟩ : ∃ M : Nat, m = (M : Int) := ⟨m.toNat, by omega⟩
  by_cases h2 : i < 0
  ·rw [if_pos (by omega)]
   unfold aR
   dsimp only
   rw [aZ (by omega), aa, iS (show (M : Int) ≤ af s.lv by unfold af; omega), aa, ac ⟨by omega, by omega, by unfold af; omega, rfl⟩, wL (.inl h2), Option.bind_some]
   rfl
  ·obtain ⟨I, rfl⟩ : ∃ I : Nat, i = (I : Int) := ⟨i.toNat, by omega⟩
   by_cases h3 : M ≤ I
   ·rw [if_pos (by omega), Gk a b c d e h3 (by omega) (by omega)]
   ·rw [if_neg (by omega), Gj a b c d e (by omega) (by omega) (by omega)]
    simp
theorem Dx (I : VI v N) (hN : N ≤ 500) (R : PR v xs lv n pk) (op a b c : Int) (d : ByteArray) :
 dW 1000 (op, a, b, c, d, v.W, v.T, mkB v.key, v.t, aj, xs, v.log, lv, n, pk) = some ((ot v a b c).tup ((ot v a b c).path, (ot v a b c).cp, (ot v a b c).cs)) := by
 unfold dW
 dsimp only
 rw [qO R.kids a (by have := I.few; omega), Option.bind_some]
 unfold ot
 cases hf : fnd v.shs a with
 | none => rw [rX hf]; rfl
 | some i =>
   obtain ⟨s, h1, _⟩ := nL hf
   rw [rY hf h1]
   have hsz := I.sz s (List.mem_of_getElem? h1)
   obtain ⟨pk1, ek, hst⟩ := R.kids.get h1
   dsimp only
   rw [au, ac (R.kids.inr h1), ek]
   unfold Sh.kid
   dsimp only
   rw [zN s pk1 b c (by omega), Option.bind_some]
   rfl
theorem qP (I : VI v N) : v.log.length ≤ 14 := by
 rw [I.log, List.length_map]
 exact Nat.le_trans (List.length_filter_le ..) I.few
theorem Bi (R : PR v xs lv n pk) : lv = v.lfs := R.inv.lv_eq
theorem zO (I : VI v N) (R : PR v xs lv n pk) {β : Type} (f : Hd → Option β) :
 ai (ieq (af v.log) 0) ((dL 1000 (([] : List ByteArray), aj)).bind fun r0 => (fe 1000 (mkB v.key, (af v.log), r0, v.t, aj)).bind fun r1 => f r1)
  ((bi 1000 (n, aj, pk)).bind fun r0 => (fe 1000 (mkB v.key, (af v.log), r0, v.t, aj)).bind fun r1 => f r1) = f (Bh v) := by
 have hl := qP I
 have hh := Gp v.key I.key v.log.length (by omega) (rt 40 v.lfs) I.t0 I.t1
 by_cases h0 : v.log = []
 ·have e1 : af v.log = 0 := by rw [h0]; rfl
  have e2 : rt 40 v.lfs = nil0 := by unfold Va.lfs; rw [h0]; rfl
  have hs := pA [] (by simp) (by simp)
  rw [cH e1, ag]
  refine ak (hs.trans (congrArg some e2.symm)) ?_
  exact ak hh rfl
 ·have e1 : af v.log ≠ 0 := by
   unfold af
   have := List.length_pos_iff.2 h0
   omega
  rw [cG e1, aa]
  refine ak (FX R.inv h0 (by omega)) ?_
  rw [Bi R]
  exact ak hh rfl
theorem J8 (I : VI v N) (R : PR v xs lv n pk) (op a b c : Int) (d : ByteArray) :
 ff 1000 (op, a, b, c, d, v.W, v.T, mkB v.key, v.t, aj, xs, v.log, lv, n, pk) = some ((vk v).tup ((vk v).path, (vk v).cp, (vk v).cs)) := by
 unfold ff
 dsimp only
 exact zO I R (fun r1 : Hd => some ((0, 0, 0, 0, 0, 0, aI, 0, 0, (Vector.replicate 32 0), 0, (Vector.replicate 32 0), r1.1, r1.2.1, r1.2.2.1, r1.2.2.2, 0, 0, (Vector.replicate 32 0), 0, 0, (Vector.replicate 32 0), 0, (Vector.replicate 32 0), ([] : List (Vector Int 32)), ([] : List (Vector Int 32)), ([] : List (Vector Int 32)))))
theorem Dy (R : PR v xs lv n pk) (hl : v.log.length ≤ 512) (m k : Int) : bD 1000 (m, k, aj, v.log, lv, n, pk) = some (tq v.lfs m k) := by
 have e := Bi R
 subst e
 have hl2 : v.lfs.length = v.log.length := by simp [Va.lfs]
 unfold tq
 by_cases h1 : k < 1 ∨ (v.lfs.length : Int) < k
 ·rw [if_pos (by omega)]
  unfold bD
  dsimp only
  rw [Gl v.log _ n pk h1]
  rfl
 ·obtain ⟨K, rfl⟩ : ∃ K : Nat, k = (K : Int) := ⟨k.toNat, by omega⟩
  by_cases h2 : m < 1 ∨ (K : Int) < m
  ·rw [if_pos (by omega)]
   unfold bD
   dsimp only
   rw [rT v.log _ n pk (by omega) (by omega), Option.bind_some]
   dsimp only
   rw [cU rfl, aa, (Bd (by rw [List.length_take]; omega)).1, Option.bind_some]
   rfl
  ·obtain ⟨M, rfl⟩ : ∃ M : Nat, m = (M : Int) := ⟨m.toNat, by omega⟩
   rw [if_neg (by omega), Du v.log _ n pk (by omega) (by omega) (by omega) (by omega)]
   simp
theorem J9 (I : VI v N) (R : PR v xs lv n pk) (op a b c : Int) (d : ByteArray) :
 dZ 1000 (op, a, b, c, d, v.W, v.T, mkB v.key, v.t, aj, xs, v.log, lv, n, pk) = some ((qN v a b).tup ((qN v a b).path, (qN v a b).cp, (qN v a b).cs)) := by
 unfold dZ
 dsimp only
 rw [Dy R (by have := qP I; omega), Option.bind_some]
 rfl
end
theorem Kids.get2 {ss : List Sh} {xs : List KT} (K : Kids ss xs) {i : Nat} {s : Sh} (h : ss[i]? = some s) : ∃ pk, at_ T3 xs (i : Int) = s.kid pk ∧ Stk 0 s.lv.length pk.reverse s.lv := by
 obtain ⟨pk, h1, h2⟩ := K.get h
 exact ⟨pk, h1, by rw [dh]; exact h2⟩
theorem Gs {s : Sh} {pk : List Vh} (h : Stk 0 s.lv.length pk.reverse s.lv) : Stk 0 s.recs.length pk.reverse s.lv := by rw [← dh]; exact h
theorem Kids.at_set {xs : List KT} {i : Nat} (h : i < xs.length) (k : KT) : at_ T3 (bz xs (i : Int) k) (i : Int) = k := by
 have e : bz xs (i : Int) k = xs.set i k := by unfold bz; rw [Int.toNat_natCast]
 rw [e]
 have := cD (t := T3) (l := xs.set i k) (n := i) (by rw [List.length_set]; exact h)
 rw [this]
 simp
theorem vl {α : Type} {l : List α} {i : Nat} {s : α} (h : l[i]? = some s) : l.set i s = l := by
 obtain ⟨hi, rfl⟩ := List.getElem?_eq_some_iff.1 h
 exact List.set_getElem_self hi
theorem Ka (t : Int) (d : ByteArray) (w st : Int) (a b : Int) (c : Vh) (e : Int) (f : Vh) (lv : List Vh) (rows : List Rec) (n : Int) (pk : List Vh) (h : st ≠ 0) :
 aS 1000 (t, d, w, st, a, b, c, e, f, aj, lv, rows, n, pk) = some (0, 13, w, st, a, b, c, e, f, n, lv, rows, pk) := by
 unfold aS
 dsimp only
 rw [sF h, ag]
theorem Ce {t : Int} {d : ByteArray} {w : Int} (a b : Int) (c : Vh) (e : Int) (f : Vh) (lv : List Vh) (rows : List Rec) (n : Int) (pk : List Vh) (h : 2000 < d.size) (hl : lv.length ≤ 500) (w0 : 0 ≤ w) (w1 : w ≤ 1125899906842624) (t0 : 0 ≤ t) (t1 : t ≤ 1125899906842624) :
 aS 1000 (t, d, w, 0, a, b, c, e, f, aj, lv, rows, n, pk) = some (0, 11, w, 0, a, b, c, e, f, n, lv, rows, pk) := by
 unfold aS
 dsimp only
 rw [cU rfl, aa, qD (show af lv < 4000 by unfold af; omega), aa]
 have hc : dt 1000 (w, af lv, t, d) = some 11 := by
  unfold dt
  dsimp only
  rw [ec w0, ag, iR w1, Bool.not_true, aa, ec t0, ag, iR t1, Bool.not_true, aa, ec (show 0 ≤ af lv by unfold af; omega), ag, iR (show af lv ≤ 3999 by unfold af; omega), Bool.not_true, aa, ms (show (2000 : Int) < da d by show (2000 : Int) < ((d.size : Nat) : Int); omega), ag]
 refine ak hc ?_
 rw [sF (by decide), ag]
section
variable {v : Va} {N : Nat} {xs : List KT} {lv : List Vh} {n : Int} {pk : List Vh}
theorem wP (I : VI v N) {s : Sh} (O : ShOk v s) : s.w ≤ 1125899906842624 := by
 have h2 : v.t / v.W ≤ v.t := Int.ediv_le_self _ I.t0
 have := O.w1
 have := I.t1
 omega
theorem Gt (I : VI v N) : 0 ≤ v.t / v.W ∧ v.t / v.W ≤ 1125899906842624 := by
 have h1 : 0 ≤ v.t / v.W := Int.ediv_nonneg I.t0 (by have := I.W0; omega)
 have h2 : v.t / v.W ≤ v.t := Int.ediv_le_self _ I.t0
 have := I.t1
 omega
theorem Cf (s : Sh) {pk1 : List Vh} (hst : Stk 0 s.lv.length pk1.reverse s.lv) (h0 : s.st = 0) (hf : s.left = s.recs.length) {t : Int} {d : ByteArray} (hs : d.size ≤ 2000) (hl : s.recs.length ≤ 60) (w0 : 0 ≤ s.w) (w1 : s.w ≤ 1125899906842624) (t0 : 0 ≤ t) (t1 : t ≤ 1125899906842624) :
 ∃ pk', aS 1000 (t, d, s.w, s.st, s.sn.1, s.sn.2.1, s.sn.2.2.1, s.sn.2.2.2.1, s.sn.2.2.2.2, aj, s.lv, s.recs.take s.left, (s.recs.length : Int), pk1) =
  some ((s.recs.length : Int), 0, s.w, s.st, s.sn.1, s.sn.2.1, s.sn.2.2.1, s.sn.2.2.2.1, s.sn.2.2.2.2, ((s.put t d).recs.length : Int), (s.put t d).lv, (s.put t d).recs.take (s.put t d).left, pk') ∧ Stk 0 (s.put t d).lv.length pk'.reverse (s.put t d).lv := by
 have hll := dh s
 have hm : zE s.w (s.lv.length : Int) t d := ⟨⟨w0, w1⟩, ⟨t0, t1⟩, ⟨by omega, by omega⟩, hs⟩
 obtain ⟨pk', h1, h2⟩ := Lb (rows := s.recs) hm s.sn.1 s.sn.2.1 s.sn.2.2.1 s.sn.2.2.2.1 s.sn.2.2.2.2 hst (by omega) (by omega)
 have e1 : (s.put t d).lv = s.lv ++ [lfR (s.w, (s.lv.length : Int), t, d)] := by simp [Sh.put, Sh.lv]
 have e2 : (s.put t d).recs.take (s.put t d).left = s.recs ++ [(s.w, (s.lv.length : Int), t, d)] := by
  simp only [Sh.put, hll]
  rw [List.take_of_length_le (by simp)]
 have e3 : ((s.put t d).recs.length : Int) = ((s.lv.length + 1 : Nat) : Int) := by simp [Sh.put, hll]
 refine ⟨pk', ?_, by rw [e1, List.length_append]; exact h2⟩
 rw [e1, e2, e3, hf, List.take_length, h0, show ((s.recs.length : Nat) : Int) = (s.lv.length : Int) by omega]
 exact h1
theorem HO (I : VI v N) (hN : N ≤ 59) (R : PR v xs lv n pk) (op a b c : Int) (d : ByteArray) :
 ∃ xs', ga 1000 (op, a, b, c, d, v.W, v.T, mkB v.key, v.t, aj, xs, v.log, lv, n, pk) = some ((jf v d).1.tup (v.W, v.T, mkB v.key, v.t, (jf v d).1.path, (jf v d).1.cp, (jf v d).1.cs, xs')) ∧ Kids (jf v d).2.shs xs' := by
 obtain ⟨tw0, tw1⟩ := Gt I
 unfold ga
 dsimp only
 rw [Ld I.t0 I.t1 I.W0 I.W1, Option.bind_some, qO R.kids _ (by have := I.few; omega), Option.bind_some]
 unfold jf
 cases hf : fnd v.shs (v.t / v.W) with
 | none =>
   dsimp only
   rw [bY]
   have hl : af xs = (v.shs.length : Int) := by unfold af; rw [R.kids.len]
   by_cases h14 : 14 ≤ v.shs.length
   ·rw [ec (by rw [hl]; omega), ag, Option.bind_some, if_pos h14]
    exact ⟨xs, rfl, R.kids⟩
   ·rw [qD (by rw [hl]; omega), aa, aZ tw0, aa, iS tw1, aa, Option.bind_some, if_neg h14]
    rw [au, au]
    by_cases h2 : 2000 < d.size
    ·rw [Ce (lv := []) _ _ _ _ _ _ _ _ h2 (by simp) tw0 tw1 I.t0 I.t1, Option.bind_some, if_pos h2]
     dsimp only
     rw [sF (by decide), ag]
     exact ⟨xs, rfl, R.kids⟩
    ·obtain ⟨pk', h3, h4⟩ := Cf (jU (v.t / v.W)) (pk1 := []) (Stk.zero 0) rfl rfl (t := v.t) (d := d) (by omega) (by simp [jU]) tw0 tw1 I.t0 I.t1
     rw [if_neg h2]
     refine ⟨xs ++ [((jU (v.t / v.W)).put v.t d).kid pk'], ?_, R.kids.snoc (Gs h4)⟩
     refine ak h3 ?_
     dsimp only
     rw [cU rfl, aa, ac (show AY (af xs) (af xs) (af xs) from ⟨rfl, rfl⟩), ac (show E9 _ _ _ from ⟨by have := R.kids.len; simp [xx]; omega, fun _ => by simp [xx]⟩)]
     rfl
 | some i =>
   obtain ⟨s, h1, hw⟩ := nL hf
   have O := I.ok s (List.mem_of_getElem? h1)
   have hsz := I.sz s (List.mem_of_getElem? h1)
   obtain ⟨pk1, ek, hst⟩ := R.kids.get2 h1
   have wm := wP I O
   dsimp only
   rw [au, ac (R.kids.inr h1), ek, h1]
   unfold Sh.kid
   dsimp only
   have same : Kids v.shs (bz xs (i : Int) (s.kid pk1)) := by
    have := R.kids.set (i := i) (Gs hst)
    rwa [vl h1] at this
   by_cases h0 : s.st = 0
   ·rw [if_neg (by simp [h0])]
    by_cases h2 : 2000 < d.size
    ·rw [h0, Ce _ _ _ _ _ _ _ _ _ h2 (by rw [dh]; omega) O.w0 wm I.t0 I.t1, Option.bind_some, if_pos h2]
     dsimp only
     rw [sF (by decide), ag]
     refine ⟨bz xs (i : Int) (s.kid pk1), ?_, same⟩
     unfold Sh.kid
     rw [h0]
     rfl
    ·obtain ⟨pk', h3, h4⟩ := Cf s hst h0 (O.full (by omega)) (t := v.t) (d := d) (by omega) (by omega) O.w0 wm I.t0 I.t1
     rw [if_neg h2]
     refine ⟨bz xs (i : Int) ((s.put v.t d).kid pk'), ?_, R.kids.set (Gs h4)⟩
     refine ak h3 ?_
     dsimp only
     rw [cU rfl, aa]
     rfl
   ·rw [if_pos h0, Ka _ _ _ _ _ _ _ _ _ _ _ _ _ h0, Option.bind_some]
    dsimp only
    rw [sF (by decide), ag]
    exact ⟨bz xs (i : Int) (s.kid pk1), rfl, same⟩
theorem xS (I : VI v N) (hN : N ≤ 4000) {s : Sh} (hs : s ∈ v.shs) : qG s.w (s.recs.length : Int) := by
 have O := I.ok s hs
 have := I.sz s hs
 have := O.some1
 exact ⟨O.w0, wP I O, by omega, by omega⟩
theorem wQ (s : Sh) (pk1 : List Vh) (h : s.st = 0) (rows : List Rec) (n : Int) : br 1000 (s.w, s.st, s.sn.1, s.sn.2.1, s.sn.2.2.1, s.sn.2.2.2.1, s.sn.2.2.2.2, aj, s.lv, rows, n, pk1) = some (0, 0, z32, false) := by
 unfold br
 dsimp only
 rw [cH h, ag]
theorem pC (s : Sh) {pk1 : List Vh} (hst : Stk 0 s.lv.length pk1.reverse s.lv) (hl : s.recs.length ≤ 500) (h : s.st ≠ 0) (rows : List Rec) : br 1000 (s.w, s.st, s.sn.1, s.sn.2.1, s.sn.2.2.1, s.sn.2.2.2.1, s.sn.2.2.2.2, aj, s.lv, rows, (s.recs.length : Int), pk1) = some (s.w, (s.recs.length : Int), rt 40 s.lv, true) := by
 unfold br
 dsimp only
 have := xO (w := s.w) (s := s.st) (rows := rows) s.sn.1 s.sn.2.1 s.sn.2.2.1 s.sn.2.2.2.1 s.sn.2.2.2.2 hst (by rw [dh]; omega)
 rw [dh] at this
 rw [cG h, aa, this]
 rfl
theorem Gu (I : VI v N) {s : Sh} (hs : s ∈ v.shs) (h : s.st ≠ 0) (lv : List Vh) (n : Int) (pk : List Vh) : ct 1000 (s.w, v.log, lv, n, pk) = some ((jr v s.w : Int), true) ∧ jr v s.w < v.log.length ∧ v.log[jr v s.w]? = some s.fz := by
 have hl := qP I
 have hin : s.fz ∈ v.log := by
  rw [I.log]
  exact List.mem_map.2 ⟨s, List.mem_filter.2 ⟨hs, by simpa using h⟩, rfl⟩
 rcases HI v.log s.w lv n pk (by omega) with ⟨i, hi, h1, h2, h3⟩ | ⟨_, h1⟩
 ·have e : jr v s.w = i := by
   unfold jr
   have : v.log.findIdx? (fun f => f.1 == s.w) = some i := List.findIdx?_eq_some_iff_getElem.2 ⟨hi, by simpa using h2, fun j hj => by simpa using h3 j hj⟩
   rw [this]; rfl
  rw [e]
  refine ⟨h1, hi, ?_⟩
  rw [List.getElem?_eq_getElem hi]
  have hmem : v.log[i] ∈ v.log := List.getElem_mem hi
  have hmem2 : v.log[i] ∈ (v.shs.filter fun s => decide (s.st ≠ 0)).map Sh.fz := by rw [← I.log]; exact hmem
  obtain ⟨u, hu, he⟩ := List.mem_map.1 hmem2
  have hu' := (List.mem_filter.1 hu).1
  have hw : u.w = s.w := by rw [← he] at h2; exact h2
  obtain ⟨j, hj⟩ := List.mem_iff_getElem?.1 hu'
  obtain ⟨k, hk⟩ := List.mem_iff_getElem?.1 hs
  have : j = k := by
   rcases Nat.lt_trichotomy j k with h | h | h
   ·have := I.asc j k u s h hj hk; omega
   ·exact h
   ·have := I.asc k j s u h hk hj; omega
  subst this
  rw [hj] at hk
  cases hk
  rw [← he]
 ·exact absurd rfl (h1 _ hin)
theorem Gv (I : VI v N) (hN : N ≤ 500) (R : PR v xs lv n pk) (op a b c : Int) (d : ByteArray) :
 fm 1000 (op, a, b, c, d, v.W, v.T, mkB v.key, v.t, aj, xs, v.log, lv, n, pk) = some ((rW v a b).tup ((rW v a b).path, (rW v a b).cp, (rW v a b).cs)) := by
 unfold fm
 dsimp only
 rw [qO R.kids a (by have := I.few; omega), Option.bind_some]
 unfold rW
 cases hf : fnd v.shs a with
 | none => rw [rX hf]; rfl
 | some i =>
   obtain ⟨s, h1, hw⟩ := nL hf
   subst hw
   rw [rY hf h1]
   have hmem := List.mem_of_getElem? h1
   have hsz := I.sz s hmem
   obtain ⟨pk1, ek, hst⟩ := R.kids.get2 h1
   dsimp only
   rw [au]
   have hl : af s.lv = (s.recs.length : Int) := by unfold af; rw [dh]
   by_cases c0 : b < 0
   ·rw [bE c0, ag, if_pos (.inl c0)]; rfl
   rw [aZ (by omega), aa, ac (R.kids.inr h1), ek]
   unfold Sh.kid
   dsimp only
   by_cases c1 : (s.recs.length : Int) ≤ b
   ·rw [ec (by rw [hl]; exact c1), ag, if_pos (.inr c1)]; rfl
   rw [qD (by rw [hl]; omega), aa, ac (R.kids.inr h1), if_neg (by omega)]
   by_cases c2 : s.st = 0
   ·rw [wQ s _ c2, Option.bind_some, if_pos c2]; rfl
   ·obtain ⟨p1, p2, p3⟩ := Gu I hmem c2 lv n pk
    have elv := Bi R
    subst elv
    have hlf : v.lfs.length = v.log.length := by simp [Va.lfs]
    have hll := qP I
    rw [pC s hst (by omega) c2, Option.bind_some, if_neg c2]
    dsimp only
    rw [Bool.not_true, aa, ac (R.kids.inr h1), ac (R.kids.inr h1), hl, zN s pk1 b (s.recs.length : Int) (by omega), Option.bind_some, p1, Option.bind_some]
    dsimp only
    rw [show af v.log = (v.log.length : Int) from rfl, Gm v.log v.lfs n pk p2 (by omega) (by omega), Option.bind_some]
    have e2 : rV s.lv b (s.recs.length : Int) = (0, pth false 40 b.toNat s.lv) := by
     unfold rV
     rw [dh, if_neg (by omega), Int.toNat_natCast, List.take_of_length_le (by rw [dh]; exact Nat.le_refl _)]
    have e3 : v.lfs.take v.log.length = v.lfs := List.take_of_length_le (by omega)
    rw [e2, e3]
    exact zO I R (fun r6 : Hd => some ((0, 0, 0, 0, 0, 0, aI, 0, 0, (Vector.replicate 32 0), 0, (Vector.replicate 32 0), 0, (Vector.replicate 32 0), 0, (Vector.replicate 32 0), s.w, (s.recs.length : Int), rt 40 s.lv, (jr v s.w : Int), r6.1, r6.2.1, r6.2.2.1, r6.2.2.2, ([] : List (Vector Int 32)), pth false 40 b.toNat s.lv, pth false 40 (jr v s.w) v.lfs)))
end
section
variable {v : Va} {N : Nat} {xs : List KT} {lv : List Vh} {n : Int} {pk : List Vh}
theorem Gw (I : VI v N) {s : Sh} (hs : v.shs[v.shs.length - 1]? = some s) (h0 : s.st = 0) : wG v.log < s.w := by
 have O := I.ok s (List.mem_of_getElem? hs)
 unfold wG
 cases hl : v.log.getLast? with
 | none => simp; have := O.w0; omega
 | some f =>
   have hf : f ∈ v.log := List.mem_of_getLast? hl
   have hf2 : f ∈ (v.shs.filter fun s => decide (s.st ≠ 0)).map Sh.fz := by rw [← I.log]; exact hf
   obtain ⟨u, hu, rfl⟩ := List.mem_map.1 hf2
   obtain ⟨hu1, hu2⟩ := List.mem_filter.1 hu
   obtain ⟨j, hj⟩ := List.mem_iff_getElem?.1 hu1
   have hjl := (List.getElem?_eq_some_iff.1 hj).1
   have hne : j ≠ v.shs.length - 1 := fun e => by
    rw [e, hs] at hj; cases hj
    simp [h0] at hu2
   have := I.asc j (v.shs.length - 1) u s (by omega) hj hs
   simpa [Sh.fz] using this
theorem Gx (I : VI v N) (hN : N ≤ 500) (R : PR v xs lv n pk) (op a b c : Int) (d : ByteArray) :
 ∃ xs' lv' n' pk', fg 1000 (op, a, b, c, d, v.W, v.T, mkB v.key, v.t, aj, xs, v.log, lv, n, pk) = some ((fS v a).1.tup (v.W, v.T, mkB v.key, (fS v a).2.t, n', (fS v a).1.path, (fS v a).1.cp, (fS v a).1.cs, xs', (fS v a).2.log, lv', pk')) ∧ PR (fS v a).2 xs' lv' n' pk' := by
 unfold fg
 dsimp only
 rw [HN, Option.bind_some]
 unfold fS
 by_cases he : (kC v.t a).2 ≠ 0
 ·rw [sF he, ag, if_pos he]
  exact ⟨xs, lv, n, pk, rfl, R⟩
 rw [cU (by omega), aa, if_neg he]
 have htw : kC v.t a = (a, 0) ∧ okT a = true ∧ v.t ≤ a := by
  unfold kC at he ⊢
  split at he
  ·rename_i h; rw [if_pos h]; exact ⟨rfl, h⟩
  ·exact absurd (show (21 : Int) ≠ 0 by decide) he
 obtain ⟨e1, hok, hle⟩ := htw
 obtain ⟨a0, a1⟩ := B9.1 hok
 rw [e1]
 dsimp only
 have hl : af xs = (v.shs.length : Int) := by unfold af; rw [R.kids.len]
 have keep : ∀ v', v' = ({ v with t := a } : Va) → PR v' xs lv n pk := fun v' h => by subst h; exact ⟨R.kids, R.inv⟩
 by_cases h0 : v.shs.length = 0
 ·have hg : gG ({ v with t := a } : Va) = { v with t := a } := by
   unfold gG
   have : v.shs = [] := List.eq_nil_of_length_eq_zero h0
   simp [this]
  rw [iS (by rw [hl]; omega), aa, Option.bind_some, hg]
  exact ⟨xs, lv, n, pk, rfl, keep _ rfl⟩
 ·have e2 : WK .i64 (af xs - 1) = ((v.shs.length - 1 : Nat) : Int) := by
   have := I.few
   rw [aA (by omega) (by omega)]; omega
  obtain ⟨s, hs⟩ : ∃ s, v.shs[v.shs.length - 1]? = some s := ⟨_, List.getElem?_eq_getElem (by omega)⟩
  have hmem := List.mem_of_getElem? hs
  have O := I.ok s hmem
  have hsz := I.sz s hmem
  have wm := wP I O
  obtain ⟨pk1, ek, hst⟩ := R.kids.get2 hs
  have hr := R.kids.inr hs
  have hg : gG ({ v with t := a } : Va) = if s.st = 0 ∧ bF s.w v.W a = true then { v with t := a, shs := v.shs.set (v.shs.length - 1) { s with st := 1 }, log := v.log ++ [s.fz] } else { v with t := a } := by
   unfold gG
   dsimp only
   rw [List.getLast?_eq_getElem?, hs]
  rw [ms (by rw [hl]; omega), ag, e2, ac hr, ac hr, ac hr, ek, hg]
  unfold Sh.kid
  dsimp only
  by_cases c0 : s.st = 0
  ·rw [cH c0, ag, ac hr, ac hr, ac hr, Dv O.w0 wm I.W0 I.W1 a0 a1, Option.bind_some]
   cases hc : bF s.w v.W a with
   | false =>
     rw [aa, Option.bind_some, if_neg (by simp)]
     exact ⟨xs, lv, n, pk, rfl, keep _ rfl⟩
   | true =>
     have hcl := FY (w := s.w) (rows := s.recs.take s.left) s.sn.1 s.sn.2.1 s.sn.2.2.1 s.sn.2.2.2.1 s.sn.2.2.2.2 hst (by rw [dh]; omega) (by rw [dh]; exact O.some1)
     rw [dh] at hcl
     obtain ⟨lv', n', pk', h1, h2⟩ := Di (rt 40 s.lv) (xS I (by omega) hmem) R.inv (by have := qP I; omega) (Gw I hs c0)
     have hst1 : Stk 0 ({ s with st := 1 } : Sh).recs.length pk1.reverse ({ s with st := 1 } : Sh).lv := Gs hst
     rw [ag, ac hr, ac hr, ac hr, c0, hcl, Option.bind_some]
     dsimp only
     rw [cH rfl, ag, h1, Option.bind_some, if_pos ⟨rfl, rfl⟩]
     exact ⟨bz xs ((v.shs.length - 1 : Nat) : Int) (({ s with st := 1 } : Sh).kid pk1), lv', n', pk', rfl, ⟨R.kids.set hst1, h2⟩⟩
  ·rw [cG c0, aa, Option.bind_some, if_neg (by rintro ⟨h, _⟩; exact c0 h)]
   exact ⟨xs, lv, n, pk, rfl, keep _ rfl⟩
theorem Gy (fw fc : Int) (fr : Vh) (t : Int) (m : Vh) (w st : Int) (a b : Int) (c : Vh) (d : Int) (e : Vh) (lv : List Vh) (rows : List Rec) (n : Int) (pk : List Vh) (h : st ≠ 1) :
 bX 1000 (fw, fc, fr, t, m, w, st, a, b, c, d, e, aj, lv, rows, n, pk) = some (13, w, st, a, b, c, d, e, lv, rows) := by
 unfold bX
 dsimp only
 rw [sF h, ag]
theorem Bj (I : VI v N) (R : PR v xs lv n pk) {j : Nat} {s : Sh} (hj : v.shs[j]? = some s) :
 (ae (inR (j : Int) (af xs)) ((eD 1000 (s.w, v.W, v.T, v.t)).bind fun r1 => ai (!r1) (some (.inl ())) (ae (inR (j : Int) (af xs)) (ai (ieq s.st 2) (ae (inR (j : Int) (af xs)) (ai (ieq (af (s.recs.take s.left)) 0) (some (.inl ())) (some (.inr ())))) (some (.inr ()))))) : Option (Unit ⊕ Unit)) = some (if old v s = true then .inr () else .inl ()) := by
 have hr := R.kids.inr hj
 have O := I.ok s (List.mem_of_getElem? hj)
 rw [ac hr, Bf O.w0 (wP I O) I.W0 I.W1 I.T0 I.T1 I.t0 I.t1, Option.bind_some]
 unfold old
 cases qM s.w v.W v.T v.t with
 | false => rfl
 | true =>
   rw [Bool.not_true, aa, ac hr]
   have hlen : af (s.recs.take s.left) = (s.left : Int) := by unfold af; rw [List.length_take]; have := O.le; omega
   rw [hlen]
   by_cases h2 : s.st = 2
   ·rw [cH h2, ag, ac hr]
    by_cases h3 : s.left = 0
    ·rw [cH (by omega), ag]; simp [h2, h3]
    ·rw [cG (by omega), aa]; simp [h2, h3]
   ·rw [cG h2, aa]; simp [h2]
theorem ou (s : Sh) (key : List UInt8) (t : Int) (h : s.left ≤ s.recs.length) : (s.give key t).left ≤ (s.give key t).recs.length ∧ (s.give key t).recs = s.recs ∧ (s.give key t).w = s.w := by
 unfold Sh.give
 split
 ·exact ⟨h, rfl, rfl⟩
 ·split
  ·exact ⟨Nat.le_trans (Nat.sub_le _ _) h, rfl, rfl⟩
  ·exact ⟨h, rfl, rfl⟩
theorem zP (I : VI v N) (hN : N ≤ 500) (R : PR v xs lv n pk) (op a b c : Int) (d : ByteArray) :
 ∃ xs', cX 1000 (op, a, b, c, d, v.W, v.T, mkB v.key, v.t, aj, xs, v.log, lv, n, pk) = some ((aF v).1.tup (xs', (aF v).1.path, (aF v).1.cp, (aF v).1.cs)) ∧ Kids (aF v).2.shs xs' := by
 have hl : af xs = (v.shs.length : Int) := by unfold af; rw [R.kids.len]
 have hfew := I.few
 unfold cX
 dsimp only
 obtain ⟨r, hr⟩ : ∃ r, r = v.shs.findIdx? (old v) := ⟨_, rfl⟩
 obtain ⟨q1, q2⟩ := xR v.shs r hr.symm
 unfold aF
 rw [← hr]
 cases r with
 | none =>
   refine ⟨xs, ak (fq (fun i : Nat => (i : Int)) v.shs.length (xs, 0, (-1), 0, 0, 0, 0, aI, 0, 0, z32, 0, z32, 0, z32, 0, z32, 0, 0, z32, 0, 0, z32, 0, z32, ([] : List Vh), ([] : List Vh), ([] : List Vh)) 1000 (fun i hi => ?_) ?_ (by omega)) rfl, R.kids⟩
   ·have hs : v.shs[i]? = some v.shs[i] := List.getElem?_eq_getElem hi
    have hrr := R.kids.inr hs
    obtain ⟨pk1, ek, hst⟩ := R.kids.get2 hs
    have hold := q1 i hi (fun m hm => by cases hm)
    rw [bE hrr.2, ag, ac hrr, ac hrr, ek]
    refine ak (Bj I R hs) ?_
    rw [hold, if_neg (by decide), bY, aA (by omega) (by omega)]
    rfl
   ·rw [aZ (show af xs ≤ (v.shs.length : Int) by omega), aa]
 | some m =>
   obtain ⟨hm, hold⟩ := q2 m rfl
   have hs : v.shs[m]? = some v.shs[m] := List.getElem?_eq_getElem hm
   obtain ⟨s, hse⟩ : ∃ s, s = v.shs[m] := ⟨_, rfl⟩
   rw [← hse] at hs hold
   have hmem := List.mem_of_getElem? hs
   have O := I.ok s hmem
   have hsz := I.sz s hmem
   have hrr := R.kids.inr hs
   have hmx : m < xs.length := by rw [R.kids.len]; exact hm
   obtain ⟨pk1, ek, hst⟩ := R.kids.get2 hs
   have hg := ou s v.key v.t O.le
   have hst' : Stk 0 (s.give v.key v.t).recs.length pk1.reverse (s.give v.key v.t).lv := by
    have e : (s.give v.key v.t).lv = s.lv := by unfold Sh.lv; rw [hg.2.1]
    rw [e, hg.2.1]; exact Gs hst
   dsimp only
   rw [hs]
   dsimp only
   refine ⟨bz xs (m : Int) ((s.give v.key v.t).kid pk1), ak (fq (fun i : Nat => (i : Int)) m (bz xs (m : Int) ((s.give v.key v.t).kid pk1), 0, s.w, ((s.give v.key v.t).left : Int), 0, 0, 0, aI, 0, 0, z32, 0, z32, 0, z32, 0, z32, 0, 0, z32, 0, 0, z32, 0, z32, ([] : List Vh), ([] : List Vh), ([] : List Vh)) 1000 (fun i hi => ?_) ?_ (by omega)) rfl, R.kids.set hst'⟩
   ·have hi' : i < v.shs.length := by omega
    have hs : v.shs[i]? = some v.shs[i] := List.getElem?_eq_getElem hi'
    have hrr := R.kids.inr hs
    obtain ⟨pk1, ek, hst⟩ := R.kids.get2 hs
    have hold := q1 i hi' (fun m' hm' => by cases hm'; exact hi)
    rw [bE hrr.2, ag, ac hrr, ac hrr, ek]
    refine ak (Bj I R hs) ?_
    rw [hold, if_neg (by decide), bY, aA (by omega) (by omega)]
    rfl
   ·rw [bE hrr.2, ag, ac hrr, ac hrr, ek]
    refine ak (Bj I R hs) ?_
    rw [hold, if_pos rfl, au, ac hrr]
    -- what comes last
    have last : ∀ k : KT, k.1 = s.w → af k.2.2.2.2.2.2.2.2.1 = ((s.give v.key v.t).left : Int) → k = (s.give v.key v.t).kid pk1 →
     (ae (inR (m : Int) (af (bz xs (m : Int) k))) (ae (inR (m : Int) (af (bz xs (m : Int) k))) (some (.inr ((bz xs (m : Int) k), 0, (at_ T3 (bz xs (m : Int) k) (m : Int)).1, (af (at_ T3 (bz xs (m : Int) k) (m : Int)).2.2.2.2.2.2.2.2.1), 0, 0, 0, aI, 0, 0, z32, 0, z32, 0, z32, 0, z32, 0, 0, z32, 0, 0, z32, 0, z32, ([] : List Vh), ([] : List Vh), ([] : List Vh)))))) =
     (some (Sum.inr (bz xs (m : Int) ((s.give v.key v.t).kid pk1), (0 : Int), s.w, ((s.give v.key v.t).left : Int), (0 : Int), (0 : Int), (0 : Int), aI, (0 : Int), (0 : Int), z32, (0 : Int), z32, (0 : Int), z32, (0 : Int), z32, (0 : Int), (0 : Int), z32, (0 : Int), (0 : Int), z32, (0 : Int), z32, ([] : List Vh), ([] : List Vh), ([] : List Vh))) : Option (Int ⊕ _)) := fun k k1 k2 k3 => by
     have hin : inR (m : Int) (af (bz xs (m : Int) k)) := ⟨by omega, by unfold af bz; rw [List.length_set]; omega⟩
     rw [ac hin, ac hin, Kids.at_set hmx, k1, k2, ← k3]
    have hlg : ∀ u : Sh, u = s.give v.key v.t → af (u.recs.take u.left) = ((s.give v.key v.t).left : Int) := fun u hu => by
     subst hu
     unfold af
     rw [List.length_take]
     have := hg.1; omega
    have hlive : af (bz xs (m : Int) (s.kid pk1)) = af xs := by unfold af bz; rw [List.length_set]
    rcases O.st with h | h | h
    ·-- open: nothing
     have eg : s.give v.key v.t = s := by unfold Sh.give; rw [if_neg (by omega), if_neg (by omega)]
     have exs : bz xs (m : Int) (s.kid pk1) = xs := by
      unfold bz
      rw [Int.toNat_natCast]
      refine vl ?_
      have := cD (t := T3) (l := xs) (n := m) hmx
      rw [ek] at this
      rw [List.getElem?_eq_getElem hmx, ← this]
     refine ak (wQ s pk1 h (s.recs.take s.left) (s.recs.length : Int)) ?_
     dsimp only
     rw [aa, Option.bind_some]
     have := last (s.kid pk1) rfl (hlg s eg.symm) (by rw [eg])
     rw [exs] at this
     exact this
    ·-- frozen: it is pruned
     have eg : s.give v.key v.t = { s with st := 2, sn := (s.w, (s.recs.length : Int), rt 40 s.lv, v.t, zD v.key (dR s.w (s.recs.length : Int) (rt 40 s.lv) v.t)) } := by unfold Sh.give; rw [if_pos h]
     refine ak (pC s hst (by omega) (by omega) (s.recs.take s.left)) ?_
     dsimp only
     have hF := xS I (by omega) hmem
     rw [ag, wO hF (rt 40 s.lv) I.t0 I.t1 v.key I.key, Option.bind_some, ac hrr]
     have hp := FZ (w := s.w) (t := v.t) (m := zD v.key (dR s.w (s.recs.length : Int) (rt 40 s.lv) v.t)) (rows := s.recs.take s.left) s.sn.1 s.sn.2.1 s.sn.2.2.1 s.sn.2.2.2.1 s.sn.2.2.2.2 hst (by rw [dh]; omega) (by rw [dh]; exact hF) I.t0 I.t1
     rw [dh] at hp
     unfold Sh.kid
     dsimp only
     rw [h, hp, Option.bind_some]
     dsimp only
     rw [cU rfl, aa, Option.bind_some]
     exact last (({ s with st := 2, sn := (s.w, (s.recs.length : Int), rt 40 s.lv, v.t, zD v.key (dR s.w (s.recs.length : Int) (rt 40 s.lv) v.t)) } : Sh).kid pk1) rfl (hlg _ eg.symm) (by rw [eg])
    ·-- pruned: it is stripped
     have eg : s.give v.key v.t = { s with left := s.left - min 4 s.left } := by unfold Sh.give; rw [if_neg (by omega), if_pos h]
     refine ak (pC s hst (by omega) (by omega) (s.recs.take s.left)) ?_
     dsimp only
     have hF := xS I (by omega) hmem
     rw [ag, wO hF (rt 40 s.lv) I.t0 I.t1 v.key I.key, Option.bind_some, ac hrr, Gy _ _ _ _ _ _ _ _ _ _ _ _ _ _ _ _ (show (s.kid pk1).2.1 ≠ 1 by show s.st ≠ 1; omega), Option.bind_some]
     dsimp only
     have exs : bz xs (m : Int) (s.kid pk1) = xs := by
      unfold bz
      rw [Int.toNat_natCast]
      refine vl ?_
      have := cD (t := T3) (l := xs) (n := m) hmx
      rw [ek] at this
      rw [List.getElem?_eq_getElem hmx, ← this]
     rw [sF (by decide), ag]
     have ex2 : bz xs (m : Int) ((s.kid pk1).1, (s.kid pk1).2.1, (s.kid pk1).2.2.1, (s.kid pk1).2.2.2.1, (s.kid pk1).2.2.2.2.1, (s.kid pk1).2.2.2.2.2.1, (s.kid pk1).2.2.2.2.2.2.1, (s.kid pk1).2.2.2.2.2.2.2.1, (s.kid pk1).2.2.2.2.2.2.2.2.1, (s.kid pk1).2.2.2.2.2.2.2.2.2.1, (s.kid pk1).2.2.2.2.2.2.2.2.2.2) = xs := exs
     rw [ex2, ac hrr, ek]
     have hlt : (s.recs.take s.left).length = s.left := by rw [List.length_take]; have := O.le; omega
     have hsp := xN (k := 4) (w := s.w) (lv := s.lv) (pk := pk1) (rows := s.recs.take s.left) (n := (s.recs.length : Int)) s.sn.1 s.sn.2.1 s.sn.2.2.1 s.sn.2.2.2.1 s.sn.2.2.2.2 (by rw [hlt]; have := O.le; omega)
     rw [hlt] at hsp
     have hcut : zJ 4 s.left = min 4 s.left := rfl
     rw [hcut, List.take_take, Nat.min_eq_left (Nat.sub_le _ _)] at hsp
     unfold Sh.kid
     dsimp only
     rw [h, hsp, Option.bind_some]
     dsimp only
     rw [Option.bind_some]
     have eg2 : s.give v.key v.t = { s with st := 2, left := s.left - min 4 s.left } := by rw [eg]; simp [h]
     exact last (({ s with st := 2, left := s.left - min 4 s.left } : Sh).kid pk1) rfl (hlg _ eg2.symm) (by rw [eg2])
end
theorem ov (v : Va) (d : ByteArray) : (jf v d).2.log = v.log ∧ (jf v d).2.t = v.t ∧ (jf v d).2.W = v.W ∧ (jf v d).2.T = v.T ∧ (jf v d).2.key = v.key := by
 unfold jf
 split
 ·split
  ·exact ⟨rfl, rfl, rfl, rfl, rfl⟩
  ·split <;> exact ⟨rfl, rfl, rfl, rfl, rfl⟩
 ·split
  ·split
   ·exact ⟨rfl, rfl, rfl, rfl, rfl⟩
   ·split <;> exact ⟨rfl, rfl, rfl, rfl, rfl⟩
  ·exact ⟨rfl, rfl, rfl, rfl, rfl⟩
theorem iJ (v : Va) : (aF v).2.log = v.log ∧ (aF v).2.t = v.t ∧ (aF v).2.W = v.W ∧ (aF v).2.T = v.T ∧ (aF v).2.key = v.key := by
 unfold aF
 split
 ·exact ⟨rfl, rfl, rfl, rfl, rfl⟩
 ·split <;> exact ⟨rfl, rfl, rfl, rfl, rfl⟩
theorem Bl (v : Va) (a : Int) : (fS v a).2.W = v.W ∧ (fS v a).2.T = v.T ∧ (fS v a).2.key = v.key := by
 unfold fS
 split
 ·exact ⟨rfl, rfl, rfl⟩
 ·unfold gG
  split
  ·split <;> exact ⟨rfl, rfl, rfl⟩
  ·exact ⟨rfl, rfl, rfl⟩
theorem iC (v : Va) (q : Ask) : (vdo v q).2.W = v.W ∧ (vdo v q).2.T = v.T ∧ (vdo v q).2.key = v.key := by
 unfold vdo
 split
 ·exact ⟨(ov v _).2.2.1, (ov v _).2.2.2.1, (ov v _).2.2.2.2⟩
 repeat' (split; exact ⟨rfl, rfl, rfl⟩)
 split
 ·exact Bl v _
 split
 ·exact ⟨(iJ v).2.2.1, (iJ v).2.2.2.1, (iJ v).2.2.2.2⟩
 repeat' (split; exact ⟨rfl, rfl, rfl⟩)
 exact ⟨rfl, rfl, rfl⟩
section
variable {v : Va} {N : Nat} {xs : List KT} {lv : List Vh} {n : Int} {pk : List Vh}
theorem Cg (I : VI v N) (hN : N ≤ 500) (R : PR v xs lv n pk) (q : Ask) (hN1 : q.op = 1 → N ≤ 59) :
 ∃ xs' lv' n' pk', aL 1000 (q.op, q.a, q.b, q.c, q.data, v.W, v.T, mkB v.key, v.t, aj, xs, v.log, lv, n, pk) =
  some ((vdo v q).1.tup (v.W, v.T, mkB v.key, (vdo v q).2.t, n', (vdo v q).1.path, (vdo v q).1.cp, (vdo v q).1.cs, xs', (vdo v q).2.log, lv', pk')) ∧ PR (vdo v q).2 xs' lv' n' pk' := by
 obtain ⟨op, a, b, c, d⟩ := q
 unfold aL vdo
 dsimp only
 by_cases h1 : op = 1
 ·rw [cH h1, ag, Option.bind_some, if_pos h1, bY]
  obtain ⟨xs', q1, q2⟩ := HO I (hN1 h1) R op a b c d
  obtain ⟨k1, k2, _⟩ := ov v d
  refine ⟨xs', lv, n, pk, ak q1 (by rw [k1, k2]; rfl), ⟨q2, by rw [k1]; exact R.inv⟩⟩
 rw [cG h1, aa, if_neg h1]
 by_cases h2 : op = 2
 ·rw [cH h2, ag, Option.bind_some, if_pos h2, au, bY]
  exact ⟨xs, lv, n, pk, ak (Gr I R op a b c d) rfl, R⟩
 rw [cG h2, aa, if_neg h2]
 by_cases h3 : op = 3
 ·rw [cH h3, ag, Option.bind_some, if_pos h3, au, au, bY]
  exact ⟨xs, lv, n, pk, ak (Dx I (by omega) R op a b c d) rfl, R⟩
 rw [cG h3, aa, if_neg h3]
 by_cases h4 : op = 4
 ·rw [cH h4, ag, Option.bind_some, if_pos h4, au, au, au, bY]
  exact ⟨xs, lv, n, pk, ak (J8 I R op a b c d) rfl, R⟩
 rw [cG h4, aa, if_neg h4]
 by_cases h5 : op = 5
 ·rw [cH h5, ag, Option.bind_some, if_pos h5, au, au, au, au, bY]
  obtain ⟨xs', lv', n', pk', q1, q2⟩ := Gx I (by omega) R op a b c d
  exact ⟨xs', lv', n', pk', ak q1 rfl, q2⟩
 rw [cG h5, aa, if_neg h5]
 by_cases h6 : op = 6
 ·rw [cH h6, ag, Option.bind_some, if_pos h6, au, au, au, au, au, bY]
  obtain ⟨xs', q1, q2⟩ := zP I (by omega) R op a b c d
  obtain ⟨k1, k2, _⟩ := iJ v
  refine ⟨xs', lv, n, pk, ak q1 (by rw [k1, k2]; rfl), ⟨q2, by rw [k1]; exact R.inv⟩⟩
 rw [cG h6, aa, if_neg h6]
 by_cases h7 : op = 7
 ·rw [cH h7, ag, Option.bind_some, if_pos h7, au, au, au, au, au, au, bY]
  exact ⟨xs, lv, n, pk, ak (Gv I (by omega) R op a b c d) rfl, R⟩
 rw [cG h7, aa, if_neg h7]
 by_cases h8 : op = 8
 ·rw [cH h8, ag, Option.bind_some, if_pos h8, au, au, au, au, au, au, au, bY]
  exact ⟨xs, lv, n, pk, ak (J9 I R op a b c d) rfl, R⟩
 rw [cG h8, aa, if_neg h8, Option.bind_some, au, au, au, au, au, au, au, au]
 exact ⟨xs, lv, n, pk, rfl, R⟩
theorem pD (I : VI v N) (hN : N ≤ 59) (R : PR v xs lv n pk) (q : Ask) :
 ∃ xs' lv' n' pk', aL 1000 (q.op, q.a, q.b, q.c, q.data, v.W, v.T, mkB v.key, v.t, aj, xs, v.log, lv, n, pk) =
  some ((vdo v q).1.tup (v.W, v.T, mkB v.key, (vdo v q).2.t, n', (vdo v q).1.path, (vdo v q).1.cp, (vdo v q).1.cs, xs', (vdo v q).2.log, lv', pk')) ∧ PR (vdo v q).2 xs' lv' n' pk' :=
 Cg I (by omega) R q fun _ => hN
end
theorem vm {α β : Type} (p : α → Bool) (f : α → β) : ∀ (l : List α) (i : Nat) (s s' : α), l[i]? = some s → p s' = p s → (p s = true → f s' = f s) → ((l.set i s').filter p).map f = (l.filter p).map f
 | [], i, s, s', h, _, _ => by simp at h
 | x :: l, 0, s, s', h, h1, h2 => by
   simp only [List.getElem?_cons_zero, Option.some.injEq] at h
   subst h
   simp only [List.set_cons_zero, List.filter_cons, h1]
   split
   ·rename_i hp; simp [h2 hp]
   ·rfl
 | x :: l, i + 1, s, s', h, h1, h2 => by
   have := vm p f l i s s' (by simpa using h) h1 h2
   simp only [List.set_cons_succ, List.filter_cons]
   split
   ·simp [this]
   ·exact this
theorem Bm {w W t : Int} (hW : 1 ≤ W) (ht : 0 ≤ t) (ht1 : t ≤ 1125899906842624) (h : bF w W t = false) : t / W ≤ w := by
 have key : t < (w + 1) * W := by
  unfold bF lz at h
  split at h
  ·simp at h; omega
  ·rename_i hn
   omega
 have := Int.ediv_lt_of_lt_mul (by omega) key
 omega
theorem Dz {w W t : Int} (hW : 1 ≤ W) (h : bF w W t = true) : w < t / W := by
 unfold bF lz at h
 split at h
 ·simp at h
  have h2 : w + 1 ≤ t / W := (Int.le_ediv_iff_mul_le (by omega)).2 (by omega)
  omega
 ·simp at h
theorem zQ {w W t t' : Int} (h : bF w W t = true) (ht : t ≤ t') : bF w W t' = true := by
 unfold bF at h ⊢
 simp only [Bool.and_eq_true, decide_eq_true_eq] at h ⊢
 exact ⟨h.1, by omega⟩
theorem Gz {w W T t t' : Int} (h : qM w W T t = true) (ht : t ≤ t') : qM w W T t' = true := by
 unfold qM at h ⊢
 simp only [Bool.and_eq_true, decide_eq_true_eq] at h ⊢
 exact ⟨h.1, by omega⟩
theorem vn {w W T t : Int} (hT : 0 ≤ T) (h : qM w W T t = true) : bF w W t = true := by
 unfold qM xQ at h
 unfold bF
 simp only [Bool.and_eq_true, decide_eq_true_eq] at h ⊢
 split at h
 ·rename_i hc
  exact ⟨hc.1, by have := h.2; simp only at this; omega⟩
 ·exact absurd h.1 (by decide)
theorem ShOk.later {v v' : Va} {s : Sh} (O : ShOk v s) (hW : v'.W = v.W) (hT : v'.T = v.T) (hk : v'.key = v.key) (ht : v.t ≤ v'.t) (hW0 : 1 ≤ v.W) (hop : s.st = 0 → bF s.w v.W v'.t = false) : ShOk v' s := by
 refine ⟨O.w0, ?_, O.st, O.le, O.full, O.may, O.some1, O.ix, fun h => ?_, fun h => by rw [hW]; exact hop h, fun h => ?_⟩
 ·rw [hW]
  exact Int.le_trans O.w1 (Int.ediv_le_ediv (by omega) ht)
 ·rw [hW]; exact zQ (O.cl h) ht
 ·obtain ⟨h1, t, h2, h3, h4⟩ := O.stn h
  exact ⟨by rw [hW, hT]; exact Gz h1 ht, t, h2, by omega, by rw [hk]; exact h4⟩
section
variable {v : Va} {N : Nat}
theorem VI.more (I : VI v N) {M : Nat} (h : N ≤ M) : VI v M := ⟨I.W0, I.W1, I.T0, I.T1, I.key, I.t0, I.t1, I.few, I.asc, I.ok, I.last, I.log, fun s hs => Nat.le_trans (I.sz s hs) h⟩
theorem VI.set (I : VI v N) {i : Nat} {s s' : Sh} {M : Nat} (hi : v.shs[i]? = some s) (hw : s'.w = s.w) (ho : ShOk v s') (hz : (s'.st = 0) ↔ (s.st = 0)) (hf : s.st ≠ 0 → s'.fz = s.fz) (hM : N ≤ M) (hl : s'.recs.length ≤ M) : VI { v with shs := v.shs.set i s' } M := by
 have get : ∀ {j : Nat} {a : Sh}, (v.shs.set i s')[j]? = some a → (j = i ∧ a = s') ∨ (j ≠ i ∧ v.shs[j]? = some a) := fun {j a} h => by
  rw [List.getElem?_set] at h
  by_cases e : i = j
  ·subst e
   rw [if_pos rfl] at h
   split at h
   ·cases h; exact .inl ⟨rfl, rfl⟩
   ·cases h
  ·rw [if_neg e] at h; exact .inr ⟨fun h => e h.symm, h⟩
 have wOf : ∀ {j : Nat} {a : Sh}, (v.shs.set i s')[j]? = some a → ∃ a0, v.shs[j]? = some a0 ∧ a0.w = a.w := fun {j a} h => by
  rcases get h with ⟨rfl, rfl⟩ | ⟨_, h⟩
  ·exact ⟨s, hi, hw.symm⟩
  ·exact ⟨a, h, rfl⟩
 refine ⟨I.W0, I.W1, I.T0, I.T1, I.key, I.t0, I.t1, by simpa using I.few, fun j k a b hjk ha hb => ?_, fun u hu => ?_, fun j u hj h0 => ?_, ?_, fun u hu => ?_⟩
 ·obtain ⟨a0, h1, h2⟩ := wOf ha
  obtain ⟨b0, h3, h4⟩ := wOf hb
  have := I.asc j k a0 b0 hjk h1 h3
  omega
 ·obtain ⟨j, hj⟩ := List.mem_iff_getElem?.1 hu
  rcases get hj with ⟨_, rfl⟩ | ⟨_, h⟩
  ·exact ⟨ho.w0, ho.w1, ho.st, ho.le, ho.full, ho.may, ho.some1, ho.ix, ho.cl, ho.op, ho.stn⟩
  ·have := I.ok u (List.mem_of_getElem? h)
   exact ⟨this.w0, this.w1, this.st, this.le, this.full, this.may, this.some1, this.ix, this.cl, this.op, this.stn⟩
 ·show j + 1 = (v.shs.set i s').length
  rw [List.length_set]
  rcases get hj with ⟨rfl, rfl⟩ | ⟨_, h⟩
  ·exact I.last _ s hi (hz.1 h0)
  ·exact I.last j u h h0
 ·show v.log = _
  rw [I.log]
  refine (vm _ _ _ _ s s' hi ?_ ?_).symm
  ·by_cases h : s.st = 0
   ·have := hz.2 h; simp [h, this]
   ·have := mt hz.1 h; simp [h, this]
  ·intro h; exact hf (by simpa using h)
 ·obtain ⟨j, hj⟩ := List.mem_iff_getElem?.1 hu
  rcases get hj with ⟨_, rfl⟩ | ⟨_, h⟩
  ·exact hl
  ·exact Nat.le_trans (I.sz u (List.mem_of_getElem? h)) hM
theorem GA {s : Sh} (I : VI v N) (O : ShOk v s) (h0 : s.st = 0) {d : ByteArray} (hd : d.size ≤ 2000) (hl : s.recs.length ≤ 3999) : ShOk v (s.put v.t d) := by
 refine ⟨O.w0, O.w1, O.st, by simp [Sh.put], fun _ => by simp [Sh.put], fun r hr => ?_, by simp [Sh.put], fun i r hr => ?_, fun h => absurd h0 h, O.op, fun h => by have : s.st = 2 := h; omega⟩
 ·rcases List.mem_append.1 hr with hr | hr
  ·exact O.may r hr
  ·rw [List.mem_singleton] at hr
   subst hr
   exact ⟨⟨O.w0, wP I O⟩, ⟨I.t0, I.t1⟩, ⟨(show (0 : Int) ≤ (s.recs.length : Int) by omega), (show (s.recs.length : Int) ≤ 3999 by omega)⟩, hd⟩
 ·rcases Nat.lt_or_ge i s.recs.length with h | h
  ·have hr' : s.recs[i]? = some r := by
    have : (s.recs ++ [(s.w, (s.recs.length : Int), v.t, d)])[i]? = some r := hr
    rwa [List.getElem?_append_left h] at this
   exact O.ix i r hr'
  ·have hr' : (s.recs ++ [(s.w, (s.recs.length : Int), v.t, d)])[i]? = some r := hr
   rw [List.getElem?_append_right h] at hr'
   have hi : i = s.recs.length := by
    have := (List.getElem?_eq_some_iff.1 hr').1
    simp at this; omega
   subst hi
   simp at hr'
   subst hr'
   exact ⟨rfl, rfl⟩
theorem Kc (I : VI v N) {d : ByteArray} (hd : d.size ≤ 2000) (hc : bF (v.t / v.W) v.W v.t = false) : ShOk v ((jU (v.t / v.W)).put v.t d) := by
 obtain ⟨tw0, tw1⟩ := Gt I
 refine ⟨tw0, Int.le_refl _, .inl rfl, by simp [Sh.put, jU], fun _ => by simp [Sh.put, jU], fun r hr => ?_, by simp [Sh.put, jU], fun i r hr => ?_, fun h => absurd rfl h, fun _ => hc, fun h => by have : (0 : Int) = 2 := h; omega⟩
 ·have : r = (v.t / v.W, 0, v.t, d) := by simpa [Sh.put, jU] using hr
  subst this
  exact ⟨⟨tw0, tw1⟩, ⟨I.t0, I.t1⟩, ⟨Int.le_refl 0, show (0 : Int) ≤ 3999 by decide⟩, hd⟩
 ·have h1 : ([(v.t / v.W, (0 : Int), v.t, d)] : List Rec)[i]? = some r := by simpa [Sh.put, jU] using hr
  have hi : i = 0 := by
   have := (List.getElem?_eq_some_iff.1 h1).1
   simp at this; omega
  subst hi
  simp at h1
  subst h1
  exact ⟨rfl, rfl⟩
theorem DA (I : VI v N) : bF (v.t / v.W) v.W v.t = false := by
 cases h : bF (v.t / v.W) v.W v.t with
 | false => rfl
 | true => have := Dz I.W0 h; omega
theorem Ke (I : VI v N) (hN : N ≤ 3000) (d : ByteArray) : VI (jf v d).2 (N + 1) := by
 unfold jf
 have stay : VI v (N + 1) := I.more (by omega)
 split
 ·rename_i hf
  split
  ·exact stay
  ·rename_i h14
   split
   ·exact stay
   ·rename_i hd
    have hop := DA I
    have O := Kc I (d := d) (by omega) hop
    have lt : ∀ s ∈ v.shs, s.w < v.t / v.W := fun s hs => by
     have h1 := (I.ok s hs).w1
     have h2 := Gq hf s hs
     omega
    have noopen : ∀ s ∈ v.shs, s.st ≠ 0 := fun s hs h0 => by
     have h1 := Bm I.W0 I.t0 I.t1 ((I.ok s hs).op h0)
     have := lt s hs
     omega
    have get : ∀ {j : Nat} {a : Sh}, (v.shs ++ [(jU (v.t / v.W)).put v.t d])[j]? = some a → (j < v.shs.length ∧ v.shs[j]? = some a) ∨ (j = v.shs.length ∧ a = (jU (v.t / v.W)).put v.t d) := fun {j a} h => by
     rcases Nat.lt_or_ge j v.shs.length with hl | hl
     ·rw [List.getElem?_append_left hl] at h; exact .inl ⟨hl, h⟩
     ·rw [List.getElem?_append_right hl] at h
      have hj : j = v.shs.length := by
       have := (List.getElem?_eq_some_iff.1 h).1
       simp at this; omega
      subst hj
      simp at h
      exact .inr ⟨rfl, h.symm⟩
    refine ⟨I.W0, I.W1, I.T0, I.T1, I.key, I.t0, I.t1, by simp; omega, fun j k a b hjk ha hb => ?_, fun u hu => ?_, fun j u hj h0 => ?_, ?_, fun u hu => ?_⟩
    ·rcases get ha with ⟨h1, h2⟩ | ⟨h1, h2⟩
     ·rcases get hb with ⟨h3, h4⟩ | ⟨h3, h4⟩
      ·exact I.asc j k a b hjk h2 h4
      ·subst h4; exact lt a (List.mem_of_getElem? h2)
     ·rcases get hb with ⟨h3, h4⟩ | ⟨h3, h4⟩ <;> omega
    ·rcases List.mem_append.1 hu with hu | hu
     ·have := I.ok u hu
      exact ⟨this.w0, this.w1, this.st, this.le, this.full, this.may, this.some1, this.ix, this.cl, this.op, this.stn⟩
     ·rw [List.mem_singleton] at hu
      subst hu
      exact ⟨O.w0, O.w1, O.st, O.le, O.full, O.may, O.some1, O.ix, O.cl, O.op, O.stn⟩
    ·show j + 1 = (v.shs ++ [(jU (v.t / v.W)).put v.t d]).length
     rcases get hj with ⟨h1, h2⟩ | ⟨h1, h2⟩
     ·exact absurd h0 (noopen u (List.mem_of_getElem? h2))
     ·simp [h1]
    ·show v.log = _
     rw [I.log, List.filter_append, List.map_append]
     simp [Sh.put, jU]
    ·rcases List.mem_append.1 hu with hu | hu
     ·exact Nat.le_trans (I.sz u hu) (by omega)
     ·rw [List.mem_singleton] at hu
      subst hu
      simp [Sh.put, jU]
 ·rename_i i hf
  split
  ·rename_i s hs
   split
   ·exact stay
   ·rename_i h0
    have h0 : s.st = 0 := Classical.byContradiction h0
    split
    ·exact stay
    ·rename_i hd
     have hmem := List.mem_of_getElem? hs
     have hsz := I.sz s hmem
     exact I.set hs rfl (GA I (I.ok s hmem) h0 (by omega) (by omega)) Iff.rfl (fun h => absurd h0 h) (by omega) (by simp [Sh.put]; omega)
  ·exact stay
theorem vo (I : VI v N) : VI (aF v).2 N := by
 unfold aF
 split
 ·exact I
 ·rename_i m hm
  split
  ·rename_i s hs
   have hmem := List.mem_of_getElem? hs
   have O := I.ok s hmem
   have hold : old v s = true := by
    obtain ⟨h1, h2, _⟩ := List.findIdx?_eq_some_iff_getElem.1 hm
    rw [List.getElem?_eq_getElem h1] at hs
    cases hs
    exact h2
   have hexp : qM s.w v.W v.T v.t = true := by
    unfold old at hold
    simp only [Bool.and_eq_true] at hold
    exact hold.1
   have hn0 : s.st ≠ 0 := fun h => by
    have := O.op h
    rw [vn I.T0 hexp] at this
    cases this
   obtain ⟨g1, g2, g3⟩ := ou s v.key v.t O.le
   have glv : (s.give v.key v.t).lv = s.lv := by unfold Sh.lv; rw [g2]
   have gst : (s.give v.key v.t).st = 2 := by
    unfold Sh.give
    split
    ·rfl
    ·split
     ·rename_i h; exact h
     ·rcases O.st with h | h | h <;> omega
   refine I.set hs g3 ⟨by rw [g3]; exact O.w0, by rw [g3]; exact O.w1, .inr (.inr gst), g1, fun h => absurd gst h, by rw [g2]; exact O.may, by rw [g2]; exact O.some1, by rw [g2, g3]; exact O.ix, fun _ => by rw [g3]; exact O.cl hn0, fun h => by rw [gst] at h; exact absurd h (by decide), fun _ => ?_⟩ ⟨fun h => by rw [gst] at h; exact absurd h (by decide), fun h => absurd h hn0⟩ (fun _ => by unfold Sh.fz; rw [g3, g2, glv]) (Nat.le_refl _) (by rw [g2]; exact I.sz s hmem)
   rw [g3]
   refine ⟨hexp, ?_⟩
   by_cases h1 : s.st = 1
   ·refine ⟨v.t, I.t0, Int.le_refl _, ?_⟩
    rw [g2, glv]
    unfold Sh.give
    rw [if_pos h1]
   ·have h2 : s.st = 2 := by rcases O.st with h | h | h <;> omega
    obtain ⟨_, t, k1, k2, k3⟩ := O.stn h2
    refine ⟨t, k1, k2, ?_⟩
    rw [g2, glv]
    unfold Sh.give
    rw [if_neg h1, if_pos h2]
    exact k3
  ·exact I
theorem HP (I : VI v N) (a : Int) : VI (fS v a).2 N := by
 unfold fS
 by_cases he : (kC v.t a).2 ≠ 0
 ·rw [if_pos he]; exact I
 rw [if_neg he]
 have htw : kC v.t a = (a, 0) ∧ okT a = true ∧ v.t ≤ a := by
  unfold kC at he ⊢
  split at he
  ·rename_i h; rw [if_pos h]; exact ⟨rfl, h⟩
  ·exact absurd (show (21 : Int) ≠ 0 by decide) he
 obtain ⟨e1, hok, hle⟩ := htw
 obtain ⟨a0, a1⟩ := B9.1 hok
 rw [e1]
 dsimp only
 have base : (∀ s ∈ v.shs, s.st = 0 → bF s.w v.W a = false) → VI { v with t := a } N := fun hop =>
  ⟨I.W0, I.W1, I.T0, I.T1, I.key, a0, a1, I.few, I.asc, fun s hs => (I.ok s hs).later rfl rfl rfl hle I.W0 (hop s hs), I.last, I.log, I.sz⟩
 unfold gG
 dsimp only
 cases hl : v.shs.getLast? with
 | none =>
   have : v.shs = [] := by simpa using hl
   exact base (fun s hs => by rw [this] at hs; cases hs)
 | some s =>
   dsimp only
   rw [List.getLast?_eq_getElem?] at hl
   have hlen := (List.getElem?_eq_some_iff.1 hl).1
   have onlyLast : ∀ u ∈ v.shs, u.st = 0 → u = s := fun u hu h0 => by
    obtain ⟨j, hj⟩ := List.mem_iff_getElem?.1 hu
    have := I.last j u hj h0
    have e : j = v.shs.length - 1 := by omega
    rw [e, hl] at hj
    cases hj; rfl
   by_cases hc : s.st = 0 ∧ bF s.w v.W a = true
   ·rw [if_pos hc]
    have hmem := List.mem_of_getElem? hl
    have O := I.ok s hmem
    -- a list whose last one is another one
    obtain ⟨l, hlq⟩ : ∃ l, v.shs = l ++ [s] := by
     refine ⟨v.shs.take (v.shs.length - 1), ?_⟩
     have h1 := List.drop_eq_getElem_cons hlen
     have h2 : v.shs.drop (v.shs.length - 1 + 1) = [] := List.drop_eq_nil_of_le (by omega)
     rw [h2] at h1
     rw [List.getElem?_eq_getElem hlen] at hl
     cases hl
     rw [← h1, List.take_append_drop]
    have hset : v.shs.set (v.shs.length - 1) { s with st := 1 } = l ++ [{ s with st := 1 }] := by
     rw [hlq]
     simp
    have lno : ∀ u ∈ l, u.st ≠ 0 := fun u hu h0 => by
     obtain ⟨j, hj⟩ := List.mem_iff_getElem?.1 hu
     have hjl := (List.getElem?_eq_some_iff.1 hj).1
     have hj2 : v.shs[j]? = some u := by rw [hlq, List.getElem?_append_left hjl]; exact hj
     have := I.last j u hj2 h0
     rw [hlq] at this
     simp at this
     omega
    have get : ∀ {j : Nat} {b : Sh}, (l ++ [({ s with st := 1 } : Sh)])[j]? = some b → ∃ b0, v.shs[j]? = some b0 ∧ b0.w = b.w ∧ b0.recs = b.recs := fun {j b} h => by
     rcases Nat.lt_or_ge j l.length with h1 | h1
     ·rw [List.getElem?_append_left h1] at h
      exact ⟨b, by rw [hlq, List.getElem?_append_left h1]; exact h, rfl, rfl⟩
     ·rw [List.getElem?_append_right h1] at h
      have hj : j = l.length := by
       have := (List.getElem?_eq_some_iff.1 h).1
       simp at this; omega
      subst hj
      simp at h
      subst h
      exact ⟨s, by rw [hlq]; simp, rfl, rfl⟩
    rw [hset]
    refine ⟨I.W0, I.W1, I.T0, I.T1, I.key, a0, a1, ?_, fun j k x y hjk hx hy => ?_, fun u hu => ?_, fun j u hj h0 => ?_, ?_, fun u hu => ?_⟩
    ·have := I.few; rw [hlq] at this; simpa using this
    ·obtain ⟨x0, h1, h2, _⟩ := get hx
     obtain ⟨y0, h3, h4, _⟩ := get hy
     have := I.asc j k x0 y0 hjk h1 h3
     omega
    ·rcases List.mem_append.1 hu with hu | hu
     ·exact (I.ok u (by rw [hlq]; exact List.mem_append_left _ hu)).later rfl rfl rfl hle I.W0 (fun h => absurd h (lno u hu))
     ·rw [List.mem_singleton] at hu
      subst hu
      refine ⟨O.w0, ?_, .inr (.inl rfl), O.le, fun _ => O.full (by omega), O.may, O.some1, O.ix, fun _ => hc.2, fun h => by have : (1 : Int) = 0 := h; omega, fun h => by have : (1 : Int) = 2 := h; omega⟩
      exact Int.le_trans O.w1 (Int.ediv_le_ediv (by have := I.W0; omega) hle)
    ·rcases List.mem_append.1 (List.mem_of_getElem? hj) with hu | hu
     ·exact absurd h0 (lno u hu)
     ·rw [List.mem_singleton] at hu
      subst hu
      have : (1 : Int) = 0 := h0
      omega
    ·show v.log ++ [s.fz] = _
     rw [I.log, hlq, List.filter_append, List.filter_append, List.map_append, List.map_append]
     have h1 : ([s].filter fun s => decide (s.st ≠ 0)) = [] := by simp [hc.1]
     have h2 : ([({ s with st := 1 } : Sh)].filter fun s => decide (s.st ≠ 0)) = [({ s with st := 1 } : Sh)] := by simp
     rw [h1, h2]
     simp [Sh.fz, Sh.lv]
    ·obtain ⟨j, hj⟩ := List.mem_iff_getElem?.1 hu
     obtain ⟨b0, h1, _, h3⟩ := get hj
     rw [← h3]
     exact I.sz b0 (List.mem_of_getElem? h1)
   ·rw [if_neg hc]
    refine base (fun u hu h0 => ?_)
    have := onlyLast u hu h0
    subst this
    cases h : bF u.w v.W a with
    | false => rfl
    | true => exact absurd ⟨h0, h⟩ hc
theorem rZ (I : VI v N) (hN : N ≤ 3000) (q : Ask) : VI (vdo v q).2 (N + 1) := by
 have stay : VI v (N + 1) := I.more (by omega)
 unfold vdo
 split
 ·exact Ke I hN _
 repeat' (split; exact stay)
 split
 ·exact (HP I _).more (by omega)
 split
 ·exact (vo I).more (by omega)
 repeat' (split; exact stay)
 exact stay
end
structure ShLater (s s' : Sh) : Prop where
 w : s'.w = s.w
 recs : ∃ r, s'.recs = s.recs ++ r
 cl : s.st ≠ 0 → s'.recs = s.recs ∧ s'.st ≠ 0
 pr : s.st = 2 → s'.st = 2
theorem ShLater.refl (s : Sh) : ShLater s s := ⟨rfl, ⟨[], by simp⟩, fun h => ⟨rfl, h⟩, id⟩
theorem ShLater.trans {a b c : Sh} (h : ShLater a b) (k : ShLater b c) : ShLater a c := by
 obtain ⟨r, h1⟩ := h.recs
 obtain ⟨q, k1⟩ := k.recs
 refine ⟨k.w.trans h.w, ⟨r ++ q, by rw [k1, h1, List.append_assoc]⟩, fun h0 => ?_, fun h0 => k.pr (h.pr h0)⟩
 obtain ⟨a1, a2⟩ := h.cl h0
 obtain ⟨b1, b2⟩ := k.cl a2
 exact ⟨b1.trans a1, b2⟩
structure Later (v v' : Va) : Prop where
 W : v'.W = v.W
 T : v'.T = v.T
 key : v'.key = v.key
 t : v.t ≤ v'.t
 log : ∃ e, v'.log = v.log ++ e
 shs : ∀ (i : Nat) s, v.shs[i]? = some s → ∃ s', v'.shs[i]? = some s' ∧ ShLater s s'
theorem Later.refl (v : Va) : Later v v := ⟨rfl, rfl, rfl, Int.le_refl _, ⟨[], by simp⟩, fun i s h => ⟨s, h, .refl s⟩⟩
theorem Later.trans {a b c : Va} (h : Later a b) (k : Later b c) : Later a c := by
 obtain ⟨r, h1⟩ := h.log
 obtain ⟨q, k1⟩ := k.log
 refine ⟨k.W.trans h.W, k.T.trans h.T, k.key.trans h.key, Int.le_trans h.t k.t, ⟨r ++ q, by rw [k1, h1, List.append_assoc]⟩, fun i s hs => ?_⟩
 obtain ⟨s1, h2, h3⟩ := h.shs i s hs
 obtain ⟨s2, h4, h5⟩ := k.shs i s1 h2
 exact ⟨s2, h4, h3.trans h5⟩
theorem sa {v : Va} {i : Nat} {s s' : Sh} (hi : v.shs[i]? = some s) (h : ShLater s s') : Later v { v with shs := v.shs.set i s' } := by
 refine ⟨rfl, rfl, rfl, Int.le_refl _, ⟨[], by simp⟩, fun j u hj => ?_⟩
 by_cases e : i = j
 ·subst e
  rw [hi] at hj; cases hj
  exact ⟨s', by show (v.shs.set i s')[i]? = _; rw [List.getElem?_set, if_pos rfl, if_pos (List.getElem?_eq_some_iff.1 hi).1], h⟩
 ·exact ⟨u, by show (v.shs.set i s')[j]? = _; rw [List.getElem?_set, if_neg e]; exact hj, .refl u⟩
theorem DB {v : Va} {N : Nat} (I : VI v N) (q : Ask) : Later v (vdo v q).2 := by
 unfold vdo
 split
 ·unfold jf
  split
  ·split
   ·exact .refl v
   ·split
    ·exact .refl v
    ·refine ⟨rfl, rfl, rfl, Int.le_refl _, ⟨[], by simp⟩, fun j u hj => ⟨u, ?_, .refl u⟩⟩
     show (v.shs ++ [_])[j]? = _
     rw [List.getElem?_append_left (List.getElem?_eq_some_iff.1 hj).1]
     exact hj
  ·split
   ·rename_i s hs
    split
    ·exact .refl v
    ·rename_i h0
     have h0 : s.st = 0 := Classical.byContradiction h0
     split
     ·exact .refl v
     ·exact sa hs ⟨rfl, ⟨_, rfl⟩, fun h => absurd h0 h, fun h => by rw [h0] at h; exact absurd h (by decide)⟩
   ·exact .refl v
 repeat' (split; exact .refl v)
 split
 ·unfold fS
  split
  ·exact .refl v
  ·rename_i he
   have hle : v.t ≤ (kC v.t q.a).1 := by
    unfold kC at he ⊢
    split
    ·rename_i h; exact h.2
    ·exact Int.le_refl _
   have base : Later v { v with t := (kC v.t q.a).1 } := ⟨rfl, rfl, rfl, hle, ⟨[], by simp⟩, fun i s h => ⟨s, h, .refl s⟩⟩
   unfold gG
   split
   ·rename_i s hs
    split
    ·rename_i hc
     rw [List.getLast?_eq_getElem?] at hs
     have := sa (s' := { s with st := 1 }) hs ⟨rfl, ⟨[], by simp⟩, fun h => absurd hc.1 h, fun h => by rw [hc.1] at h; exact absurd h (by decide)⟩
     exact ⟨rfl, rfl, rfl, hle, ⟨[s.fz], rfl⟩, this.shs⟩
    ·exact base
   ·exact base
 split
 ·unfold aF
  split
  ·exact .refl v
  ·split
   ·rename_i m hm s hs
    have O := I.ok s (List.mem_of_getElem? hs)
    obtain ⟨g1, g2, g3⟩ := ou s v.key v.t O.le
    refine sa hs ⟨g3, ⟨[], by rw [g2]; simp⟩, fun h => ⟨g2, ?_⟩, fun h => ?_⟩
    ·unfold Sh.give
     split
     ·exact (by decide : (2 : Int) ≠ 0)
     ·split <;> exact h
    ·unfold Sh.give
     split
     ·rfl
     ·first | exact h | (rw [if_pos h]; exact h) | (split <;> first | exact h | rfl)
   ·exact .refl v
 repeat' (split; exact .refl v)
 exact .refl v
theorem GB (p : ByteArray) : ∃ q, kB 1000 (p, 600) = some q ∧ q.size ≤ 600 := by
 unfold kB
 dsimp only
 by_cases c : 600 < p.size
 ·rw [ms (show (600 : Int) < da p by show (600 : Int) < ((p.size : Nat) : Int); omega), ag, ac (show E8 0 600 (da p) from ⟨by omega, by omega, by show (600 : Int) ≤ ((p.size : Nat) : Int); omega⟩)]
  refine ⟨_, rfl, ?_⟩
  unfold E7
  simp [ByteArray.size_extract]
  omega
 ·rw [iS (show da p ≤ 600 by show ((p.size : Nat) : Int) ≤ 600; omega), aa]
  exact ⟨_, rfl, by omega⟩
theorem Kf (op a b c : Int) (d : ByteArray) (l : Int) (on : Bool) (t : Int) : ∃ q : Ask, df 1000 (op, a, b, c, d, l, on, t) = some (q.op, q.a, q.b, q.c, q.data) := by
 obtain ⟨r, hr, hs⟩ := GB d
 obtain ⟨m0, m1⟩ : 0 ≤ be .i64 l 3 ∧ be .i64 l 3 ≤ 3 := rJ l 3 (by omega)
 unfold df
 dsimp only
 rw [hr, Option.bind_some]
 obtain ⟨y, hy, z, hz⟩ : ∃ y, (aP (H := Int × Int × Int × Int × Int × ByteArray) (E := Int × Int × Int × Int × ByteArray) 1000 (fun h1 => ai (ilt h1.1 (be .i64 l 3)) (ae ((bW h1.2.2.2.2.2 r)) (some (.inl (((WK .i64 (h1.1 + 1)), h1.2.1, h1.2.2.1, h1.2.2.2.1, h1.2.2.2.2.1, (h1.2.2.2.2.2 ++ r)))))) (some (.inr ((h1.2.1, h1.2.2.1, h1.2.2.2.1, h1.2.2.2.2.1, h1.2.2.2.2.2))))) ((0, op, a, b, c, r))) = some y ∧ ∃ z, y = (op, a, b, c, z) := by
  refine lx (fun dd h => ∃ (i : Nat) (z : ByteArray), h = ((i : Int), op, a, b, c, z) ∧ i + dd = 3 ∧ z.size ≤ 600 * (i + 1)) (fun e => ∃ z, e = (op, a, b, c, z)) (fun dd h ⟨i, z, he, hi, hz⟩ => ?_) 3 _ ⟨0, r, rfl, rfl, by omega⟩ 1000 (by omega)
  subst he
  dsimp only
  by_cases c1 : (i : Int) < be .i64 l 3
  ·left
   rw [bE c1, ag, ac (show bW z r by unfold bW; omega), aA (by omega) (by omega)]
   exact ⟨_, dd - 1, rfl, by omega, i + 1, z ++ r, rfl, by omega, by rw [Ft]; omega⟩
  ·right
   rw [aZ (by omega), aa]
   exact ⟨_, rfl, z, rfl⟩
 subst hz
 refine Exists.imp (fun q (hq : _ = _) => ak hy hq) ?_
 dsimp only
 cases on with
 | false =>
   rw [aa, Option.bind_some]
   exact ⟨⟨op, a, b, c, z⟩, rfl⟩
 | true =>
   rw [ag]
   by_cases h5 : op = 5
   ·rw [cH h5, ag, Option.bind_some]
    exact ⟨⟨op, _, b, c, z⟩, rfl⟩
   ·rw [cG h5, aa, Option.bind_some]
    exact ⟨⟨op, a, b, c, z⟩, rfl⟩
theorem Kg (l : List (T11).den) {v : Va} {N : Nat} {xs : List KT} {lv : List Vh} {n : Int} {pk : List Vh} (I : VI v N) (hN : N ≤ 30) (R : PR v xs lv n pk) :
 ∃ v' xs' lv' n' pk', aP (H := Int × Int × Int × ByteArray × Int × Int × (List (Int × (Int × (Int × (Int × ((Vector Int 32) × (Int × ((Vector Int 32) × ((List (Vector Int 32)) × ((List (Int × (Int × (Int × ByteArray)))) × (Int × (List (Vector Int 32))))))))))))) × (List (Int × (Int × (Vector Int 32)))) × (List (Vector Int 32)) × (List (Vector Int 32))) (E := Int × Int × ByteArray × Int × Int × (List (Int × (Int × (Int × (Int × ((Vector Int 32) × (Int × ((Vector Int 32) × ((List (Vector Int 32)) × ((List (Int × (Int × (Int × ByteArray)))) × (Int × (List (Vector Int 32))))))))))))) × (List (Int × (Int × (Vector Int 32)))) × (List (Vector Int 32)) × (List (Vector Int 32))) 1000
  (fun h3 => ai (ilt h3.1 (af l)) (ai (ilt h3.1 30) (ae ((inR h3.1 (af l))) ((df 1000 ((at_ T11 l h3.1).1.1, (at_ T11 l h3.1).1.2.1, (at_ T11 l h3.1).1.2.2.1, (at_ T11 l h3.1).1.2.2.2.1, (at_ T11 l h3.1).1.2.2.2.2, (at_ T11 l h3.1).2.1, (at_ T11 l h3.1).2.2, h3.2.2.2.2.1)).bind fun r4 => (aL 1000 (r4.1, r4.2.1, r4.2.2.1, r4.2.2.2.1, r4.2.2.2.2, h3.2.1, h3.2.2.1, h3.2.2.2.1, h3.2.2.2.2.1, aj, h3.2.2.2.2.2.2.1, h3.2.2.2.2.2.2.2.1, h3.2.2.2.2.2.2.2.2.1, h3.2.2.2.2.2.1, h3.2.2.2.2.2.2.2.2.2)).bind fun r5 => some (.inl (((WK .i64 (h3.1 + 1)), r5.2.2.2.2.2.2.2.2.2.2.2.2.2.2.2.2.2.2.2.2.2.2.2.2.1, r5.2.2.2.2.2.2.2.2.2.2.2.2.2.2.2.2.2.2.2.2.2.2.2.2.2.1, r5.2.2.2.2.2.2.2.2.2.2.2.2.2.2.2.2.2.2.2.2.2.2.2.2.2.2.1, r5.2.2.2.2.2.2.2.2.2.2.2.2.2.2.2.2.2.2.2.2.2.2.2.2.2.2.2.1, r5.2.2.2.2.2.2.2.2.2.2.2.2.2.2.2.2.2.2.2.2.2.2.2.2.2.2.2.2.1, r5.2.2.2.2.2.2.2.2.2.2.2.2.2.2.2.2.2.2.2.2.2.2.2.2.2.2.2.2.2.2.2.2.1, r5.2.2.2.2.2.2.2.2.2.2.2.2.2.2.2.2.2.2.2.2.2.2.2.2.2.2.2.2.2.2.2.2.2.1, r5.2.2.2.2.2.2.2.2.2.2.2.2.2.2.2.2.2.2.2.2.2.2.2.2.2.2.2.2.2.2.2.2.2.2.1, r5.2.2.2.2.2.2.2.2.2.2.2.2.2.2.2.2.2.2.2.2.2.2.2.2.2.2.2.2.2.2.2.2.2.2.2))))) (some (.inr ((h3.2.1, h3.2.2.1, h3.2.2.2.1, h3.2.2.2.2.1, h3.2.2.2.2.2.1, h3.2.2.2.2.2.2.1, h3.2.2.2.2.2.2.2.1, h3.2.2.2.2.2.2.2.2.1, h3.2.2.2.2.2.2.2.2.2))))) (some (.inr ((h3.2.1, h3.2.2.1, h3.2.2.2.1, h3.2.2.2.2.1, h3.2.2.2.2.2.1, h3.2.2.2.2.2.2.1, h3.2.2.2.2.2.2.2.1, h3.2.2.2.2.2.2.2.2.1, h3.2.2.2.2.2.2.2.2.2)))))
  (0, v.W, v.T, mkB v.key, v.t, n, xs, v.log, lv, pk) = some (v'.W, v'.T, mkB v'.key, v'.t, n', xs', v'.log, lv', pk') ∧ VI v' (N + 30) ∧ PR v' xs' lv' n' pk' ∧ Later v v' := by
 refine Exists.elim (lx (step := (fun h3 => ai (ilt h3.1 (af l)) (ai (ilt h3.1 30) (ae ((inR h3.1 (af l))) ((df 1000 ((at_ T11 l h3.1).1.1, (at_ T11 l h3.1).1.2.1, (at_ T11 l h3.1).1.2.2.1, (at_ T11 l h3.1).1.2.2.2.1, (at_ T11 l h3.1).1.2.2.2.2, (at_ T11 l h3.1).2.1, (at_ T11 l h3.1).2.2, h3.2.2.2.2.1)).bind fun r4 => (aL 1000 (r4.1, r4.2.1, r4.2.2.1, r4.2.2.2.1, r4.2.2.2.2, h3.2.1, h3.2.2.1, h3.2.2.2.1, h3.2.2.2.2.1, aj, h3.2.2.2.2.2.2.1, h3.2.2.2.2.2.2.2.1, h3.2.2.2.2.2.2.2.2.1, h3.2.2.2.2.2.1, h3.2.2.2.2.2.2.2.2.2)).bind fun r5 => some (.inl (((WK .i64 (h3.1 + 1)), r5.2.2.2.2.2.2.2.2.2.2.2.2.2.2.2.2.2.2.2.2.2.2.2.2.1, r5.2.2.2.2.2.2.2.2.2.2.2.2.2.2.2.2.2.2.2.2.2.2.2.2.2.1, r5.2.2.2.2.2.2.2.2.2.2.2.2.2.2.2.2.2.2.2.2.2.2.2.2.2.2.1, r5.2.2.2.2.2.2.2.2.2.2.2.2.2.2.2.2.2.2.2.2.2.2.2.2.2.2.2.1, r5.2.2.2.2.2.2.2.2.2.2.2.2.2.2.2.2.2.2.2.2.2.2.2.2.2.2.2.2.1, r5.2.2.2.2.2.2.2.2.2.2.2.2.2.2.2.2.2.2.2.2.2.2.2.2.2.2.2.2.2.2.2.2.1, r5.2.2.2.2.2.2.2.2.2.2.2.2.2.2.2.2.2.2.2.2.2.2.2.2.2.2.2.2.2.2.2.2.2.1, r5.2.2.2.2.2.2.2.2.2.2.2.2.2.2.2.2.2.2.2.2.2.2.2.2.2.2.2.2.2.2.2.2.2.2.1, r5.2.2.2.2.2.2.2.2.2.2.2.2.2.2.2.2.2.2.2.2.2.2.2.2.2.2.2.2.2.2.2.2.2.2.2))))) (some (.inr ((h3.2.1, h3.2.2.1, h3.2.2.2.1, h3.2.2.2.2.1, h3.2.2.2.2.2.1, h3.2.2.2.2.2.2.1, h3.2.2.2.2.2.2.2.1, h3.2.2.2.2.2.2.2.2.1, h3.2.2.2.2.2.2.2.2.2))))) (some (.inr ((h3.2.1, h3.2.2.1, h3.2.2.2.1, h3.2.2.2.2.1, h3.2.2.2.2.2.1, h3.2.2.2.2.2.2.1, h3.2.2.2.2.2.2.2.1, h3.2.2.2.2.2.2.2.2.1, h3.2.2.2.2.2.2.2.2.2)))))) (fun dd h => ∃ (i : Nat) (v' : Va) (xs' : List KT) (lv' : List Vh) (n' : Int) (pk' : List Vh), h = ((i : Int), v'.W, v'.T, mkB v'.key, v'.t, n', xs', v'.log, lv', pk') ∧ i + dd = 30 ∧ VI v' (N + i) ∧ PR v' xs' lv' n' pk' ∧ Later v v')
  (fun e => ∃ (v' : Va) (xs' : List KT) (lv' : List Vh) (n' : Int) (pk' : List Vh), e = (v'.W, v'.T, mkB v'.key, v'.t, n', xs', v'.log, lv', pk') ∧ VI v' (N + 30) ∧ PR v' xs' lv' n' pk' ∧ Later v v') (fun dd h hh => ?_) 30 _ ⟨0, v, xs, lv, n, pk, rfl, rfl, I, R, .refl v⟩ 1000 (by omega)) (fun e hz => ?_)
 ·obtain ⟨i, v', xs', lv', n', pk', rfl, hi, I', R', L⟩ := hh
  have out : ∃ e, (some (Sum.inr (v'.W, v'.T, mkB v'.key, v'.t, n', xs', v'.log, lv', pk')) : Option ((Int × Int × Int × ByteArray × Int × Int × List KT × List Fz × List Vh × List Vh) ⊕ (Int × Int × ByteArray × Int × Int × List KT × List Fz × List Vh × List Vh))) = some (.inr e) ∧ ∃ (v' : Va) (xs' : List KT) (lv' : List Vh) (n' : Int) (pk' : List Vh), e = (v'.W, v'.T, mkB v'.key, v'.t, n', xs', v'.log, lv', pk') ∧ VI v' (N + 30) ∧ PR v' xs' lv' n' pk' ∧ Later v v' :=
   ⟨_, rfl, v', xs', lv', n', pk', rfl, I'.more (by omega), R', L⟩
  dsimp only
  by_cases c1 : (i : Int) < af l
  ·by_cases c2 : i < 30
   ·left
    rw [bE c1, ag, bE (show (i : Int) < 30 by omega), ag, ac ⟨by omega, c1⟩]
    obtain ⟨o, ho⟩ : ∃ o, o = at_ T11 l (i : Int) := ⟨_, rfl⟩
    rw [← ho]
    obtain ⟨q, hq⟩ := Kf o.1.1 o.1.2.1 o.1.2.2.1 o.1.2.2.2.1 o.1.2.2.2.2 o.2.1 o.2.2 v'.t
    obtain ⟨xs2, lv2, n2, pk2, h1, h2⟩ := pD I' (by omega) R' q
    have hk := iC v' q
    have I2 := rZ I' (by omega) q
    rw [hq, Option.bind_some]
    dsimp only
    rw [h1, Option.bind_some, aA (by omega) (by omega)]
    refine ⟨_, dd - 1, rfl, by omega, i + 1, (vdo v' q).2, xs2, lv2, n2, pk2, ?_, by omega, I2, h2, L.trans (DB I' q)⟩
    rw [hk.1, hk.2.1, hk.2.2]
    rfl
   ·right
    rw [bE c1, ag, aZ (show (30 : Int) ≤ (i : Int) by omega), aa]
    exact out
  ·right
   rw [aZ (show af l ≤ (i : Int) by omega), aa]
   exact out
 ·obtain ⟨he, v', xs', lv', n', pk', rfl, h1, h2, h3⟩ := hz
  exact ⟨v', xs', lv', n', pk', he, h1, h2, h3⟩
def qQ (W T : Int) (key : List UInt8) : Va := ⟨W, T, key, 0, [], []⟩
theorem GC {W T : Int} {key : List UInt8} (hW : 1 ≤ W) (hW1 : W ≤ 1125899906842624) (hT : 0 ≤ T) (hT1 : T ≤ 1125899906842624) (hk : key.length ≤ 64) : VI (qQ W T key) 0 :=
 ⟨hW, hW1, hT, hT1, hk, Int.le_refl _, (show (0 : Int) ≤ 1125899906842624 by decide), Nat.zero_le _, fun i j a b _ h => by simp [qQ] at h, fun s hs => by simp [qQ] at hs, fun i s h => by simp [qQ] at h, rfl, fun s hs => by simp [qQ] at hs⟩
theorem GD (W T : Int) (key : List UInt8) : PR (qQ W T key) [] [] 0 [] := ⟨Kids.nil, HF⟩
theorem Ch {W T : Int} {key : List UInt8} (hW : 1 ≤ W) (hW1 : W ≤ 1125899906842624) (hT : 0 ≤ T) (hT1 : T ≤ 1125899906842624) (hk : key.length ≤ 64) : lq 1000 (W, T, mkB key) = some (.inr (W, T, mkB key, 0, [], [], [], 0, [])) := by
 unfold lq
 dsimp only
 rw [aZ hW, aa, iS hW1, aa, aZ hT, aa, iS hT1, aa, iS (show da (mkB key) ≤ 64 by rw [ol]; omega), aa]
abbrev Kh : List UInt8 := [107, 101, 121]
theorem HQ (q : Vector Int 2) (l : List (T11).den) : ∃ v xs lv n pk, mf 1000 (q, l, aj) = some (.inr (v.W, v.T, mkB v.key, v.t, xs, v.log, lv, n, pk)) ∧ VI v 30 ∧ PR v xs lv n pk ∧ Later (qQ (1 + be .i64 (vAt 0 q 0) 63) (be .i64 (vAt 0 q 1) 127) Kh) v := by
 obtain ⟨a0, a1⟩ : 0 ≤ be .i64 (vAt 0 q 0) 63 ∧ be .i64 (vAt 0 q 0) 63 ≤ 63 := rJ (vAt 0 q 0) 63 (by omega)
 obtain ⟨b0, b1⟩ : 0 ≤ be .i64 (vAt 0 q 1) 127 ∧ be .i64 (vAt 0 q 1) 127 ≤ 127 := rJ (vAt 0 q 1) 127 (by omega)
 obtain ⟨w, hw⟩ : ∃ w, w = be .i64 (vAt 0 q 0) 63 := ⟨_, rfl⟩
 obtain ⟨T, hT⟩ : ∃ T, T = be .i64 (vAt 0 q 1) 127 := ⟨_, rfl⟩
 rw [← hw] at a0 a1 ⊢
 rw [← hT] at b0 b1 ⊢
 have I0 : VI (qQ (1 + w) T Kh) 0 := GC (by omega) (by omega) (by omega) (by omega) (by decide)
 obtain ⟨v', xs', lv', n', pk', h1, h2, h3, h4⟩ := Kg l I0 (by omega) (GD _ _ _)
 refine ⟨v', xs', lv', n', pk', ?_, h2, h3, h4⟩
 unfold mf
 dsimp only
 rw [ac ⟨by omega, by omega⟩, ac ⟨by omega, by omega⟩, ← hw, ← hT, aA (by omega) (by omega)]
 refine ak (Ch (W := 1 + w) (T := T) (key := Kh) (by omega) (by omega) b0 (by omega) (by decide)) ?_
 rw [au]
 dsimp only
 exact ak h1 rfl
theorem GE : kA 1000 aj = some true := by
 obtain ⟨v0, e0⟩ : ∃ v, v = qQ 10 5 [107] := ⟨_, rfl⟩
 have I0 : VI v0 0 := by rw [e0]; exact GC (by decide) (by decide) (by decide) (by decide) (by decide)
 have R0 : PR v0 [] [] 0 [] := by rw [e0]; exact GD _ _ _
 obtain ⟨x1, l1, n1, p1, h1, R1⟩ := pD I0 (by decide) R0 ⟨1, 0, 0, 0, ⟨#[97]⟩⟩
 have I1 := rZ I0 (by decide) ⟨1, 0, 0, 0, ⟨#[97]⟩⟩
 have k1 := iC v0 ⟨1, 0, 0, 0, ⟨#[97]⟩⟩
 obtain ⟨a1, f1⟩ : ∃ r, r = vdo v0 ⟨1, 0, 0, 0, ⟨#[97]⟩⟩ := ⟨_, rfl⟩
 rw [← f1] at h1 R1 I1 k1
 obtain ⟨x2, l2, n2, p2, h2, R2⟩ := pD I1 (by decide) R1 ⟨5, 10, 0, 0, aI⟩
 have I2 := rZ I1 (by decide) ⟨5, 10, 0, 0, aI⟩
 have k2 := iC a1.2 ⟨5, 10, 0, 0, aI⟩
 obtain ⟨a2, f2⟩ : ∃ r, r = vdo a1.2 ⟨5, 10, 0, 0, aI⟩ := ⟨_, rfl⟩
 rw [← f2] at h2 R2 I2 k2
 obtain ⟨x3, l3, n3, p3, h3, R3⟩ := pD I2 (by decide) R2 ⟨4, 0, 0, 0, aI⟩
 have I3 := rZ I2 (by decide) ⟨4, 0, 0, 0, aI⟩
 have k3 := iC a2.2 ⟨4, 0, 0, 0, aI⟩
 obtain ⟨a3, f3⟩ : ∃ r, r = vdo a2.2 ⟨4, 0, 0, 0, aI⟩ := ⟨_, rfl⟩
 rw [← f3] at h3 R3 I3 k3
 obtain ⟨x4, l4, n4, p4, h4, R4⟩ := pD I3 (by decide) R3 ⟨5, 15, 0, 0, aI⟩
 have I4 := rZ I3 (by decide) ⟨5, 15, 0, 0, aI⟩
 have k4 := iC a3.2 ⟨5, 15, 0, 0, aI⟩
 obtain ⟨a4, f4⟩ : ∃ r, r = vdo a3.2 ⟨5, 15, 0, 0, aI⟩ := ⟨_, rfl⟩
 rw [← f4] at h4 R4 I4 k4
 obtain ⟨x5, l5, n5, p5, h5, R5⟩ := pD I4 (by decide) R4 ⟨6, 0, 0, 0, aI⟩
 have I5 := rZ I4 (by decide) ⟨6, 0, 0, 0, aI⟩
 have k5 := iC a4.2 ⟨6, 0, 0, 0, aI⟩
 obtain ⟨a5, f5⟩ : ∃ r, r = vdo a4.2 ⟨6, 0, 0, 0, aI⟩ := ⟨_, rfl⟩
 rw [← f5] at h5 R5 I5 k5
 obtain ⟨x6, l6, n6, p6, h6, R6⟩ := pD I5 (by decide) R5 ⟨2, 0, 0, 0, aI⟩
 obtain ⟨a6, f6⟩ : ∃ r, r = vdo a5.2 ⟨2, 0, 0, 0, aI⟩ := ⟨_, rfl⟩
 rw [← f6] at h6
 have g1 : a1.1.err = 0 ∧ a1.1.n = 0 ∧ a1.1.m = 0 := by rw [f1, e0]; decide
 have g2 : a2.1.err = 0 := by rw [f2, f1, e0]; decide
 have g3 : a3.1.hd.1 = 1 := by rw [f3, f2, f1, e0]; decide
 have g4 : a4.1.err = 0 := by rw [f4, f3, f2, f1, e0]; decide
 have g5 : a5.1.n = 0 ∧ a5.1.m = 1 := by rw [f5, f4, f3, f2, f1, e0]; decide
 have g6 : a6.1.err = 20 := by rw [f6, f5, f4, f3, f2, f1, e0]; decide
 have z0 : v0.W = 10 ∧ v0.T = 5 ∧ v0.key = [107] ∧ v0.t = 0 ∧ v0.log = [] := by rw [e0]; exact ⟨rfl, rfl, rfl, rfl, rfl⟩
 rw [z0.1, z0.2.1, z0.2.2.1, z0.2.2.2.1, z0.2.2.2.2] at h1
 unfold kA
 refine ak (Ch (W := 10) (T := 5) (key := [107]) (by decide) (by decide) (by decide) (by decide) (by decide)) ?_
 rw [au]
 dsimp only
 refine ak h1 ?_
 dsimp only [Told.tup]
 rw [k1.1, k1.2.1, k1.2.2, z0.1, z0.2.1, z0.2.2.1] at h2
 refine ak h2 ?_
 dsimp only [Told.tup]
 rw [k2.1, k2.2.1, k2.2.2, k1.1, k1.2.1, k1.2.2, z0.1, z0.2.1, z0.2.2.1] at h3
 refine ak h3 ?_
 dsimp only [Told.tup]
 rw [k3.1, k3.2.1, k3.2.2, k2.1, k2.2.1, k2.2.2, k1.1, k1.2.1, k1.2.2, z0.1, z0.2.1, z0.2.2.1] at h4
 refine ak h4 ?_
 dsimp only [Told.tup]
 rw [k4.1, k4.2.1, k4.2.2, k3.1, k3.2.1, k3.2.2, k2.1, k2.2.1, k2.2.2, k1.1, k1.2.1, k1.2.2, z0.1, z0.2.1, z0.2.2.1] at h5
 refine ak h5 ?_
 dsimp only [Told.tup]
 rw [k5.1, k5.2.1, k5.2.2, k4.1, k4.2.1, k4.2.2, k3.1, k3.2.1, k3.2.2, k2.1, k2.2.1, k2.2.2, k1.1, k1.2.1, k1.2.2, z0.1, z0.2.1, z0.2.2.1] at h6
 refine ak h6 ?_
 dsimp only [Told.tup]
 rw [g1.1, g1.2.1, g1.2.2, g2, g3, g4, g5.1, g5.2, g6]
 rfl
theorem Le {v : Va} {N : Nat} {xs : List KT} {lv : List Vh} {n : Int} {pk : List Vh} (I : VI v N) (hN : N ≤ 500) (R : PR v xs lv n pk) (q : Ask) (hN1 : q.op = 1 → N ≤ 59) :
 ∃ xs' lv' n' pk', aL 1000 (q.op, q.a, q.b, q.c, q.data, v.W, v.T, mkB v.key, v.t, aj, xs, v.log, lv, n, pk) =
  some ((vdo v q).1.tup ((vdo v q).2.W, (vdo v q).2.T, mkB (vdo v q).2.key, (vdo v q).2.t, n', (vdo v q).1.path, (vdo v q).1.cp, (vdo v q).1.cs, xs', (vdo v q).2.log, lv', pk')) ∧ PR (vdo v q).2 xs' lv' n' pk' := by
 obtain ⟨a, b, c, d, h, r⟩ := Cg I hN R q hN1
 obtain ⟨k1, k2, k3⟩ := iC v q
 exact ⟨a, b, c, d, by rw [k1, k2, k3]; exact h, r⟩
theorem HR {j k : Nat} {ps l : List Vh} (h : Stk j k ps l) : ps.length ≤ k := by
 induction h with
 | zero j => simp
 | @even j k ps l _ ih => omega
 | @odd j k ps l1 l2 h2 _ ih => rw [List.length_cons]; omega
theorem GF (s : Sh) {pk1 : List Vh} (hst : Stk 0 s.recs.length pk1.reverse s.lv) (hl : s.recs.length ≤ 500) (e : Nat → Nat) :
 fp 1000 (s.w, s.st, s.sn.1, s.sn.2.1, s.sn.2.2.1, s.sn.2.2.2.1, s.sn.2.2.2.2, s.lv, s.recs.take s.left, (s.recs.length : Int), pk1) = some (s.kid pk1) := by
 have h1 : s.lv.length ≤ 500 := by rw [dh]; omega
 have h2 := HR hst
 rw [List.length_reverse] at h2
 have h3 := vi pk1 (by omega)
 have h4 : iz 1000 ((s.recs.length : Int), pk1) = some ((s.recs.length : Int), pk1) := ak h3 rfl
 exact ak (vi s.lv (by omega)) (ak (wI (s.recs.take s.left) (by rw [List.length_take]; omega)) (ak h4 rfl))
theorem Kids.nth {ss : List Sh} {xs : List KT} (K : Kids ss xs) {i : Nat} (h : i < xs.length) : ∃ s pk, ss[i]? = some s ∧ at_ T3 xs (i : Int) = s.kid pk ∧ xs[i]? = some (s.kid pk) ∧ Stk 0 s.recs.length pk.reverse s.lv := by
 have hi : i < ss.length := by rw [← K.len]; exact h
 have hs : ss[i]? = some ss[i] := List.getElem?_eq_getElem hi
 obtain ⟨pk, h1, h2⟩ := K.g i _ hs
 obtain ⟨pk', h3, h4⟩ := K.get hs
 have : ss[i].kid pk' = ss[i].kid pk := by
  rw [← h3, cD (t := T3) h]
  exact Option.some.inj ((List.getElem?_eq_getElem h).symm.trans h1)
 exact ⟨_, pk, hs, by rw [h3, this], h1, h2⟩
theorem wR {v : Va} {N : Nat} {xs : List KT} (I : VI v N) (hN : N ≤ 500) (K : Kids v.shs xs) (a b : Int) (c : ByteArray) (d : Int) (e : List Fz) (f : List Vh) (g : Int) (h : List Vh) : cC 1000 (a, b, c, d, xs, e, f, g, h) = some xs := by
 have few : xs.length ≤ 14 := by rw [K.len]; exact I.few
 unfold cC
 dsimp only
 obtain ⟨z, hz, rfl⟩ : ∃ z, (aP (H := Int × (List KT)) (E := (List KT)) 1000 (fun h0 => ai (ilt h0.1 (af xs)) (ae ((inR h0.1 (af xs))) (ae ((inR h0.1 (af xs))) (ae ((inR h0.1 (af xs))) ((fp 1000 ((at_ T3 xs h0.1).1, (at_ T3 xs h0.1).2.1, (at_ T3 xs h0.1).2.2.1, (at_ T3 xs h0.1).2.2.2.1, (at_ T3 xs h0.1).2.2.2.2.1, (at_ T3 xs h0.1).2.2.2.2.2.1, (at_ T3 xs h0.1).2.2.2.2.2.2.1, (at_ T3 xs h0.1).2.2.2.2.2.2.2.1, (at_ T3 xs h0.1).2.2.2.2.2.2.2.2.1, (at_ T3 xs h0.1).2.2.2.2.2.2.2.2.2.1, (at_ T3 xs h0.1).2.2.2.2.2.2.2.2.2.2)).bind fun r1 => ae ((AX h0.2 (xx (r1.1, r1.2.1, r1.2.2.1, r1.2.2.2.1, r1.2.2.2.2.1, r1.2.2.2.2.2.1, r1.2.2.2.2.2.2.1, r1.2.2.2.2.2.2.2.1, r1.2.2.2.2.2.2.2.2.1, r1.2.2.2.2.2.2.2.2.2.1, r1.2.2.2.2.2.2.2.2.2.2)) 8)) (some (.inl (((WK .i64 (h0.1 + 1)), (h0.2 ++ (xx (r1.1, r1.2.1, r1.2.2.1, r1.2.2.2.1, r1.2.2.2.2.1, r1.2.2.2.2.2.1, r1.2.2.2.2.2.2.1, r1.2.2.2.2.2.2.2.1, r1.2.2.2.2.2.2.2.2.1, r1.2.2.2.2.2.2.2.2.2.1, r1.2.2.2.2.2.2.2.2.2.2))))))))))) (some (.inr (h0.2)))) ((0, ([] : List KT)))) = some z ∧ z = xs := by
  refine lx (fun dd h => ∃ i : Nat, h = ((i : Int), xs.take i) ∧ i + dd = xs.length) (fun z => z = xs) (fun dd h ⟨i, hh, hi⟩ => ?_) xs.length _ ⟨0, rfl, by omega⟩ 1000 (by omega)
  subst hh
  dsimp only
  by_cases c1 : i < xs.length
  ·left
   have c2 : (i : Int) < af xs := by unfold af; omega
   obtain ⟨s, pk, h1, h2, h3, h4⟩ := K.nth c1
   have := I.sz s (List.mem_of_getElem? h1)
   rw [bE c2, ag, ac ⟨by omega, c2⟩, ac ⟨by omega, c2⟩, ac ⟨by omega, c2⟩, h2]
   refine ⟨((i : Int) + 1, xs.take (i + 1)), dd - 1, ?_, by omega, i + 1, rfl, by omega⟩
   refine ak (GF s h4 (by omega) id) ?_
   rw [ac (show AX (xs.take i) _ 8 from ⟨by simp [xx, List.length_take]; omega, fun h => by simp at h⟩), aA (by omega) (by omega)]
   rw [List.take_add_one, h3]
   rfl
  ·right
   rw [aZ (show af xs ≤ (i : Int) by unfold af; omega), aa]
   exact ⟨_, rfl, List.take_of_length_le (by omega)⟩
 exact ak hz rfl
structure TOk (o : Told) : Prop where
 a : o.path.length ≤ 900
 b : o.cp.length ≤ 900
 c : o.cs.length ≤ 900
theorem Goes.go {H E S : Type} {I : Nat → H → Prop} {Q : E → Prop} {n : Nat} {o : Option S} {f : S → Option (H ⊕ E)} {s : S} (h : o = some s) (hf : Goes I Q n (f s)) : Goes I Q n (o.bind f) := by
 rw [h]; exact hf
theorem Goes.grd {H E : Type} {I : Nat → H → Prop} {Q : E → Prop} {n : Nat} {p : Prop} [Decidable p] {o : Option (H ⊕ E)} (h : p) (hf : Goes I Q n o) : Goes I Q n (ae p o) := by
 rw [ac h]; exact hf
theorem Goes.yes {H E : Type} {I : Nat → H → Prop} {Q : E → Prop} {n : Nat} {b : Bool} {o u : Option (H ⊕ E)} (h : b = true) (hf : Goes I Q n o) : Goes I Q n (ai b o u) := by
 rw [h, ag]; exact hf
theorem Goes.no {H E : Type} {I : Nat → H → Prop} {Q : E → Prop} {n : Nat} {b : Bool} {o u : Option (H ⊕ E)} (h : b = false) (hf : Goes I Q n u) : Goes I Q n (ai b o u) := by
 rw [h, aa]; exact hf
theorem Goes.same {H E : Type} {I : Nat → H → Prop} {Q : E → Prop} {n : Nat} {o : Option (H ⊕ E)} (hf : Goes I Q n o) : Goes I Q n (tM (tM o o) o) := by
 rw [tN, tN]; exact hf
def Held (v : Va) (l : List Rec) : Prop := ∀ r ∈ l, ∃ (i j : Nat) (s : Sh), v.shs[i]? = some s ∧ s.recs[j]? = some r
theorem Held.later {v v' : Va} {l : List Rec} (h : Held v l) (L : Later v v') : Held v' l := by
 intro r hr
 obtain ⟨i, j, s, h1, h2⟩ := h r hr
 obtain ⟨s', h3, h4⟩ := L.shs i s h1
 obtain ⟨q, hq⟩ := h4.recs
 exact ⟨i, j, s', h3, by rw [hq, List.getElem?_append_left (List.getElem?_eq_some_iff.1 h2).1]; exact h2⟩
theorem Held.app {v : Va} {l m : List Rec} (h : Held v l) (k : Held v m) : Held v (l ++ m) := by
 intro r hr
 rcases List.mem_append.1 hr with c | c
 ·exact h r c
 ·exact k r c
theorem HS {w W : Int} (h0 : 0 ≤ w) (h1 : w ≤ 1125899906842624) (hW : 1 ≤ W) (hW2 : W ≤ 1125899906842624) : oe 1000 (w, W) = some (lz w W) := by
 unfold oe
 dsimp only
 rw [ec h0, ag, iR h1, Bool.not_true, aa, aA (by omega) (by omega)]
 unfold mb
 dsimp only
 rw [ec (by omega), ag, iR hW2, Bool.not_true, aa, cG (by omega), aa, ac (show nz W by show W ≠ 0; omega), wN hW]
 unfold lz
 by_cases h : (w + 1) * W ≤ 1125899906842624
 ·rw [iS ((xP hW).2 h), aa, if_pos h, wM (by omega) hW h]; rfl
 ·rw [ms (by have := mt (xP hW).1 h; omega), ag, if_neg h]; rfl
theorem HT {w W T : Int} (h0 : 0 ≤ w) (h1 : w ≤ 1125899906842624) (hW : 1 ≤ W) (hW2 : W ≤ 1125899906842624) (hT : 0 ≤ T) (hT2 : T ≤ 1125899906842624) : og 1000 (w, W, T) = some (xQ w W T) := by
 unfold og
 dsimp only
 obtain ⟨n1, n2⟩ := Cd h0 hW
 rw [HS h0 h1 hW hW2, Option.bind_some, ec hT, iR hT2]
 unfold xQ
 cases (lz w W).2 with
 | false => rfl
 | true =>
   simp only [Bool.not_true, aa, ag, true_and]
   rw [aA (by omega) (by omega)]
   by_cases h : (lz w W).1 + T ≤ 1125899906842624
   ·rw [iS h, if_pos h]; rfl
   ·rw [ms (by omega), if_neg h]; rfl
theorem zT {w W T t : Int} (h0 : 0 ≤ w) (h1 : w ≤ 1125899906842624) (hW : 1 ≤ W) (hW2 : W ≤ 1125899906842624) (hT : 0 ≤ T) (hT2 : T ≤ 1125899906842624) (ht : 0 ≤ t) (ht2 : t ≤ 1125899906842624) : dG 1000 (w, W, T, t) = some (qM w W T t) := by
 unfold dG
 dsimp only
 rw [HT h0 h1 hW hW2 hT hT2, Option.bind_some, ec ht, iR ht2]
 unfold qM
 cases (xQ w W T).2 <;> rfl
end Go.Proofs.YtlepjakmadlkjaaGreatDoor
