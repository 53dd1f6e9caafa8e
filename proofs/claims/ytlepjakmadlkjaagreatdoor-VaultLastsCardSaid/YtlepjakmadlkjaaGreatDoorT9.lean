/- Texts of the proof, put together: part 9. No condition. -/
import Derived.Test.YtlepjakmadlkjaaGreatDoorT8
set_option linter.unusedVariables false
set_option linter.unusedSimpArgs false
namespace Go.Proofs.YtlepjakmadlkjaaGreatDoor
open Go
def ab : List Vh → List Vh
 | a :: b :: r => ov a b :: ab r
 | [x] => [x]
 | [] => []
theorem mP : ∀ l : List Vh, (ab l).length = (l.length + 1) / 2
 | [] => by simp [ab]
 | [_] => by simp [ab]
 | a :: b :: r => by simp only [ab, List.length_cons, mP r]; omega
theorem GK : ∀ (l : List Vh) (i : Nat) (h : 2 * i + 1 < l.length), (ab l)[i]'(by rw [mP]; omega) = ov l[2 * i] l[2 * i + 1]
 | [], i, h => by simp at h
 | [_], i, h => by simp at h
 | a :: b :: r, 0, h => rfl
 | a :: b :: r, i + 1, h => by
   have := GK r i (by simp at h; omega)
   simpa [ab, Nat.mul_add] using this
theorem Cw : ∀ (l : List Vh) (h : l.length % 2 = 1), ab l = (ab l).take (l.length / 2) ++ [l[l.length - 1]'(by omega)]
 | [], h => by simp at h
 | [x], h => by simp [ab]
 | a :: b :: r, h => by
   have hr : r.length % 2 = 1 := by simp at h; omega
   have := Cw r hr
   have e : (a :: b :: r).length / 2 = r.length / 2 + 1 := by simp; omega
   rw [e]
   simp only [ab, List.take_succ_cons, List.cons_append, List.cons.injEq, true_and]
   rw [this]
   congr 1
   ·rw [List.take_append_of_le_length (by rw [List.length_take, mP]; omega), List.take_take, Nat.min_self]
   ·have h1 : (a :: b :: r).length - 1 = (r.length - 1) + 1 + 1 := by simp; omega
    simp only [h1, List.getElem_cons_succ]
theorem GL : ∀ (l r : List Vh), l.length % 2 = 0 → ab (l ++ r) = ab l ++ ab r
 | [], r, _ => rfl
 | [_], r, h => by simp at h
 | a :: b :: l, r, h => by
   simp only [ab, List.cons_append]
   rw [GL l r (by simp at h; omega)]
theorem LO : ∀ (d : Nat) (l : List Vh), 2 ≤ l.length → l.length ≤ 2 ^ (d + 1) → rt (d + 1) l = rt d (ab l) := by
 intro d
 induction d with
 | zero =>
   intro l h1 h2
   match l, h1, h2 with
   | [a, b], _, _ => rfl
   | a :: b :: c :: r, _, h2 => simp at h2 <;> omega
 | succ d ih =>
   intro l h1 h2
   by_cases h3 : l.length = 2
   ·match l, h3 with
    | [a, b], _ =>
      have e2 : sp [a, b].length = 1 := rfl
      rw [su (by simp), cJ (l := ab [a, b]) (by simp [ab]), e2, cJ (l := [a, b].take 1) (by simp), cJ (l := [a, b].drop 1) (by simp)]
      rfl
   ·obtain ⟨a1, a2, a3⟩ := ii (n := l.length) h1
    have a4 := xc (n := l.length) (d := d + 1) h1 h2
    obtain ⟨j, hj⟩ : ∃ j, sp l.length = 2 ^ j := ⟨_, rfl⟩
    have hj0 : j ≠ 0 := by
     rintro rfl
     rw [Nat.pow_zero] at hj
     omega
    obtain ⟨j, rfl⟩ : ∃ i, j = i + 1 := ⟨j - 1, by omega⟩
    rw [Nat.pow_succ] at hj
    have hpd : 2 ^ (d + 1) = 2 * 2 ^ d := by rw [Nat.pow_succ, Nat.mul_comm]
    have hs : sp ((ab l).length) = 2 ^ j := by
     rw [mP]
     apply xe
     ·omega
     ·rw [Nat.pow_succ]; omega
    have hl : (ab l).length = (l.length + 1) / 2 := mP l
    have e : ab l = ab (l.take (2 ^ j * 2)) ++ ab (l.drop (2 ^ j * 2)) := by
     rw [← GL _ _ (by rw [List.length_take]; omega), List.take_append_drop]
    have et : (ab l).take (2 ^ j) = ab (l.take (2 ^ j * 2)) := by
     rw [e, List.take_left']
     rw [mP, List.length_take]; omega
    have ed : (ab l).drop (2 ^ j) = ab (l.drop (2 ^ j * 2)) := by
     rw [e, List.drop_left']
     rw [mP, List.length_take]; omega
    rw [su h1, su (l := ab l) (d := d) (by omega), hs, hj, et, ed]
    congr 1
    ·exact ih _ (by rw [List.length_take]; omega) (by rw [List.length_take]; omega)
    ·by_cases h5 : (l.drop (2 ^ j * 2)).length = 1
     ·obtain ⟨x, hx⟩ := List.length_eq_one_iff.1 h5
      rw [hx, cJ (by simp), cJ (by simp [ab])]
      rfl
     ·rw [List.length_drop] at h5
      exact ih _ (by rw [List.length_drop]; omega) (by rw [List.length_drop]; omega)
theorem GM (l : List Vh) (hl : l.length ≤ 900) : my 1000 (l, ak) = some (ab l) := by
 have h0 := mP l
 unfold my
 dsimp only
 refine (aa (by decide)).trans ?_
 have ed : WK .i64 (Int.tdiv (ae l) 2) = ((l.length / 2 : Nat) : Int) := by
  show WK .i64 ((l.length / 2 : Nat) : Int) = _
  exact qg (by omega)
 rw [ed]
 refine aj (bS (fun i : Nat => ((i : Int), (ab l).take i)) (l.length / 2) ((ab l).take (l.length / 2)) 1000 (fun i hi => ?_) ?_ (by omega)) ?_
 ·dsimp only
  refine (congrArg (ai · _ _) (be (by omega))).trans ((ag _ _).trans ?_)
  have e1 : WK .i64 (2 * (i : Int)) = ((2 * i : Nat) : Int) := by rw [av (by omega) (by omega)]; omega
  have e2 : WK .i64 (((2 * i : Nat) : Int) + 1) = ((2 * i + 1 : Nat) : Int) := by rw [av (by omega) (by omega)]; omega
  have e3 : at_ T1 l ((2 * i : Nat) : Int) = l[2 * i] := bL (t := T1) (by omega)
  have e4 : at_ T1 l ((2 * i + 1 : Nat) : Int) = l[2 * i + 1] := bL (t := T1) (by omega)
  rw [e1, e2, e3, e4]
  refine (aa ⟨by omega, by unfold ae; omega⟩).trans ((aa ⟨by omega, by unfold ae; omega⟩).trans ?_)
  refine (aa (lW _)).trans ((aa (lX _ _)).trans (aj (vy _ _) ?_))
  refine (aa (show bc _ _ _ from by unfold bc; simp; omega)).trans ?_
  rw [av (x := (i : Int) + 1) (by omega) (by omega), List.take_add_one, List.getElem?_eq_getElem (by omega), GK l i (by omega)]
  rfl
 ·dsimp only
  exact (congrArg (ai · _ _) (aM (by omega))).trans (ac _ _)
 ·have key : (af ((nz 2)) (ai (ieq (Int.tmod (ae l) 2) 1) (af ((inR (WK .i64 ((ae l) - 1)) (ae l))) (af ((bc ((ab l).take (l.length / 2)) ([(at_ T1 l (WK .i64 ((ae l) - 1)))] : List Vh) 32)) (some ((((ab l).take (l.length / 2)) ++ ([(at_ T1 l (WK .i64 ((ae l) - 1)))] : List Vh)))))) (some ((ab l).take (l.length / 2)))) : Option (List Vh)) = some (ab l) := by
   refine (aa (by decide)).trans ?_
   have em : Int.tmod (ae l) 2 = ((l.length % 2 : Nat) : Int) := rfl
   rw [em]
   by_cases h1 : l.length % 2 = 1
   ·refine (congrArg (ai · _ _) (cu (by omega))).trans ((ag _ _).trans ?_)
    have e1 : WK .i64 (ae l - 1) = ((l.length - 1 : Nat) : Int) := by rw [av (by unfold ae; omega) (by unfold ae; omega)]; unfold ae; omega
    have e2 : at_ T1 l ((l.length - 1 : Nat) : Int) = l[l.length - 1] := bL (t := T1) (by omega)
    rw [e1, e2]
    refine (aa ⟨by omega, by unfold ae; omega⟩).trans ((aa (show bc _ _ _ from by unfold bc; simp; omega)).trans ?_)
    exact congrArg some (Cw l h1).symm
   ·refine (congrArg (ai · _ _) (cU (by omega))).trans ((ac _ _).trans ?_)
    rw [List.take_of_length_le (by omega)]
  exact aj key rfl
theorem GN (l : List Vh) (h : l.length ≤ 900) : cT 1000 l = some l := by
 have hb : l.length * 32 ≤ 140737488355328 := by omega
 exact aa hb
theorem Ij {d : Nat} (l : List Vh) (h : l.length ≤ 2 ^ d) (hd : d ≤ 9) : iy 1000 (l, ak) = some (rt d l) := by
 have hb : l.length ≤ 512 := Nat.le_trans h (Nat.le_trans (Nat.pow_le_pow_right (by omega) hd) (by decide))
 unfold iy
 dsimp only
 by_cases h0 : l.length = 0
 ·have : l = [] := List.eq_nil_of_length_eq_zero h0
  subst this
  refine (congrArg (ai · _ _) (cu (by simp))).trans ((ag _ _).trans ?_)
  refine aj (qj [] (by simp) (by simp)) ?_
  rw [cJ (by simp)]; rfl
 ·refine (congrArg (ai · _ _) (cU (by unfold ae; omega))).trans ((ac _ _).trans ?_)
  have hL : ∃ r, kM 1000 (l, ak) = some r ∧ ∃ o, r = o ++ [[rt d l]] ∧ o.length ≤ 30 := by
   unfold kM
   dsimp only
   rw [GN l (by omega), Option.bind_some]
   refine mN (fun e h => ∃ (row : List Vh) (o : List (List Vh)), h = (row, o ++ [row]) ∧ row.length ≤ 2 ^ e ∧ row ≠ [] ∧ rt e row = rt d l ∧ o.length + e ≤ d ∧ row.length ≤ 900) (fun e => ∃ o, e = o ++ [[rt d l]] ∧ o.length ≤ 30) d (by omega) ⟨l, [], rfl, h, by intro e; subst e; exact h0 rfl, rfl, by simp, by omega⟩ ?_ (fun e he => ⟨e, rfl, he⟩)
   rintro e _ ⟨row, o, rfl, r1, r2, r3, r4, r5⟩
   dsimp only
   by_cases a : row.length < 2
   ·refine (congrArg (fun b => Goes _ _ _ (ai b _ _)) (be (a := ae row) (b := 2) (by unfold ae; omega))).mpr ?_
    rw [ag]
    refine .out ⟨o, ?_, by omega⟩
    have h1 : row.length = 1 := by
     have : row.length ≠ 0 := fun e => r2 (List.eq_nil_of_length_eq_zero e)
     omega
    obtain ⟨x, rfl⟩ := List.length_eq_one_iff.1 h1
    rw [cJ (by simp)] at r3
    rw [← r3]; rfl
   ·refine (congrArg (fun b => Goes _ _ _ (ai b _ _)) (aM (a := ae row) (b := 2) (by unfold ae; omega))).mpr ?_
    obtain ⟨e, rfl⟩ := qk (n := row.length) (by omega) r1
    have hal := mP row
    rw [ac, GM row r5, Option.bind_some, aa (show bc _ _ _ from by unfold bc; simp; omega)]
    have hpd : 2 ^ (e + 1) = 2 * 2 ^ e := by rw [Nat.pow_succ, Nat.mul_comm]
    exact .on e (by omega) ⟨ab row, o ++ [row], by simp, by omega, by intro h; rw [h] at hal; simp at hal; omega, by rw [← LO e row (by omega) r1]; exact r3, by simp; omega, by omega⟩
  obtain ⟨_, hL, o, rfl, ho⟩ := hL
  refine aj hL ?_
  have e1 : WK .i64 (ae (o ++ [[rt d l]]) - 1) = ((o.length : Nat) : Int) := by
   rw [show ae (o ++ [[rt d l]]) = (o.length : Int) + 1 by unfold ae; simp]
   rw [av (by omega) (by omega)]; omega
  have e2 : at_ T9 (o ++ [[rt d l]]) ((o.length : Nat) : Int) = [rt d l] := by
   rw [bL (t := T9) (by simp)]; simp
  have e3 : ae (o ++ [[rt d l]]) = (o.length : Int) + 1 := by unfold ae; simp
  rw [e1, e2, e3]
  exact (aa ⟨by omega, by omega⟩).trans ((aa ⟨by decide, by show (0 : Int) < 1; decide⟩).trans rfl)
end Go.Proofs.YtlepjakmadlkjaaGreatDoor
namespace Go.Proofs.YtlepjakmadlkjaaGreatDoor
open Go
theorem Bs (l : List Vh) (hl : l.length ≤ 900) : gZ 1000 l = some l.reverse := by
 unfold gZ
 refine fx (fun d h => ∃ (t : Nat) (L : List Vh), h = ((t : Int), (l.length : Int) - 1 - (t : Int), L) ∧ d = l.length - t ∧ t ≤ l.length ∧ L.length = l.length ∧ ∀ j, j < l.length → L[j]? = if j < t ∨ l.length - t ≤ j then l[l.length - 1 - j]? else l[j]?) (fun e => e = l.reverse) l.length (by omega)
  ⟨0, l, by rw [av (by unfold ae; omega) (by unfold ae; omega)]; unfold ae; simp, by omega, by omega, rfl, fun j hj => by rw [if_neg (by omega)]⟩ ?_ (fun e he => by rw [he])
 rintro d _ ⟨t, L, rfl, hd, ht, hL, hj⟩
 dsimp only
 by_cases a : (t : Int) < (l.length : Int) - 1 - (t : Int)
 ·have e0 : (l.length : Int) - 1 - (t : Int) = ((l.length - 1 - t : Nat) : Int) := by omega
  rw [be a, ag, e0]
  rw [aa ⟨by omega, by unfold ae; omega⟩, aa ⟨by omega, by unfold ae; omega⟩, aa ⟨by omega, by unfold ae; omega⟩, aa ⟨by omega, by unfold ae; rw [List.length_set]; omega⟩]
  have e1 : WK .i64 ((t : Int) + 1) = ((t + 1 : Nat) : Int) := by rw [av (by omega) (by omega)]; omega
  have e2 : WK .i64 (((l.length - 1 - t : Nat) : Int) - 1) = (l.length : Int) - 1 - ((t + 1 : Nat) : Int) := by rw [av (by omega) (by omega)]; omega
  have e3 : at_ T1 L ((l.length - 1 - t : Nat) : Int) = L[l.length - 1 - t] := bL (t := T1) (by omega)
  have e4 : at_ T1 L (t : Int) = L[t] := bL (t := T1) (by omega)
  rw [e1, e2, e3, e4]
  unfold bA
  rw [Int.toNat_natCast, Int.toNat_natCast]
  refine .on (l.length - (t + 1)) (by omega) ⟨t + 1, _, rfl, rfl, by omega, by simp [hL], fun j hjl => ?_⟩
  have g1 := hj t (by omega)
  have g2 := hj (l.length - 1 - t) (by omega)
  rw [if_neg (by omega), List.getElem?_eq_getElem (by omega)] at g1 g2
  rw [List.getElem?_set, List.getElem?_set]
  simp only [List.length_set]
  by_cases b1 : l.length - 1 - t = j
  ·rw [if_pos b1, if_pos (by omega), if_pos (by omega), g1]
   congr 1; omega
  ·rw [if_neg b1]
   by_cases b2 : t = j
   ·rw [if_pos b2, if_pos (by omega), if_pos (by omega), g2]
    congr 1; omega
   ·rw [if_neg b2, hj j hjl]
    by_cases b3 : j < t ∨ l.length - t ≤ j
    ·rw [if_pos b3, if_pos (by omega)]
    ·rw [if_neg b3, if_neg (by omega)]
 ·rw [aM (by omega), ac]
  refine .out ?_
  apply List.ext_getElem?
  intro j
  by_cases b : j < l.length
  ·rw [hj j b, List.getElem?_reverse b]
   split
   ·rfl
   ·congr 1; omega
  ·rw [List.getElem?_eq_none (by omega), List.getElem?_eq_none (by simp; omega)]
theorem Bt (l : List Vh) (h : l.length ≤ 512) : iy 1000 (l, ak) = some (rt 40 l) := by
 rw [Ij (d := 9) l (by simpa using h) (by omega), mO 9 l (by simpa using h) 40 (by omega)]
def pth (w : Bool) : Nat → Nat → List Vh → List Vh
 | 0, _, _ => []
 | d + 1, m, l => if l.length < 2 ∨ (w = true ∧ m = l.length) then [] else
   if m < sp l.length ∨ (w = true ∧ m = sp l.length) then pth w d m (l.take (sp l.length)) ++ [rt 40 (l.drop (sp l.length))] else pth w d (m - sp l.length) (l.drop (sp l.length)) ++ [rt 40 (l.take (sp l.length))]
theorem Ik {w : Bool} {m : Nat} {l : List Vh} (h : l.length < 2 ∨ (w = true ∧ m = l.length)) (d : Nat) : pth w d m l = [] := by
 cases d with
 | zero => rfl
 | succ d => rw [pth, if_pos h]
theorem vz {w : Bool} {d m : Nat} {l : List Vh} (a : ¬ (l.length < 2 ∨ (w = true ∧ m = l.length))) (b : m < sp l.length ∨ (w = true ∧ m = sp l.length)) : pth w (d + 1) m l = pth w d m (l.take (sp l.length)) ++ [rt 40 (l.drop (sp l.length))] := by
 rw [pth, if_neg a, if_pos b]
theorem sB {w : Bool} {d m : Nat} {l : List Vh} (a : ¬ (l.length < 2 ∨ (w = true ∧ m = l.length))) (b : ¬ (m < sp l.length ∨ (w = true ∧ m = sp l.length))) : pth w (d + 1) m l = pth w d (m - sp l.length) (l.drop (sp l.length)) ++ [rt 40 (l.take (sp l.length))] := by
 rw [pth, if_neg a, if_neg b]
theorem iR (w : Bool) : ∀ d m (l : List Vh), (pth w d m l).length = (stp w d m l.length).length
 | 0, _, _ => rfl
 | d + 1, m, l => by
   by_cases a : l.length < 2 ∨ (w = true ∧ m = l.length)
   ·rw [Ik a, oT a]; rfl
   ·by_cases b : m < sp l.length ∨ (w = true ∧ m = sp l.length)
    ·rw [vz a b, oy a b, List.length_append, iR w d, rv l (by omega)]; rfl
    ·rw [sB a b, lY a b, List.length_append, iR w d, List.length_drop]; rfl
theorem xk (w : Bool) (m : Nat) (l : List Vh) (hl : l.length ≤ 512) : iZ 1000 (l, (stp w 40 m l.length).map tv, ak) = some (pth w 40 m l) := by
 obtain ⟨S, hS⟩ : ∃ S, S = (stp w 40 m l.length).map tv := ⟨_, rfl⟩
 have hSl : S.length ≤ 40 := by rw [hS, List.length_map]; exact jD ..
 have hP := iR w 40 m l
 have hP2 : (pth w 40 m l).length ≤ 40 := by rw [hP]; exact jD ..
 obtain ⟨R, hR⟩ : ∃ R, R = pth w 40 m l := ⟨_, rfl⟩
 rw [← hR] at hP2
 rw [← hS, ← hR]
 unfold iZ
 dsimp only
 refine fx (fun e h => ∃ (i d m' : Nat) (l' out : List Vh), h = ((i : Int), l', out) ∧ i + e = S.length ∧ S.drop i = (stp w d m' l'.length).map tv ∧ l'.length ≤ 512 ∧ out ++ (pth w d m' l').reverse = R.reverse) (fun e => e = R.reverse) S.length (by omega) ⟨0, 40, m, l, [], rfl, by omega, by simp [hS], hl, by simp [hR]⟩ ?_ ?_
 ·clear hP hS hR
  rintro e _ ⟨i, d, m', l', out, rfl, hi, hd, hl', ho⟩
  dsimp only
  by_cases a : i < S.length
  ·have hne : stp w d m' l'.length ≠ [] := by
    intro h
    rw [h, List.map_nil] at hd
    have := congrArg List.length hd
    rw [List.length_drop] at this
    simp at this; omega
   have h1 : ¬ (l'.length < 2 ∨ (w = true ∧ m' = l'.length)) := fun h => hne (oT h d)
   obtain ⟨d, rfl⟩ : ∃ d', d = d' + 1 := by
    cases d with
    | zero => exact absurd rfl hne
    | succ d => exact ⟨d, rfl⟩
   have h2 : 2 ≤ l'.length := by omega
   obtain ⟨s1, s2, s3⟩ := ii h2
   have hdr : S.drop i = S[i] :: S.drop (i + 1) := List.drop_eq_getElem_cons a
   have hat : at_ T8 S (i : Int) = S[i] := bL (t := T8) a
   have hlen : (pth w (d + 1) m' l').length + out.length ≤ 40 := by
    have := congrArg List.length ho
    simp at this; omega
   rw [be (show (i : Int) < ae S by unfold ae; omega), ag, aa ⟨by omega, by unfold ae; omega⟩, hat]
   have ei : WK .i64 ((i : Int) + 1) = ((i + 1 : Nat) : Int) := av (by omega) (by omega)
   have ap : ∀ x : Vh, bc out [x] 32 := fun x => by unfold bc; simp; omega
   by_cases b : m' < sp l'.length ∨ (w = true ∧ m' = sp l'.length)
   ·rw [oy h1 b, hdr, List.map_cons, List.cons.injEq] at hd
    obtain ⟨hd1, hd2⟩ := hd
    rw [vz h1 b] at ho
    rw [hd1]
    dsimp only
    rw [ac, cO, sw]
    rw [aa ⟨by omega, by unfold ae; omega, by omega, by omega⟩, Bt _ (by rw [List.length_drop]; omega), Option.bind_some, aa (ap _), aa ⟨by omega, by omega, by unfold ae; omega, by omega⟩, ei]
    refine .on (e - 1) (by omega) ⟨i + 1, d, m', l'.take (sp l'.length), _, rfl, by omega, by rw [rv l' h2]; exact hd2, by rw [List.length_take]; omega, ?_⟩
    simpa using ho
   ·rw [lY h1 b, hdr, List.map_cons, List.cons.injEq] at hd
    obtain ⟨hd1, hd2⟩ := hd
    rw [sB h1 b] at ho
    rw [hd1]
    dsimp only
    have ek : WK .i64 (ae l' - ((l'.length - sp l'.length : Nat) : Int)) = ((sp l'.length : Nat) : Int) := by rw [av (by unfold ae; omega) (by unfold ae; omega)]; unfold ae; omega
    rw [ag, ek, cO, sw]
    rw [aa ⟨by omega, by omega, by unfold ae; omega, by omega⟩, Bt _ (by rw [List.length_take]; omega), Option.bind_some, aa (ap _), aa ⟨by omega, by unfold ae; omega, by omega, by omega⟩, ei]
    refine .on (e - 1) (by omega) ⟨i + 1, d, m' - sp l'.length, l'.drop (sp l'.length), _, rfl, by omega, by rw [List.length_drop]; exact hd2, by rw [List.length_drop]; omega, ?_⟩
    simpa using ho
  ·rw [aM (show ae S ≤ (i : Int) by unfold ae; omega), ac]
   refine .out ?_
   have hd0 : stp w d m' l'.length = [] := by
    rw [List.drop_eq_nil_of_le (by omega)] at hd
    simpa using hd.symm
   have hp0 : pth w d m' l' = [] := List.eq_nil_of_length_eq_zero (by rw [iR, hd0]; rfl)
   rw [hp0] at ho
   simpa using ho
 ·intro e he
  rw [he]
  refine aj (Bs _ (by simp; omega)) ?_
  simp
theorem Cy {m : Nat} {l : List Vh} (hm : m < l.length) (hl : l.length ≤ 512) : iz 1000 ((m : Int), l, ak) = some (true, pth false 40 m l) := by
 unfold iz
 dsimp only
 rw [aM (by omega), ac, lS (show (m : Int) < ae l by unfold ae; omega), ac]
 refine aj (Cv (w := false) (show plc false m l.length by simpa [plc] using hm) (by omega)) (aj (xk false m l hl) rfl)
theorem xl {a : Int} {l : List Vh} (h : a < 0 ∨ (l.length : Int) ≤ a) : iz 1000 (a, l, ak) = some (false, []) := by
 unfold iz
 dsimp only
 by_cases h0 : a < 0
 ·rw [be h0, ag]
 ·rw [aM (by omega), ac, fA (show ae l ≤ a by unfold ae; omega), ag]
def part : Nat → Nat → List Vh → List Vh
 | 0, _, l => l
 | d + 1, m, l => if l.length < 2 ∨ m = l.length then l else if m ≤ sp l.length then part d m (l.take (sp l.length)) else part d (m - sp l.length) (l.drop (sp l.length))
theorem GO {m : Nat} {l : List Vh} (h : l.length < 2 ∨ m = l.length) (d : Nat) : part d m l = l := by
 cases d with
 | zero => rfl
 | succ d => rw [part, if_pos h]
theorem DK {d m : Nat} {l : List Vh} (a : ¬ (l.length < 2 ∨ m = l.length)) (b : m ≤ sp l.length) : part (d + 1) m l = part d m (l.take (sp l.length)) := by
 rw [part, if_neg a, if_pos b]
theorem Bu {d m : Nat} {l : List Vh} (a : ¬ (l.length < 2 ∨ m = l.length)) (b : ¬ m ≤ sp l.length) : part (d + 1) m l = part d (m - sp l.length) (l.drop (sp l.length)) := by
 rw [part, if_neg a, if_neg b]
theorem vA : ∀ (d m : Nat) (l : List Vh), (part d m l).length ≤ l.length
 | 0, _, _ => Nat.le_refl _
 | d + 1, m, l => by
   rw [part]
   split
   ·exact Nat.le_refl _
   ·split
    ·exact Nat.le_trans (vA d _ _) (by rw [List.length_take]; omega)
    ·exact Nat.le_trans (vA d _ _) (by rw [List.length_drop]; omega)
theorem GP {d m : Nat} {l : List Vh} (h : stp true d m l.length = []) : part d m l = l := by
 cases d with
 | zero => rfl
 | succ d =>
   by_cases a : l.length < 2 ∨ m = l.length
   ·rw [GO a]
   ·exfalso
    have a2 : ¬ (l.length < 2 ∨ (true = true ∧ m = l.length)) := by simpa using a
    by_cases b : m < sp l.length ∨ (true = true ∧ m = sp l.length)
    ·rw [oy a2 b] at h; cases h
    ·rw [lY a2 b] at h; cases h
def lks (m : Nat) (l : List Vh) : List Vh := (if (stp true 40 m l.length).any (·.1) = true then [rt 40 (part 40 m l)] else []) ++ pth true 40 m l
def Il (d m : Nat) (w : Bool) (l : List Vh) : List Vh := (if w = true ∧ (stp true d m l.length).any (·.1) = false then [] else [rt 40 (part d m l)]) ++ pth true d m l
theorem DL (m : Nat) (l : List Vh) : Il 40 m true l = lks m l := by
 unfold Il lks
 cases (stp true 40 m l.length).any (·.1) <;> simp
theorem GQ (d m : Nat) (w : Bool) (l : List Vh) : (Il d m w l).length ≤ 1 + d := by
 unfold Il
 have := iR true d m l
 have := jD true d m l.length
 rw [List.length_append]
 split <;> simp <;> omega
theorem DM (x : Vh) (l : List Vh) (h1 : 1 ≤ l.length) (h : l.length ≤ 900) : lj 1000 (0, l, [x]) = some (x :: l) :=
 aa (p := (0 : Int) = 0 ∧ 1 ≤ l.length ∧ (l.length + 1) * 32 ≤ 140737488355328) ⟨rfl, h1, by omega⟩
theorem DN {m : Nat} {l : List Vh} (h0 : 1 ≤ m) (hm : m ≤ l.length) (hl : l.length ≤ 512) : iE 1000 ((m : Int), l, ak) = some (true, lks m l) := by
 have hsl := jD true 40 m l.length
 obtain ⟨S, hS⟩ : ∃ S, S = (stp true 40 m l.length).map tv := ⟨_, rfl⟩
 have hSl : S.length ≤ 40 := by rw [hS, List.length_map]; exact hsl
 obtain ⟨r, hr, hr2⟩ := GJ S (by omega)
 have ha : S.any (·.1) = (stp true 40 m l.length).any (·.1) := by rw [hS, List.any_map]; rfl
 rw [ha] at hr2
 unfold iE
 dsimp only
 rw [aM (by omega), ac, jd (show (m : Int) ≤ ae l by unfold ae; omega), ac]
 refine aj (Cv (w := true) (show plc true m l.length by simp [plc]; omega) (by omega)) ?_
 refine aj (xk true m l hl) ?_
 rw [← hS]
 refine aj hr ?_
 rw [hr2]
 unfold lks
 have hpl := iR true 40 m l
 cases hb : (stp true 40 m l.length).any (·.1)
 ·rw [Bool.not_false, ag]; simp
 ·rw [Bool.not_true, ac, if_pos rfl]
  have hne : 1 ≤ (pth true 40 m l).length := by
   rw [hpl]
   rcases hx : stp true 40 m l.length with _ | ⟨y, ys⟩
   ·rw [hx] at hb; cases hb
   ·simp
  obtain ⟨R, hR⟩ : ∃ R, R = pth true 40 m l := ⟨_, rfl⟩
  rw [← hR] at hne hpl ⊢
  refine fx (fun e h => ∃ (i d m' a n : Nat), h = ((a : Int), (n : Int), (i : Int)) ∧ i + e = S.length ∧ a + n ≤ l.length ∧ S.drop i = (stp true d m' n).map tv ∧ part d m' ((l.drop a).take n) = part 40 m l) (fun e => ∃ a n : Nat, e = ((a : Int), (n : Int)) ∧ a + n ≤ l.length ∧ (l.drop a).take n = part 40 m l) S.length (by omega) ⟨0, 40, m, 0, l.length, rfl, by omega, by omega, by simp [hS], by simp⟩ ?_ ?_
  ·clear hR hpl hr hr2 ha hS
   rintro e _ ⟨i, d, m', a, n, rfl, hi, han, hd, hp⟩
   dsimp only
   have hln : ((l.drop a).take n).length = n := by rw [List.length_take, List.length_drop]; omega
   by_cases c : i < S.length
   ·have hne : stp true d m' n ≠ [] := by
     intro h
     rw [h, List.map_nil] at hd
     have := congrArg List.length hd
     rw [List.length_drop] at this
     simp at this; omega
    have h1 : ¬ (n < 2 ∨ (true = true ∧ m' = n)) := fun h => hne (oT h d)
    have h1' : ¬ (((l.drop a).take n).length < 2 ∨ m' = ((l.drop a).take n).length) := by rw [hln]; simpa using h1
    obtain ⟨d, rfl⟩ : ∃ d', d = d' + 1 := by
     cases d with
     | zero => exact absurd rfl hne
     | succ d => exact ⟨d, rfl⟩
    have h2 : 2 ≤ n := by omega
    obtain ⟨s1, s2, s3⟩ := ii h2
    have hdr : S.drop i = S[i] :: S.drop (i + 1) := List.drop_eq_getElem_cons c
    have hat : at_ T8 S (i : Int) = S[i] := bL (t := T8) c
    have ei : WK .i64 ((i : Int) + 1) = ((i + 1 : Nat) : Int) := av (by omega) (by omega)
    rw [be (show (i : Int) < ae S by unfold ae; omega), ag, aa ⟨by omega, by unfold ae; omega⟩, hat, ei]
    by_cases b : m' < sp n ∨ (true = true ∧ m' = sp n)
    ·have b' : m' ≤ sp ((l.drop a).take n).length := by rw [hln]; simp at b; omega
     rw [oy h1 b, hdr, List.map_cons, List.cons.injEq] at hd
     obtain ⟨hd1, hd2⟩ := hd
     rw [DK h1' b', hln, List.take_take, Nat.min_eq_left (by omega)] at hp
     rw [hd1]
     dsimp only
     rw [ac]
     exact .on (e - 1) (by omega) ⟨i + 1, d, m', a, sp n, rfl, by omega, by omega, hd2, hp⟩
    ·have b' : ¬ m' ≤ sp ((l.drop a).take n).length := by rw [hln]; simp at b; omega
     rw [lY h1 b, hdr, List.map_cons, List.cons.injEq] at hd
     obtain ⟨hd1, hd2⟩ := hd
     rw [Bu h1' b', hln, List.drop_take, List.drop_drop] at hp
     rw [hd1]
     dsimp only
     rw [ag]
     have ek : WK .i64 ((a : Int) + WK .i64 ((n : Int) - ((n - sp n : Nat) : Int))) = ((a + sp n : Nat) : Int) := by
      rw [av (x := (n : Int) - ((n - sp n : Nat) : Int)) (by omega) (by omega), av (by omega) (by omega)]; omega
     rw [ek]
     exact .on (e - 1) (by omega) ⟨i + 1, d, m' - sp n, a + sp n, n - sp n, rfl, by omega, by omega, hd2, hp⟩
   ·rw [aM (show ae S ≤ (i : Int) by unfold ae; omega), ac]
    refine .out ⟨a, n, rfl, han, ?_⟩
    have hd0 : stp true d m' n = [] := by
     rw [List.drop_eq_nil_of_le (by omega)] at hd
     simpa using hd.symm
    rw [GP (by rw [hln]; exact hd0)] at hp
    exact hp
  ·rintro _ ⟨a, n, rfl, han, hp⟩
   dsimp only
   have e1 : WK .i64 ((a : Int) + (n : Int)) = ((a + n : Nat) : Int) := by rw [av (by omega) (by omega)]; omega
   rw [e1, aa ⟨by omega, by omega, by unfold ae; omega, by omega⟩, cO, sw]
   have e2 : (l.take (a + n)).drop a = (l.drop a).take n := by rw [List.drop_take]; congr 1; omega
   rw [e2, hp]
   have hpl2 := vA 40 m l
   refine aj (Bt _ (by omega)) (aj (DM _ _ hne (by omega)) rfl)
theorem Bv {a : Int} {l : List Vh} (h : a < 1 ∨ (l.length : Int) < a) : iE 1000 (a, l, ak) = some (false, []) ∧ oh 1000 (a, l) = some (false, []) := by
 constructor
 ·unfold iE
  dsimp only
  by_cases h0 : a < 1
  ·rw [be h0, ag]
  ·rw [aM (by omega), ac, om (show ae l < a by unfold ae; omega), ag]
 ·unfold oh
  dsimp only
  by_cases h0 : a < 1
  ·rw [be h0, ag]
  ·rw [aM (by omega), ac, om (show ae l < a by unfold ae; omega), ag]
theorem sC (l : List Vh) (h : l.length ≤ 900) : iG 1000 (l, l) = some true := by
 unfold iG
 dsimp only
 rw [eh rfl, ac]
 refine aj (a := (Sum.inr () : Bool ⊕ Unit)) ?_ rfl
 refine bS (fun i : Nat => (i : Int)) l.length _ 1000 (fun i hi => ?_) ?_ (by omega)
 ·have hi' : (i : Int) < ae l := by unfold ae; omega
  have e3 : at_ T1 l (i : Int) = l[i] := bL (t := T1) hi
  rw [e3, iI, be hi', ag, aa ⟨by omega, hi'⟩, aa ⟨by omega, hi'⟩, av (by omega) (by omega)]
  rfl
 ·rw [aM (show ae l ≤ (l.length : Int) by unfold ae; omega), ac]
theorem Im (m : Nat) (l : List Vh) : (lks m l).length ≤ 41 := by
 have := GQ 40 m true l
 rw [DL] at this
 omega
theorem sD : ∀ (d m : Nat) (l : List Vh) (hm : m < l.length), l.length ≤ 2 ^ d → l.length ≤ 512 →
 (((stp false d m l.length).map (·.1)).reverse.zip (pth false d m l)).foldl (fun x p => if p.1 = true then ov p.2 x else ov x p.2) l[m] = rt 40 l
 | 0, m, l, hm, h, _ => by
   have h1 : l.length = 1 := by rw [Nat.pow_zero] at h; omega
   obtain ⟨x, rfl⟩ := List.length_eq_one_iff.1 h1
   rw [cJ (by simp)]
   simp [stp]
 | d + 1, m, l, hm, h, hb => by
   by_cases h1 : l.length < 2
   ·have h1 : l.length = 1 := by omega
    obtain ⟨x, rfl⟩ := List.length_eq_one_iff.1 h1
    rw [oT (.inl (by simp)), cJ (by simp)]
    simp
   ·have h2 : 2 ≤ l.length := by omega
    obtain ⟨a1, a2, a3⟩ := ii h2
    have a4 := xc h2 h
    have a : ¬ (l.length < 2 ∨ (false = true ∧ m = l.length)) := by simp; omega
    rw [zW h2 hb]
    by_cases b : m < sp l.length
    ·have ih := sD d m (l.take (sp l.length)) (by rw [List.length_take]; omega) (by rw [List.length_take]; omega) (by rw [List.length_take]; omega)
     simp only [List.getElem_take, rv l h2] at ih
     rw [oy a (.inl b), vz a (.inl b), List.map_cons, List.reverse_cons, List.zip_append (by rw [List.length_reverse, List.length_map, iR, rv l h2]), List.foldl_append]
     rw [ih]
     rfl
    ·have ih := sD d (m - sp l.length) (l.drop (sp l.length)) (by rw [List.length_drop]; omega) (by rw [List.length_drop]; omega) (by rw [List.length_drop]; omega)
     have e : (l.drop (sp l.length))[m - sp l.length]'(by rw [List.length_drop]; omega) = l[m] := by
      rw [List.getElem_drop]
      congr 1; omega
     rw [e, List.length_drop] at ih
     rw [lY a (by simp; omega), sB a (by simp; omega), List.map_cons, List.reverse_cons, List.zip_append (by rw [List.length_reverse, List.length_map, iR, List.length_drop]), List.foldl_append]
     rw [ih]
     rfl
theorem tw {α β : Type} (f : β → α → β) (l : List α) (b : β) (i : Nat) (h : i < l.length) : (l.take (i + 1)).foldl f b = f ((l.take i).foldl f b) l[i] := by
 rw [List.take_add_one, List.getElem?_eq_getElem h, List.foldl_append]; rfl
theorem GR {m : Nat} {l : List Vh} (hm : m < l.length) (hl : l.length ≤ 512) : jc 1000 (rt 40 l, l[m], (m : Int), (l.length : Int), pth false 40 m l) = some true := by
 have hpl := iR false 40 m l
 obtain ⟨T, hT⟩ : ∃ T, T = ((stp false 40 m l.length).map (·.1)).reverse := ⟨_, rfl⟩
 obtain ⟨P, hP⟩ : ∃ P, P = pth false 40 m l := ⟨_, rfl⟩
 have hf := sD 40 m l hm (by omega) hl
 have hTl : T.length = P.length := by rw [hT, hP, List.length_reverse, List.length_map, hpl]
 have hPl : P.length ≤ 40 := by rw [hP, hpl]; exact jD ..
 have hlg := DJ hm (by omega : l.length ≤ 1099511627776)
 have htn := xj hm (by omega : l.length ≤ 1099511627776)
 rw [← hT] at htn
 rw [← hpl, ← hP] at hlg
 rw [← hT, ← hP] at hf
 rw [← hP]
 unfold jc
 refine aj (a := (rt 40 l, true)) ?_ ?_
 ·unfold qc
  dsimp only
  refine aj hlg ?_
  rw [eh (rfl : (P.length : Int) = ae P), ac]
  refine aj htn ?_
  refine aj (bS (fun i : Nat => ((i : Int), ((T.zip P).take i).foldl (fun x p => if p.1 = true then ov p.2 x else ov x p.2) l[m])) P.length (rt 40 l) 1000 (fun i hi => ?_) ?_ (by omega)) rfl
  ·dsimp only
   have hz : i < (T.zip P).length := by rw [List.length_zip]; omega
   have e1 : at_ .bool T (i : Int) = T[i] := bL (t := .bool) (by omega)
   have e2 : at_ T1 P (i : Int) = P[i] := bL (t := T1) hi
   rw [tw _ _ _ i hz, List.getElem_zip, e1, e2, av (by omega) (by omega), be (show (i : Int) < ae P by unfold ae; omega), ag, aa ⟨by omega, by unfold ae; omega⟩]
   dsimp only
   cases hb : T[i]
   ·rw [ac, aa ⟨by omega, by unfold ae; omega⟩, aa (lW _), aa (lX _ _), zU]
    rfl
   ·rw [ag, aa ⟨by omega, by unfold ae; omega⟩, aa (lW _), aa (lX _ _), zU]
    rfl
  ·dsimp only
   rw [aM (show ae P ≤ (P.length : Int) by unfold ae; omega), ac, List.take_of_length_le (by rw [List.length_zip]; omega), hf]
 ·dsimp only
  rw [ag, iI]
theorem GS {m q : Nat} {w s : Int} {lv pk : List Vh} {rows : List Rec} {n : Int} (a b : Int) (c : Vh) (d : Int) (e : Vh) (hm : m < q) (h : q ≤ lv.length) (hl : lv.length ≤ 512) : aR 1000 ((m : Int), (q : Int), w, s, a, b, c, d, e, ak, lv, rows, n, pk) = some (0, pth false 40 m (lv.take q)) := by
 unfold aR
 dsimp only
 rw [aM (by omega), ac, jd (show (q : Int) ≤ ae lv by unfold ae; omega), ac, aa ⟨by omega, by omega, by unfold ae; omega, by omega⟩, cO]
 refine aj (Cy (by rw [List.length_take]; omega) (by rw [List.length_take]; omega)) ?_
 dsimp only
 rw [Bool.not_true, ac]
theorem GT {m q : Nat} {w s : Int} {lv pk : List Vh} {rows : List Rec} {n : Int} (a b : Int) (c : Vh) (d : Int) (e : Vh) (hm : q ≤ m) (h1 : 1 ≤ q) (h : q ≤ lv.length) : aR 1000 ((m : Int), (q : Int), w, s, a, b, c, d, e, ak, lv, rows, n, pk) = some (19, []) := by
 unfold aR
 dsimp only
 rw [aM (by omega), ac, jd (show (q : Int) ≤ ae lv by unfold ae; omega), ac, aa ⟨by omega, by omega, by unfold ae; omega, by omega⟩, cO]
 refine aj (xl (.inr (by rw [List.length_take]; omega))) ?_
 dsimp only
 rw [Bool.not_false, ag]
theorem DO {m q : Int} {w s : Int} {lv pk : List Vh} {rows : List Rec} {n : Int} (a b : Int) (c : Vh) (d : Int) (e : Vh) (h : q < 1 ∨ (lv.length : Int) < q) : aR 1000 (m, q, w, s, a, b, c, d, e, ak, lv, rows, n, pk) = some (19, []) := by
 unfold aR
 dsimp only
 by_cases h1 : q < 1
 ·rw [be h1, ag]
 ·rw [aM (by omega), ac, om (show ae lv < q by unfold ae; omega), ag]
theorem sE {b : Nat} (all : List Fz) (lv : List Vh) (n : Int) (pk : List Vh) (h1 : 1 ≤ b) (h : b ≤ lv.length) : bD 1000 ((b : Int), all, lv, n, pk) = some (0, lv.take b) := by
 unfold bD
 dsimp only
 rw [aM (by omega), ac, jd (show (b : Int) ≤ ae lv by unfold ae; omega), ac, aa ⟨by omega, by omega, by unfold ae; omega, by omega⟩, cO]
theorem GU {b : Int} (all : List Fz) (lv : List Vh) (n : Int) (pk : List Vh) (h : b < 1 ∨ (lv.length : Int) < b) : bD 1000 (b, all, lv, n, pk) = some (19, []) := by
 unfold bD
 dsimp only
 by_cases h1 : b < 1
 ·rw [be h1, ag]
 ·rw [aM (by omega), ac, om (show ae lv < b by unfold ae; omega), ag]
theorem DP {a b : Nat} (all : List Fz) (lv : List Vh) (n : Int) (pk : List Vh) (h1 : 1 ≤ a) (hab : a ≤ b) (h : b ≤ lv.length) (hl : lv.length ≤ 512) : bE 1000 ((a : Int), (b : Int), ak, all, lv, n, pk) = some (0, lks a (lv.take b)) := by
 unfold bE
 dsimp only
 refine aj (sE all lv n pk (by omega) h) ?_
 dsimp only
 rw [eh (rfl : (0 : Int) = 0), ac]
 refine aj (DN h1 (by rw [List.length_take]; omega) (by rw [List.length_take]; omega)) ?_
 dsimp only
 rw [Bool.not_true, ac]
theorem GW {m b : Nat} (all : List Fz) (lv : List Vh) (n : Int) (pk : List Vh) (hmb : m < b) (h : b ≤ lv.length) (hl : lv.length ≤ 512) : fp 1000 ((m : Int), (b : Int), ak, all, lv, n, pk) = some (0, pth false 40 m (lv.take b)) := by
 unfold fp
 dsimp only
 refine aj (sE all lv n pk (by omega) h) ?_
 dsimp only
 rw [eh (rfl : (0 : Int) = 0), ac]
 refine aj (Cy (by rw [List.length_take]; omega) (by rw [List.length_take]; omega)) ?_
 dsimp only
 rw [Bool.not_true, ac]
def okT (a : Int) : Bool := decide (0 ≤ a) && decide (a ≤ 1125899906842624)
theorem tf {a : Int} (h : 0 ≤ a) (h2 : a ≤ 1125899906842624) : okT a = true := by simp [okT, h, h2]
theorem Cz {a : Int} : okT a = true ↔ 0 ≤ a ∧ a ≤ 1125899906842624 := by simp [okT]
theorem Ae (l : List Int) : bQ 1000 l = some (l.all okT) ∨ 900 ≤ l.length := by
 by_cases hl : l.length < 900
 ·left
  unfold bQ
  refine fx (fun dd h => ∃ i : Nat, h = (i : Int) ∧ i + dd = l.length ∧ (l.take i).all okT = true) (fun e => (∃ h : l.all okT = false, e = .inl false) ∨ (l.all okT = true ∧ e = .inr ())) l.length (by omega) ⟨0, rfl, by omega, by simp⟩ ?_ ?_
  ·rintro dd _ ⟨i, rfl, hi, ha⟩
   by_cases h1 : i < l.length
   ·have ea : at_ (.int .i64) l (i : Int) = l[i] := bL (t := .int .i64) h1
    rw [be (show (i : Int) < ae l by unfold ae; omega), ag, aa ⟨by omega, by unfold ae; omega⟩, ea]
    have hmem : l[i] ∈ l := List.getElem_mem h1
    have no : okT l[i] = false → l.all okT = false := fun h => by
     cases hc : l.all okT with
     | false => rfl
     | true => rw [List.all_eq_true.1 hc _ hmem] at h; cases h
    by_cases h2 : l[i] < 0
    ·rw [be h2, ag]
     exact .out (.inl ⟨no (by simp [okT]; omega), rfl⟩)
    ·rw [aM (by omega), ac]
     by_cases h3 : 1125899906842624 < l[i]
     ·rw [om h3, ag]
      exact .out (.inl ⟨no (by simp [okT]; omega), rfl⟩)
     ·rw [jd (by omega), ac, av (by omega) (by omega)]
      refine .on (dd - 1) (by omega) ⟨i + 1, by omega, by omega, ?_⟩
      rw [List.take_add_one, List.getElem?_eq_getElem h1, List.all_append, ha]
      simp [okT]; omega
   ·rw [aM (show ae l ≤ (i : Int) by unfold ae; omega), ac]
    refine .out (.inr ⟨?_, rfl⟩)
    rwa [List.take_of_length_le (by omega)] at ha
  ·rintro e (⟨h, rfl⟩ | ⟨h, rfl⟩)
   ·rw [h]; rfl
   ·rw [h]; rfl
 ·right; omega
theorem Bw (a : Int) : bQ 1000 [a] = some (okT a) := by
 rcases Ae [a] with h | h
 ·rw [h]; simp
 ·simp at h
theorem Mf (a b : Int) : bQ 1000 [a, b] = some (okT a && okT b) := by
 rcases Ae [a, b] with h | h
 ·rw [h]; simp
 ·simp at h
def px (w W : Int) : Int × Bool := if (w + 1) * W ≤ 1125899906842624 then ((w + 1) * W, true) else (0, false)
theorem GX {a W : Int} (hW : 1 ≤ W) : a ≤ 1125899906842624 / W ↔ a * W ≤ 1125899906842624 := Int.le_ediv_iff_mul_le (by omega)
theorem Af {a W : Int} (h : 0 ≤ a) : Int.tdiv a W = a / W := Int.tdiv_eq_ediv_of_nonneg h
theorem DQ {a W : Int} (h0 : 0 ≤ a) (hW : 1 ≤ W) (h : a * W ≤ 1125899906842624) : WK .i64 (a * W) = a * W := by
 have : 0 ≤ a * W := Int.mul_nonneg h0 (by omega)
 exact av (by omega) (by omega)
theorem DR {W : Int} (hW : 1 ≤ W) : WK .i64 (Int.tdiv 1125899906842624 W) = 1125899906842624 / W := by
 rw [Af (by omega)]
 have h1 : 0 ≤ 1125899906842624 / W := Int.ediv_nonneg (by omega) (by omega)
 have h2 : 1125899906842624 / W ≤ 1125899906842624 := Int.ediv_le_self _ (by omega)
 exact av (by omega) (by omega)
theorem GY {w W : Int} (h0 : 0 ≤ w) (h1 : w ≤ 1125899906842624) (hW : 1 ≤ W) (hW2 : W ≤ 1125899906842624) : ka 1000 (w, W) = some (px w W) := by
 unfold ka
 dsimp only
 rw [Bw, tf h0 h1, Option.bind_some, Bool.not_true, ac, av (by omega) (by omega)]
 unfold mD
 dsimp only
 rw [Bw, tf (by omega) hW2, Option.bind_some, ag, om (show 0 < W by omega), ag, aa (show nz W by show W ≠ 0; omega), DR hW]
 unfold px
 by_cases h : (w + 1) * W ≤ 1125899906842624
 ·rw [lR ((GX hW).2 h), Bool.not_true, ac, if_pos h, DQ (by omega) hW h]; rfl
 ·rw [Gg (by have := mt (GX hW).1 h; omega), Bool.not_false, ag, if_neg h]; rfl
def bF (w W t : Int) : Bool := (px w W).2 && decide ((px w W).1 ≤ t)
theorem DS {w W t : Int} (h0 : 0 ≤ w) (h1 : w ≤ 1125899906842624) (hW : 1 ≤ W) (hW2 : W ≤ 1125899906842624) (ht : 0 ≤ t) (ht2 : t ≤ 1125899906842624) : iQ 1000 (w, W, t) = some (bF w W t) := by
 unfold iQ
 dsimp only
 rw [GY h0 h1 hW hW2, Option.bind_some, Bw, tf ht ht2]
 unfold bF
 cases (px w W).2 <;> rfl
def DT (w W T : Int) : Int × Bool := if (px w W).2 = true ∧ (px w W).1 + T ≤ 1125899906842624 then ((px w W).1 + T, true) else (0, false)
theorem In {w W : Int} (h0 : 0 ≤ w) (hW : 1 ≤ W) : 0 ≤ (px w W).1 ∧ (px w W).1 ≤ 1125899906842624 := by
 unfold px
 split
 ·exact ⟨Int.mul_nonneg (by omega) (by omega), by assumption⟩
 ·exact ⟨Int.le_refl _, by decide⟩
theorem KG {w W T : Int} (h0 : 0 ≤ w) (h1 : w ≤ 1125899906842624) (hW : 1 ≤ W) (hW2 : W ≤ 1125899906842624) (hT : 0 ≤ T) (hT2 : T ≤ 1125899906842624) : mE 1000 (w, W, T) = some (DT w W T) := by
 unfold mE
 dsimp only
 obtain ⟨n1, n2⟩ := In h0 hW
 rw [GY h0 h1 hW hW2, Option.bind_some, Bw, tf hT hT2]
 unfold DT
 cases (px w W).2 with
 | false => rfl
 | true =>
   simp only [Option.bind_some, Bool.not_true, ac, true_and]
   rw [av (by omega) (by omega), Bw]
   by_cases h : (px w W).1 + T ≤ 1125899906842624
   ·rw [tf (by omega) h, if_pos h]; rfl
   ·rw [show okT ((px w W).1 + T) = false by simp [okT]; omega, if_neg h]; rfl
def vB (w W T t : Int) : Bool := (DT w W T).2 && decide ((DT w W T).1 ≤ t)
theorem Bx {w W T t : Int} (h0 : 0 ≤ w) (h1 : w ≤ 1125899906842624) (hW : 1 ≤ W) (hW2 : W ≤ 1125899906842624) (hT : 0 ≤ T) (hT2 : T ≤ 1125899906842624) (ht : 0 ≤ t) (ht2 : t ≤ 1125899906842624) : eE 1000 (w, W, T, t) = some (vB w W T t) := by
 unfold eE
 dsimp only
 rw [KG h0 h1 hW hW2 hT hT2, Option.bind_some, Bw, tf ht ht2]
 unfold vB
 cases (DT w W T).2 <;> rfl
theorem LP {t W : Int} (ht : 0 ≤ t) (ht2 : t ≤ 1125899906842624) (hW : 1 ≤ W) (hW2 : W ≤ 1125899906842624) : oQ 1000 (t, W) = some (t / W) := by
 unfold oQ
 dsimp only
 have h1 : 0 ≤ t / W := Int.ediv_nonneg (by omega) (by omega)
 have h2 : t / W ≤ t := Int.ediv_le_self _ (by omega)
 rw [Mf, tf ht ht2, tf (by omega) hW2, Option.bind_some, cU (by omega), aa (show nz W by show W ≠ 0; omega), Af ht, av (by omega) (by omega)]
 rfl
def kR (c a : Int) : Int × Int := if okT a = true ∧ c ≤ a then (a, 0) else (c, 21)
theorem Io (c a : Int) : kN 1000 (c, a) = some (kR c a) := by
 unfold kN kR
 dsimp only
 rw [Bw, Option.bind_some]
 cases okT a with
 | false => rfl
 | true =>
   by_cases h : c ≤ a
   ·rw [fA h, if_pos ⟨rfl, h⟩]; rfl
   ·rw [lS (by omega), if_neg (by rintro ⟨_, h2⟩; exact h h2)]; rfl
theorem GZ (key : List UInt8) (hk : key.length ≤ 64) (n : Nat) (hn : n ≤ 4000) (r : Vh) {t : Int} (h0 : 0 ≤ t) (h1 : t ≤ 1125899906842624) :
 fg 1000 (mkB key, (n : Int), r, t, ak) = some ((n : Int), r, t, zZ key (rA n r t)) := by
 unfold fg
 dsimp only
 have a := bH (x := n) (by omega)
 have b := bH (x := t.toNat) (by omega)
 have d := bH (x := 32) (by decide)
 have hl : (rA n r t).length ≤ 100 := by
  unfold rA
  simp only [List.length_append, ij, List.length_singleton]
  omega
 have hsay : iP 1000 ((n : Int), r, t, Vector.replicate 32 0) = some (mkB (rA n r t), 0) := by
  unfold iP
  dsimp only
  rw [fA (show (0 : Int) ≤ (n : Int) by omega), ag, lR (show (n : Int) ≤ 1099511627776 by omega), Bool.not_true, ac, fA h0, ag, lR h1, Bool.not_true, ac]
  refine aj (iJ (x := (n : Int)) (by omega) (by omega)) ?_
  rw [yg]
  refine aj (iJ (x := 32) (by decide) (by decide)) ?_
  refine (aa (cr (a := bX 32) (b := vb r) (by rw [ij]; omega))).trans ?_
  refine aj (iJ h0 h1) ?_
  rw [vx, show mkB (bX (32 : Int).toNat) ++ mkB (vb r) = mkB (bX 32 ++ vb r) from ce _ _]
  refine aj (a := mkB (rA n r t)) ?_ rfl
  show aV 1000 _ = _
  unfold aV
  have hj : Lib.join (([⟨#[72]⟩, mkB (bX (n : Int).toNat), mkB (bX 32 ++ vb r), mkB (bX t.toNat)] : List ByteArray).map (·.data.toList)) (aG : ByteArray).data.toList = rA n r t := by
   simp [Lib.join, rA, mkB]
  have hb : (Lib.join (([⟨#[72]⟩, mkB (bX (n : Int).toNat), mkB (bX 32 ++ vb r), mkB (bX t.toNat)] : List ByteArray).map (·.data.toList)) (aG : ByteArray).data.toList).length ≤ 140737488355328 := by
   rw [hj]; omega
  refine (aa ⟨by simp, by simp, hb⟩).trans ?_
  exact congrArg (fun l => some (mkB l)) hj
 refine aj hsay ?_
 dsimp only
 rw [eh rfl, ac]
 have hp := Cr hk
 refine aj (Cs key hk) (aj (rz 54 _ hp) (aj (rz 92 _ hp) ?_))
 exact aj (Ct (rA n r t) _ _ (by omega) (by rw [ox, hp]) (by rw [ox, hp])) rfl
theorem xm {w c : Int} (h : rx w c) (r : Vh) {t : Int} (h0 : 0 ≤ t) (h1 : t ≤ 1125899906842624) (key : List UInt8) (hk : key.length ≤ 64) :
 mF 1000 (mkB key, w, c, r, t, ak) = some (w, c, r, t, zZ key (dU w c r t)) := by
 unfold mF
 dsimp only
 have hl := ql h r h0 h1
 refine aj (Ac h r h0 h1 _) ?_
 dsimp only
 rw [eh rfl, ac]
 have hp := Cr hk
 refine aj (Cs key hk) (aj (rz 54 _ hp) (aj (rz 92 _ hp) ?_))
 exact aj (Ct (dU w c r t) _ _ (by omega) (by rw [ox, hp]) (by rw [ox, hp])) rfl
abbrev Stn := Int × Int × Vh × Int × Vh
abbrev Hd := Int × Vh × Int × Vh
structure Sh where
 w : Int
 st : Int
 left : Nat
 sn : Stn
 recs : List Rec
def Sh.lv (s : Sh) : List Vh := s.recs.map lfR
def Sh.fz (s : Sh) : Fz := (s.w, (s.recs.length : Int), rt 40 s.lv)
structure Va where
 W : Int
 T : Int
 key : List UInt8
 t : Int
 shs : List Sh
 log : List Fz
structure Told where
 err : Int
 n : Int
 m : Int
 rc : Rec
 sn : Stn
 hd : Hd
 cf : Fz
 pl : Int
 ch : Hd
 path : List Vh
 cp : List Vh
 cs : List Vh
abbrev zR : Rec := (0, 0, 0, aG)
abbrev zS : Stn := (0, 0, z32, 0, z32)
abbrev zH : Hd := (0, z32, 0, z32)
abbrev zF : Fz := (0, 0, z32)
def dk (e : Int) : Told := ⟨e, 0, 0, zR, zS, zH, zF, 0, zH, [], [], []⟩
def Told.tup (o : Told) {β : Type} (x : β) : Int × Int × Int × Int × Int × Int × ByteArray × Int × Int × Vh × Int × Vh × Int × Vh × Int × Vh × Int × Int × Vh × Int × Int × Vh × Int × Vh × β :=
 (o.err, o.n, o.m, o.rc.1, o.rc.2.1, o.rc.2.2.1, o.rc.2.2.2, o.sn.1, o.sn.2.1, o.sn.2.2.1, o.sn.2.2.2.1, o.sn.2.2.2.2, o.hd.1, o.hd.2.1, o.hd.2.2.1, o.hd.2.2.2, o.cf.1, o.cf.2.1, o.cf.2.2, o.pl, o.ch.1, o.ch.2.1, o.ch.2.2.1, o.ch.2.2.2, x)
structure Ask where
 op : Int
 a : Int
 b : Int
 c : Int
 data : ByteArray
def fnd (l : List Sh) (w : Int) : Option Nat := l.findIdx? fun s => s.w == w
def kn (w : Int) : Sh := ⟨w, 0, 0, zS, []⟩
def Sh.put (s : Sh) (t : Int) (d : ByteArray) : Sh := { s with left := s.recs.length + 1, recs := s.recs ++ [(s.w, (s.recs.length : Int), t, d)] }
def je (v : Va) (d : ByteArray) : Told × Va :=
 match fnd v.shs (v.t / v.W) with
 | none => if 14 ≤ v.shs.length then (dk 15, v) else if 2000 < d.size then (dk 11, v)
  else ({ dk 0 with n := v.t / v.W, m := 0 }, { v with shs := v.shs ++ [(kn (v.t / v.W)).put v.t d] })
 | some i => match v.shs[i]? with
   | some s => if s.st ≠ 0 then (dk 13, v) else if 2000 < d.size then (dk 11, v)
    else ({ dk 0 with n := v.t / v.W, m := (s.recs.length : Int) }, { v with shs := v.shs.set i (s.put v.t d) })
   | none => (dk 0, v)
def Ag (v : Va) (w : Int) : Option Sh := (fnd v.shs w).bind fun i => v.shs[i]?
def oz (v : Va) (w b : Int) : Told :=
 match Ag v w with
 | none => dk 19
 | some s => if b < 0 ∨ (s.recs.length : Int) ≤ b then dk 19 else if s.st = 2 then { dk 20 with sn := s.sn } else { dk 0 with rc := s.recs.getD b.toNat zR }
def jo (l : List Vh) (i n : Int) : Int × List Vh :=
 if n < 1 ∨ (l.length : Int) < n ∨ i < 0 ∨ n ≤ i then (19, []) else (0, pth false 40 i.toNat (l.take n.toNat))
def cL (v : Va) (w b c : Int) : Told :=
 match Ag v w with
 | none => dk 19
 | some s => { dk (jo s.lv b c).1 with path := (jo s.lv b c).2 }
def Va.lfs (v : Va) : List Vh := v.log.map lfF
def By (v : Va) : Hd := ((v.log.length : Int), rt 40 v.lfs, v.t, zZ v.key (rA v.log.length (rt 40 v.lfs) v.t))
def vC (v : Va) : Told := { dk 0 with hd := By v }
def gK (v : Va) : Va :=
 match v.shs.getLast? with
 | some s => if s.st = 0 ∧ bF s.w v.W v.t = true then { v with shs := v.shs.set (v.shs.length - 1) { s with st := 1 }, log := v.log ++ [s.fz] } else v
 | none => v
def eP (v : Va) (a : Int) : Told × Va :=
 if (kR v.t a).2 ≠ 0 then (dk (kR v.t a).2, v) else (dk 0, gK { v with t := (kR v.t a).1 })
def old (v : Va) (s : Sh) : Bool := vB s.w v.W v.T v.t && !(decide (s.st = 2) && decide (s.left = 0))
def Sh.give (s : Sh) (key : List UInt8) (t : Int) : Sh :=
 if s.st = 1 then { s with st := 2, sn := (s.w, (s.recs.length : Int), rt 40 s.lv, t, zZ key (dU s.w (s.recs.length : Int) (rt 40 s.lv) t)) }
 else if s.st = 2 then { s with left := s.left - min 4 s.left } else s
def bv (v : Va) : Told × Va :=
 match v.shs.findIdx? (old v) with
 | none => ({ dk 0 with n := -1 }, v)
 | some i => match v.shs[i]? with
   | some s => ({ dk 0 with n := s.w, m := ((s.give v.key v.t).left : Int) }, { v with shs := v.shs.set i (s.give v.key v.t) })
   | none => (dk 0, v)
def jE (v : Va) (w : Int) : Nat := (v.log.findIdx? fun f => f.1 == w).getD 0
def oA (v : Va) (w b : Int) : Told :=
 match Ag v w with
 | none => dk 19
 | some s => if b < 0 ∨ (s.recs.length : Int) ≤ b then dk 19 else if s.st = 0 then dk 13
  else { dk 0 with cf := s.fz, cp := pth false 40 b.toNat s.lv, pl := (jE v w : Int), cs := pth false 40 (jE v w) v.lfs, ch := By v }
def oU (l : List Vh) (m n : Int) : Int × List Vh :=
 if n < 1 ∨ (l.length : Int) < n ∨ m < 1 ∨ n < m then (19, []) else (0, lks m.toNat (l.take n.toNat))
def rC (v : Va) (m n : Int) : Told := { dk (oU v.lfs m n).1 with path := (oU v.lfs m n).2 }
def vdo (v : Va) (q : Ask) : Told × Va :=
 if q.op = 1 then je v q.data else if q.op = 2 then (oz v q.a q.b, v) else if q.op = 3 then (cL v q.a q.b q.c, v) else if q.op = 4 then (vC v, v)
 else if q.op = 5 then eP v q.a else if q.op = 6 then bv v else if q.op = 7 then (oA v q.a q.b, v) else if q.op = 8 then (rC v q.a q.b, v) else (dk 1, v)
structure ShOk (v : Va) (s : Sh) : Prop where
 w0 : 0 ≤ s.w
 w1 : s.w ≤ v.t / v.W
 st : s.st = 0 ∨ s.st = 1 ∨ s.st = 2
 le : s.left ≤ s.recs.length
 full : s.st ≠ 2 → s.left = s.recs.length
 may : ∀ r ∈ s.recs, Aa r.1 r.2.1 r.2.2.1 r.2.2.2
 some1 : 1 ≤ s.recs.length
 ix : ∀ (i : Nat) r, s.recs[i]? = some r → r.1 = s.w ∧ r.2.1 = (i : Int)
 cl : s.st ≠ 0 → bF s.w v.W v.t = true
 op : s.st = 0 → bF s.w v.W v.t = false
 stn : s.st = 2 → vB s.w v.W v.T v.t = true ∧ ∃ t, 0 ≤ t ∧ t ≤ v.t ∧ s.sn = (s.w, (s.recs.length : Int), rt 40 s.lv, t, zZ v.key (dU s.w (s.recs.length : Int) (rt 40 s.lv) t))
structure VI (v : Va) (n : Nat) : Prop where
 W0 : 1 ≤ v.W
 W1 : v.W ≤ 1125899906842624
 T0 : 0 ≤ v.T
 T1 : v.T ≤ 1125899906842624
 key : v.key.length ≤ 64
 t0 : 0 ≤ v.t
 t1 : v.t ≤ 1125899906842624
 few : v.shs.length ≤ 14
 asc : ∀ (i j : Nat) a b, i < j → v.shs[i]? = some a → v.shs[j]? = some b → a.w < b.w
 ok : ∀ s ∈ v.shs, ShOk v s
 last : ∀ (i : Nat) s, v.shs[i]? = some s → s.st = 0 → i + 1 = v.shs.length
 log : v.log = (v.shs.filter fun s => decide (s.st ≠ 0)).map Sh.fz
 sz : ∀ s ∈ v.shs, s.recs.length ≤ n
abbrev KT := Int × Int × Int × Int × Vh × Int × Vh × List Vh × List Rec × Int × List Vh
def Sh.kid (s : Sh) (pk : List Vh) : KT := (s.w, s.st, s.sn.1, s.sn.2.1, s.sn.2.2.1, s.sn.2.2.2.1, s.sn.2.2.2.2, s.lv, s.recs.take s.left, (s.recs.length : Int), pk)
structure Kids (ss : List Sh) (xs : List KT) : Prop where
 len : xs.length = ss.length
 g : ∀ (i : Nat) s, ss[i]? = some s → ∃ pk, xs[i]? = some (s.kid pk) ∧ Stk 0 s.recs.length pk.reverse s.lv
theorem dE (s : Sh) : s.lv.length = s.recs.length := by simp [Sh.lv]
theorem Kids.get {ss : List Sh} {xs : List KT} (K : Kids ss xs) {i : Nat} {s : Sh} (h : ss[i]? = some s) : ∃ pk, at_ T3 xs (i : Int) = s.kid pk ∧ Stk 0 s.recs.length pk.reverse s.lv := by
 obtain ⟨pk, h1, h2⟩ := K.g i s h
 have hi := (List.getElem?_eq_some_iff.1 h1).1
 refine ⟨pk, ?_, h2⟩
 have := bL (t := T3) (l := xs) (n := i) hi
 rw [this]
 rw [List.getElem?_eq_getElem hi] at h1
 exact Option.some.inj h1
theorem Kids.inr {ss : List Sh} {xs : List KT} (K : Kids ss xs) {i : Nat} {s : Sh} (h : ss[i]? = some s) : inR (i : Int) (ae xs) := by
 have := (List.getElem?_eq_some_iff.1 h).1
 exact ⟨by omega, by unfold ae; rw [K.len]; omega⟩
theorem Kids.set {ss : List Sh} {xs : List KT} (K : Kids ss xs) {i : Nat} {s : Sh} {pk : List Vh} (hk : Stk 0 s.recs.length pk.reverse s.lv) : Kids (ss.set i s) (bA xs (i : Int) (s.kid pk)) := by
 refine ⟨by simp [K.len], fun j s' hj => ?_⟩
 by_cases e : i = j
 ·subst e
  have hi : i < ss.length := by have := (List.getElem?_eq_some_iff.1 hj).1; simpa using this
  rw [List.getElem?_set, if_pos rfl, if_pos hi] at hj
  cases hj
  refine ⟨pk, ?_, hk⟩
  show (xs.set (Int.toNat (i : Int)) _)[i]? = _
  rw [Int.toNat_natCast, List.getElem?_set, if_pos rfl, if_pos (by rw [K.len]; exact hi)]
 ·rw [List.getElem?_set, if_neg e] at hj
  obtain ⟨pk', h1, h2⟩ := K.g j s' hj
  refine ⟨pk', ?_, h2⟩
  show (xs.set (Int.toNat (i : Int)) _)[j]? = _
  rw [Int.toNat_natCast, List.getElem?_set, if_neg e]
  exact h1
theorem Kids.snoc {ss : List Sh} {xs : List KT} (K : Kids ss xs) {s : Sh} {pk : List Vh} (hk : Stk 0 s.recs.length pk.reverse s.lv) : Kids (ss ++ [s]) (xs ++ [s.kid pk]) := by
 refine ⟨by simp [K.len], fun j s' hj => ?_⟩
 rcases Nat.lt_or_ge j ss.length with h | h
 ·rw [List.getElem?_append_left h] at hj
  obtain ⟨pk', h1, h2⟩ := K.g j s' hj
  exact ⟨pk', by rw [List.getElem?_append_left (by rw [K.len]; exact h)]; exact h1, h2⟩
 ·rw [List.getElem?_append_right h] at hj
  have : j = ss.length := by
   have := (List.getElem?_eq_some_iff.1 hj).1
   simp at this; omega
  subst this
  simp at hj
  subst hj
  exact ⟨pk, by rw [← K.len]; simp, hk⟩
theorem Kids.nil : Kids [] [] := ⟨rfl, fun i s h => by simp at h⟩
structure PR (v : Va) (xs : List KT) (lv : List Vh) (n : Int) (pk : List Vh) : Prop where
 kids : Kids v.shs xs
 inv : Inv v.log lv n pk
theorem lZ {l : List Sh} {w : Int} {i : Nat} (h : fnd l w = some i) : ∃ s, l[i]? = some s ∧ s.w = w := by
 unfold fnd at h
 obtain ⟨hi, h1, _⟩ := List.findIdx?_eq_some_iff_getElem.1 h
 exact ⟨l[i], List.getElem?_eq_getElem hi, by simpa using h1⟩
theorem Ah {l : List Sh} {w : Int} (h : fnd l w = none) : ∀ s ∈ l, s.w ≠ w := by
 unfold fnd at h
 intro s hs e
 have := List.findIdx?_eq_none_iff.1 h s hs
 simp [e] at this
theorem CB {α : Type} {p : α → Bool} (l : List α) (r : Option Nat) (h : l.findIdx? p = r) : (∀ j (hj : j < l.length), (∀ i, r = some i → j < i) → p l[j] = false) ∧ (∀ i, r = some i → ∃ hi : i < l.length, p l[i] = true) := by
 subst h
 constructor
 ·intro j hj hr
  cases hc : l.findIdx? p with
  | none => simpa using List.findIdx?_eq_none_iff.1 hc _ (List.getElem_mem hj)
  | some i =>
    obtain ⟨hi, _, h3⟩ := List.findIdx?_eq_some_iff_getElem.1 hc
    have := h3 j (hr i hc)
    simpa using this
 ·intro i hi
  obtain ⟨h1, h2, _⟩ := List.findIdx?_eq_some_iff_getElem.1 hi
  exact ⟨h1, h2⟩
theorem DU {ss : List Sh} {xs : List KT} (K : Kids ss xs) (w : Int) (hb : ss.length ≤ 900) : fb 1000 (xs, w) = some (match fnd ss w with | some i => (i : Int) | none => -1) := by
 obtain ⟨r, hr⟩ : ∃ r, r = fnd ss w := ⟨_, rfl⟩
 obtain ⟨q1, q2⟩ := CB ss r hr.symm
 rw [← hr]
 unfold fb
 dsimp only
 refine fx (fun dd h => ∃ i : Nat, h = (i : Int) ∧ i + dd = ss.length ∧ ∀ m, r = some m → i ≤ m) (fun e => (r = none ∧ e = .inr ()) ∨ ∃ m : Nat, r = some m ∧ e = .inl (m : Int)) ss.length (by omega) ⟨0, rfl, by omega, fun m _ => Nat.zero_le _⟩ ?_ ?_
 ·rintro dd _ ⟨i, rfl, hi, ha⟩
  by_cases h1 : i < ss.length
  ·have hs : ss[i]? = some ss[i] := List.getElem?_eq_getElem h1
   obtain ⟨pk, ek, _⟩ := K.get hs
   rw [be (K.inr hs).2, ag, aa (K.inr hs), aa (K.inr hs), aa (K.inr hs), ek]
   unfold ez Sh.kid
   dsimp only
   rw [Option.bind_some]
   by_cases hw : ss[i].w = w
   ·rw [cu hw, ag]
    have : r = some i := by
     cases hc : r with
     | none =>
       have := q1 i h1 (fun m hm => by rw [hc] at hm; cases hm)
       simp [hw] at this
     | some m =>
       have h2 := ha m hc
       by_cases e : i = m
       ·rw [e]
       ·have := q1 i h1 (fun m' hm => by rw [hc] at hm; cases hm; omega)
        simp [hw] at this
    exact .out (.inr ⟨i, this, rfl⟩)
   ·rw [cU hw, ac, av (by omega) (by omega)]
    refine .on (dd - 1) (by omega) ⟨i + 1, by omega, by omega, fun m hm => ?_⟩
    have := ha m hm
    obtain ⟨h3, h4⟩ := q2 m hm
    by_cases e : i = m
    ·subst e; simp at h4; exact absurd h4 hw
    ·omega
  ·rw [aM (show ae xs ≤ (i : Int) by unfold ae; rw [K.len]; omega), ac]
   refine .out (.inl ⟨?_, rfl⟩)
   cases hc : r with
   | none => rfl
   | some m => have := ha m hc; obtain ⟨h3, _⟩ := q2 m hc; omega
 ·rintro e (⟨h, rfl⟩ | ⟨m, h, rfl⟩)
  ·rw [h]; rfl
  ·rw [h]; rfl
theorem rD {ss : List Sh} {xs : List KT} (K : Kids ss xs) (w : Int) (hb : ss.length ≤ 900) (a b : Int) (c : ByteArray) (d : Int) (e : List Fz) (f : List Vh) (g : Int) (h : List Vh) :
 bR 1000 (w, a, b, c, d, xs, e, f, g, h) = some (match fnd ss w with | some i => .inr (i : Int) | none => .inl ()) := by
 unfold bR
 dsimp only
 rw [DU K w hb, Option.bind_some]
 cases hf : fnd ss w with
 | none => rfl
 | some i =>
   obtain ⟨s, h1, _⟩ := lZ hf
   have e0 : ilt ((i : Nat) : Int) 0 = false := aM (Int.natCast_nonneg i)
   show ai (ilt ((i : Nat) : Int) 0) _ (af _ (af _ (some (Sum.inr ((i : Nat) : Int))))) = _
   rw [e0, ac, aa (K.inr h1), aa (K.inr h1)]
theorem sF {v : Va} {w : Int} (h : fnd v.shs w = none) : Ag v w = none := by unfold Ag; rw [h]; rfl
theorem oV {v : Va} {w : Int} {i : Nat} {s : Sh} (h : fnd v.shs w = some i) (hs : v.shs[i]? = some s) : Ag v w = some s := by unfold Ag; rw [h]; exact hs
section
variable {v : Va} {N : Nat} {xs : List KT} {lv : List Vh} {n : Int} {pk : List Vh}
theorem Ha (I : VI v N) (R : PR v xs lv n pk) (op a b c : Int) (d : ByteArray) :
 ff 1000 (op, a, b, c, d, v.W, v.T, mkB v.key, v.t, xs, v.log, lv, n, pk) = some ((oz v a b).tup ((oz v a b).path, (oz v a b).cp, (oz v a b).cs)) := by
 unfold ff
 dsimp only
 rw [rD R.kids a (by have := I.few; omega), Option.bind_some]
 unfold oz
 cases hf : fnd v.shs a with
 | none => rw [sF hf]; rfl
 | some i =>
   obtain ⟨s, h1, _⟩ := lZ hf
   rw [oV hf h1]
   have O := I.ok s (List.mem_of_getElem? h1)
   obtain ⟨pk1, ek, hst⟩ := R.kids.get h1
   dsimp only
   rw [au, aa (R.kids.inr h1), ek]
   unfold Sh.kid jk
   dsimp only
   have hl : ae s.lv = (s.recs.length : Int) := by unfold ae; rw [dE]
   by_cases c0 : b < 0
   ·rw [lS c0, ac, Option.bind_some, if_pos (.inl c0)]
    rfl
   by_cases c1 : (s.recs.length : Int) ≤ b
   ·rw [fA (by omega), ag, aM (by rw [hl]; exact c1), Bool.not_false, ag, Option.bind_some, if_pos (.inr c1)]
    rfl
   rw [fA (by omega), ag, be (by rw [hl]; omega), Bool.not_true, ac, if_neg (by omega)]
   by_cases c2 : s.st = 2
   ·rw [cu c2, ag, Option.bind_some, if_pos c2]
    dsimp only
    rw [cu rfl, ag, aa (R.kids.inr h1)]
    unfold gY
    dsimp only
    rw [eh c2, ac]
    rfl
   ·have hfull := O.full c2
    have hb : b.toNat < s.recs.length := by omega
    have e2 : at_ T2 (s.recs.take s.left) b = s.recs.getD b.toNat zR := by
     obtain ⟨m, rfl⟩ : ∃ m : Nat, b = (m : Int) := ⟨b.toNat, by omega⟩
     rw [hfull, List.take_length]
     have := bL (t := T2) (l := s.recs) (n := m) (by omega)
     rw [this, Int.toNat_natCast, List.getD_eq_getElem?_getD, List.getElem?_eq_getElem (by omega)]
     rfl
    rw [cU c2, ac, aa ⟨by omega, by unfold ae; rw [hfull, List.take_length]; omega⟩, Option.bind_some, if_neg c2, e2]
    dsimp only
    rw [cU (by decide), ac]
    rfl
theorem Ai (s : Sh) (pk1 : List Vh) (i m : Int) (h : s.recs.length ≤ 512) (st : Int) (a b : Int) (c : Vh) (d : Int) (e : Vh) (rows : List Rec) (n : Int) :
 aR 1000 (i, m, s.w, st, a, b, c, d, e, ak, s.lv, rows, n, pk1) = some (jo s.lv i m) := by
 unfold jo
 have hl := dE s
 by_cases h1 : m < 1 ∨ (s.lv.length : Int) < m
 ·rw [if_pos (by omega), DO a b c d e h1]
 ·obtain ⟨M, rfl⟩ : ∃ M : Nat, m = (M : Int) := ⟨m.toNat, by omega⟩
  by_cases h2 : i < 0
  ·rw [if_pos (by omega)]
   unfold aR
   dsimp only
   rw [aM (by omega), ac, jd (show (M : Int) ≤ ae s.lv by unfold ae; omega), ac, aa ⟨by omega, by omega, by unfold ae; omega, rfl⟩, xl (.inl h2), Option.bind_some]
   rfl
  ·obtain ⟨I, rfl⟩ : ∃ I : Nat, i = (I : Int) := ⟨i.toNat, by omega⟩
   by_cases h3 : M ≤ I
   ·rw [if_pos (by omega), GT a b c d e h3 (by omega) (by omega)]
   ·rw [if_neg (by omega), GS a b c d e (by omega) (by omega) (by omega)]
    simp
theorem DV (I : VI v N) (hN : N ≤ 500) (R : PR v xs lv n pk) (op a b c : Int) (d : ByteArray) :
 dY 1000 (op, a, b, c, d, v.W, v.T, mkB v.key, v.t, ak, xs, v.log, lv, n, pk) = some ((cL v a b c).tup ((cL v a b c).path, (cL v a b c).cp, (cL v a b c).cs)) := by
 unfold dY
 dsimp only
 rw [rD R.kids a (by have := I.few; omega), Option.bind_some]
 unfold cL
 cases hf : fnd v.shs a with
 | none => rw [sF hf]; rfl
 | some i =>
   obtain ⟨s, h1, _⟩ := lZ hf
   rw [oV hf h1]
   have hsz := I.sz s (List.mem_of_getElem? h1)
   obtain ⟨pk1, ek, hst⟩ := R.kids.get h1
   dsimp only
   rw [au, aa (R.kids.inr h1), ek]
   unfold Sh.kid
   dsimp only
   rw [Ai s pk1 b c (by omega), Option.bind_some]
   rfl
theorem rE (I : VI v N) : v.log.length ≤ 14 := by
 rw [I.log, List.length_map]
 exact Nat.le_trans (List.length_filter_le ..) I.few
theorem Bz (R : PR v xs lv n pk) : lv = v.lfs := R.inv.lv_eq
theorem Aj (I : VI v N) (R : PR v xs lv n pk) {β : Type} (f : Hd → Option β) :
 ai (ieq (ae v.log) 0) ((dM 1000 (([] : List ByteArray), ak)).bind fun r0 => (fg 1000 (mkB v.key, (ae v.log), r0, v.t, ak)).bind fun r1 => f r1)
  ((aX 1000 (n, ak, pk)).bind fun r0 => (fg 1000 (mkB v.key, (ae v.log), r0, v.t, ak)).bind fun r1 => f r1) = f (By v) := by
 have hl := rE I
 have hh := GZ v.key I.key v.log.length (by omega) (rt 40 v.lfs) I.t0 I.t1
 by_cases h0 : v.log = []
 ·have e1 : ae v.log = 0 := by rw [h0]; rfl
  have e2 : rt 40 v.lfs = nil0 := by unfold Va.lfs; rw [h0]; rfl
  have hs := qj [] (by simp) (by simp)
  rw [cu e1, ag]
  refine aj (hs.trans (congrArg some e2.symm)) ?_
  exact aj hh rfl
 ·have e1 : ae v.log ≠ 0 := by
   unfold ae
   have := List.length_pos_iff.2 h0
   omega
  rw [cU e1, ac]
  refine aj (GE R.inv h0 (by omega)) ?_
  rw [Bz R]
  exact aj hh rfl
theorem KH (I : VI v N) (R : PR v xs lv n pk) (op a b c : Int) (d : ByteArray) :
 fh 1000 (op, a, b, c, d, v.W, v.T, mkB v.key, v.t, ak, xs, v.log, lv, n, pk) = some ((vC v).tup ((vC v).path, (vC v).cp, (vC v).cs)) := by
 unfold fh
 dsimp only
 exact Aj I R (fun r1 : Hd => some ((0, 0, 0, 0, 0, 0, aG, 0, 0, (Vector.replicate 32 0), 0, (Vector.replicate 32 0), r1.1, r1.2.1, r1.2.2.1, r1.2.2.2, 0, 0, (Vector.replicate 32 0), 0, 0, (Vector.replicate 32 0), 0, (Vector.replicate 32 0), ([] : List (Vector Int 32)), ([] : List (Vector Int 32)), ([] : List (Vector Int 32)))))
theorem DW (R : PR v xs lv n pk) (hl : v.log.length ≤ 512) (m k : Int) : bE 1000 (m, k, ak, v.log, lv, n, pk) = some (oU v.lfs m k) := by
 have e := Bz R
 subst e
 have hl2 : v.lfs.length = v.log.length := by simp [Va.lfs]
 unfold oU
 by_cases h1 : k < 1 ∨ (v.lfs.length : Int) < k
 ·rw [if_pos (by omega)]
  unfold bE
  dsimp only
  rw [GU v.log _ n pk h1]
  rfl
 ·obtain ⟨K, rfl⟩ : ∃ K : Nat, k = (K : Int) := ⟨k.toNat, by omega⟩
  by_cases h2 : m < 1 ∨ (K : Int) < m
  ·rw [if_pos (by omega)]
   unfold bE
   dsimp only
   rw [sE v.log _ n pk (by omega) (by omega), Option.bind_some]
   dsimp only
   rw [eh rfl, ac, (Bv (by rw [List.length_take]; omega)).1, Option.bind_some]
   rfl
  ·obtain ⟨M, rfl⟩ : ∃ M : Nat, m = (M : Int) := ⟨m.toNat, by omega⟩
   rw [if_neg (by omega), DP v.log _ n pk (by omega) (by omega) (by omega) (by omega)]
   simp
theorem KI (I : VI v N) (R : PR v xs lv n pk) (op a b c : Int) (d : ByteArray) :
 ee 1000 (op, a, b, c, d, v.W, v.T, mkB v.key, v.t, ak, xs, v.log, lv, n, pk) = some ((rC v a b).tup ((rC v a b).path, (rC v a b).cp, (rC v a b).cs)) := by
 unfold ee
 dsimp only
 rw [DW R (by have := rE I; omega), Option.bind_some]
 rfl
end
theorem Kids.get2 {ss : List Sh} {xs : List KT} (K : Kids ss xs) {i : Nat} {s : Sh} (h : ss[i]? = some s) : ∃ pk, at_ T3 xs (i : Int) = s.kid pk ∧ Stk 0 s.lv.length pk.reverse s.lv := by
 obtain ⟨pk, h1, h2⟩ := K.get h
 exact ⟨pk, h1, by rw [dE]; exact h2⟩
theorem Hb {s : Sh} {pk : List Vh} (h : Stk 0 s.lv.length pk.reverse s.lv) : Stk 0 s.recs.length pk.reverse s.lv := by rw [← dE]; exact h
theorem Kids.at_set {xs : List KT} {i : Nat} (h : i < xs.length) (k : KT) : at_ T3 (bA xs (i : Int) k) (i : Int) = k := by
 have e : bA xs (i : Int) k = xs.set i k := by unfold bA; rw [Int.toNat_natCast]
 rw [e]
 have := bL (t := T3) (l := xs.set i k) (n := i) (by rw [List.length_set]; exact h)
 rw [this]
 simp
theorem vD {α : Type} {l : List α} {i : Nat} {s : α} (h : l[i]? = some s) : l.set i s = l := by
 obtain ⟨hi, rfl⟩ := List.getElem?_eq_some_iff.1 h
 exact List.set_getElem_self hi
theorem KJ (t : Int) (d : ByteArray) (w st : Int) (a b : Int) (c : Vh) (e : Int) (f : Vh) (lv : List Vh) (rows : List Rec) (n : Int) (pk : List Vh) (h : st ≠ 0) :
 aS 1000 (t, d, w, st, a, b, c, e, f, ak, lv, rows, n, pk) = some (0, 13, w, st, a, b, c, e, f, n, lv, rows, pk) := by
 unfold aS
 dsimp only
 rw [rn h, ag]
theorem CD {t : Int} {d : ByteArray} {w : Int} (a b : Int) (c : Vh) (e : Int) (f : Vh) (lv : List Vh) (rows : List Rec) (n : Int) (pk : List Vh) (h : 2000 < d.size) (hl : lv.length ≤ 500) (w0 : 0 ≤ w) (w1 : w ≤ 1125899906842624) (t0 : 0 ≤ t) (t1 : t ≤ 1125899906842624) :
 aS 1000 (t, d, w, 0, a, b, c, e, f, ak, lv, rows, n, pk) = some (0, 11, w, 0, a, b, c, e, f, n, lv, rows, pk) := by
 unfold aS
 dsimp only
 rw [eh rfl, ac, lS (show ae lv < 4000 by unfold ae; omega), ac]
 have hc : dw 1000 (w, ae lv, t, d) = some 11 := by
  unfold dw
  dsimp only
  rw [fA w0, ag, lR w1, Bool.not_true, ac, fA t0, ag, lR t1, Bool.not_true, ac, fA (show 0 ≤ ae lv by unfold ae; omega), ag, lR (show ae lv ≤ 3999 by unfold ae; omega), Bool.not_true, ac, om (show (2000 : Int) < cZ d by show (2000 : Int) < ((d.size : Nat) : Int); omega), ag]
 refine aj hc ?_
 rw [rn (by decide), ag]
section
variable {v : Va} {N : Nat} {xs : List KT} {lv : List Vh} {n : Int} {pk : List Vh}
theorem Ak (I : VI v N) {s : Sh} (O : ShOk v s) : s.w ≤ 1125899906842624 := by
 have h2 : v.t / v.W ≤ v.t := Int.ediv_le_self _ I.t0
 have := O.w1
 have := I.t1
 omega
theorem Hc (I : VI v N) : 0 ≤ v.t / v.W ∧ v.t / v.W ≤ 1125899906842624 := by
 have h1 : 0 ≤ v.t / v.W := Int.ediv_nonneg I.t0 (by have := I.W0; omega)
 have h2 : v.t / v.W ≤ v.t := Int.ediv_le_self _ I.t0
 have := I.t1
 omega
theorem CE (s : Sh) {pk1 : List Vh} (hst : Stk 0 s.lv.length pk1.reverse s.lv) (h0 : s.st = 0) (hf : s.left = s.recs.length) {t : Int} {d : ByteArray} (hs : d.size ≤ 2000) (hl : s.recs.length ≤ 60) (w0 : 0 ≤ s.w) (w1 : s.w ≤ 1125899906842624) (t0 : 0 ≤ t) (t1 : t ≤ 1125899906842624) :
 ∃ pk', aS 1000 (t, d, s.w, s.st, s.sn.1, s.sn.2.1, s.sn.2.2.1, s.sn.2.2.2.1, s.sn.2.2.2.2, ak, s.lv, s.recs.take s.left, (s.recs.length : Int), pk1) =
  some ((s.recs.length : Int), 0, s.w, s.st, s.sn.1, s.sn.2.1, s.sn.2.2.1, s.sn.2.2.2.1, s.sn.2.2.2.2, ((s.put t d).recs.length : Int), (s.put t d).lv, (s.put t d).recs.take (s.put t d).left, pk') ∧ Stk 0 (s.put t d).lv.length pk'.reverse (s.put t d).lv := by
 have hll := dE s
 have hm : Aa s.w (s.lv.length : Int) t d := ⟨⟨w0, w1⟩, ⟨t0, t1⟩, ⟨by omega, by omega⟩, hs⟩
 obtain ⟨pk', h1, h2⟩ := LN (rows := s.recs) hm s.sn.1 s.sn.2.1 s.sn.2.2.1 s.sn.2.2.2.1 s.sn.2.2.2.2 hst (by omega) (by omega)
 have e1 : (s.put t d).lv = s.lv ++ [lfR (s.w, (s.lv.length : Int), t, d)] := by simp [Sh.put, Sh.lv]
 have e2 : (s.put t d).recs.take (s.put t d).left = s.recs ++ [(s.w, (s.lv.length : Int), t, d)] := by
  simp only [Sh.put, hll]
  rw [List.take_of_length_le (by simp)]
 have e3 : ((s.put t d).recs.length : Int) = ((s.lv.length + 1 : Nat) : Int) := by simp [Sh.put, hll]
 refine ⟨pk', ?_, by rw [e1, List.length_append]; exact h2⟩
 rw [e1, e2, e3, hf, List.take_length, h0, show ((s.recs.length : Nat) : Int) = (s.lv.length : Int) by omega]
 exact h1
theorem Ip (I : VI v N) (hN : N ≤ 59) (R : PR v xs lv n pk) (op a b c : Int) (d : ByteArray) :
 ∃ xs', ge 1000 (op, a, b, c, d, v.W, v.T, mkB v.key, v.t, ak, xs, v.log, lv, n, pk) = some ((je v d).1.tup (v.W, v.T, mkB v.key, v.t, (je v d).1.path, (je v d).1.cp, (je v d).1.cs, xs')) ∧ Kids (je v d).2.shs xs' := by
 obtain ⟨tw0, tw1⟩ := Hc I
 unfold ge
 dsimp only
 rw [LP I.t0 I.t1 I.W0 I.W1, Option.bind_some, rD R.kids _ (by have := I.few; omega), Option.bind_some]
 unfold je
 cases hf : fnd v.shs (v.t / v.W) with
 | none =>
   dsimp only
   rw [cd]
   have hl : ae xs = (v.shs.length : Int) := by unfold ae; rw [R.kids.len]
   by_cases h14 : 14 ≤ v.shs.length
   ·rw [fA (by rw [hl]; omega), ag, Option.bind_some, if_pos h14]
    exact ⟨xs, rfl, R.kids⟩
   ·rw [lS (by rw [hl]; omega), ac, aM tw0, ac, jd tw1, ac, Option.bind_some, if_neg h14]
    rw [au, au]
    by_cases h2 : 2000 < d.size
    ·rw [CD (lv := []) _ _ _ _ _ _ _ _ h2 (by simp) tw0 tw1 I.t0 I.t1, Option.bind_some, if_pos h2]
     dsimp only
     rw [rn (by decide), ag]
     exact ⟨xs, rfl, R.kids⟩
    ·obtain ⟨pk', h3, h4⟩ := CE (kn (v.t / v.W)) (pk1 := []) (Stk.zero 0) rfl rfl (t := v.t) (d := d) (by omega) (by simp [kn]) tw0 tw1 I.t0 I.t1
     rw [if_neg h2]
     refine ⟨xs ++ [((kn (v.t / v.W)).put v.t d).kid pk'], ?_, R.kids.snoc (Hb h4)⟩
     refine aj h3 ?_
     dsimp only
     rw [eh rfl, ac, aa (show Bg (ae xs) (ae xs) (ae xs) from ⟨rfl, rfl⟩), aa (show FH _ _ _ from ⟨by have := R.kids.len; simp [xT]; omega, fun _ => by simp [xT]⟩)]
     rfl
 | some i =>
   obtain ⟨s, h1, hw⟩ := lZ hf
   have O := I.ok s (List.mem_of_getElem? h1)
   have hsz := I.sz s (List.mem_of_getElem? h1)
   obtain ⟨pk1, ek, hst⟩ := R.kids.get2 h1
   have wm := Ak I O
   dsimp only
   rw [au, aa (R.kids.inr h1), ek, h1]
   unfold Sh.kid
   dsimp only
   have same : Kids v.shs (bA xs (i : Int) (s.kid pk1)) := by
    have := R.kids.set (i := i) (Hb hst)
    rwa [vD h1] at this
   by_cases h0 : s.st = 0
   ·rw [if_neg (by simp [h0])]
    by_cases h2 : 2000 < d.size
    ·rw [h0, CD _ _ _ _ _ _ _ _ _ h2 (by rw [dE]; omega) O.w0 wm I.t0 I.t1, Option.bind_some, if_pos h2]
     dsimp only
     rw [rn (by decide), ag]
     refine ⟨bA xs (i : Int) (s.kid pk1), ?_, same⟩
     unfold Sh.kid
     rw [h0]
     rfl
    ·obtain ⟨pk', h3, h4⟩ := CE s hst h0 (O.full (by omega)) (t := v.t) (d := d) (by omega) (by omega) O.w0 wm I.t0 I.t1
     rw [if_neg h2]
     refine ⟨bA xs (i : Int) ((s.put v.t d).kid pk'), ?_, R.kids.set (Hb h4)⟩
     refine aj h3 ?_
     dsimp only
     rw [eh rfl, ac]
     rfl
   ·rw [if_pos h0, KJ _ _ _ _ _ _ _ _ _ _ _ _ _ h0, Option.bind_some]
    dsimp only
    rw [rn (by decide), ag]
    exact ⟨bA xs (i : Int) (s.kid pk1), rfl, same⟩
theorem yj (I : VI v N) (hN : N ≤ 4000) {s : Sh} (hs : s ∈ v.shs) : rx s.w (s.recs.length : Int) := by
 have O := I.ok s hs
 have := I.sz s hs
 have := O.some1
 exact ⟨O.w0, Ak I O, by omega, by omega⟩
theorem xn (s : Sh) (pk1 : List Vh) (h : s.st = 0) (rows : List Rec) (n : Int) : bt 1000 (s.w, s.st, s.sn.1, s.sn.2.1, s.sn.2.2.1, s.sn.2.2.2.1, s.sn.2.2.2.2, ak, s.lv, rows, n, pk1) = some (0, 0, z32, false) := by
 unfold bt
 dsimp only
 rw [cu h, ag]
theorem qn (s : Sh) {pk1 : List Vh} (hst : Stk 0 s.lv.length pk1.reverse s.lv) (hl : s.recs.length ≤ 500) (h : s.st ≠ 0) (rows : List Rec) : bt 1000 (s.w, s.st, s.sn.1, s.sn.2.1, s.sn.2.2.1, s.sn.2.2.2.1, s.sn.2.2.2.2, ak, s.lv, rows, (s.recs.length : Int), pk1) = some (s.w, (s.recs.length : Int), rt 40 s.lv, true) := by
 unfold bt
 dsimp only
 have := yi (w := s.w) (s := s.st) (rows := rows) s.sn.1 s.sn.2.1 s.sn.2.2.1 s.sn.2.2.2.1 s.sn.2.2.2.2 hst (by rw [dE]; omega)
 rw [dE] at this
 rw [cU h, ac, this]
 rfl
theorem He (I : VI v N) {s : Sh} (hs : s ∈ v.shs) (h : s.st ≠ 0) (lv : List Vh) (n : Int) (pk : List Vh) : cD 1000 (s.w, v.log, lv, n, pk) = some ((jE v s.w : Int), true) ∧ jE v s.w < v.log.length ∧ v.log[jE v s.w]? = some s.fz := by
 have hl := rE I
 have hin : s.fz ∈ v.log := by
  rw [I.log]
  exact List.mem_map.2 ⟨s, List.mem_filter.2 ⟨hs, by simpa using h⟩, rfl⟩
 rcases Ih v.log s.w lv n pk (by omega) with ⟨i, hi, h1, h2, h3⟩ | ⟨_, h1⟩
 ·have e : jE v s.w = i := by
   unfold jE
   have : v.log.findIdx? (fun f => f.1 == s.w) = some i := List.findIdx?_eq_some_iff_getElem.2 ⟨hi, by simpa using h2, fun j hj => by simpa using h3 j hj⟩
   rw [this]; rfl
  rw [e]
  refine ⟨h1, hi, ?_⟩
  rw [List.getElem?_eq_getElem hi]
  have hmem : v.log[i] ∈ v.log := List.getElem_mem hi
  have hmem2 : v.log[i] ∈ (v.shs.filter fun s => decide (s.st ≠ 0)).map Sh.fz := by rw [← I.log]; exact hmem
  obtain ⟨u, hu, he⟩ := List.mem_map.1 hmem2
  have hu' := (List.mem_filter.1 hu).1
  have hw : u.w = s.w := by rw [← he] at h2; exact h2
  obtain ⟨j, hj⟩ := List.mem_iff_getElem?.1 hu'
  obtain ⟨k, hk⟩ := List.mem_iff_getElem?.1 hs
  have : j = k := by
   rcases Nat.lt_trichotomy j k with h | h | h
   ·have := I.asc j k u s h hj hk; omega
   ·exact h
   ·have := I.asc k j s u h hk hj; omega
  subst this
  rw [hj] at hk
  cases hk
  rw [← he]
 ·exact absurd rfl (h1 _ hin)
theorem Hf (I : VI v N) (hN : N ≤ 500) (R : PR v xs lv n pk) (op a b c : Int) (d : ByteArray) :
 fq 1000 (op, a, b, c, d, v.W, v.T, mkB v.key, v.t, ak, xs, v.log, lv, n, pk) = some ((oA v a b).tup ((oA v a b).path, (oA v a b).cp, (oA v a b).cs)) := by
 unfold fq
 dsimp only
 rw [rD R.kids a (by have := I.few; omega), Option.bind_some]
 unfold oA
 cases hf : fnd v.shs a with
 | none => rw [sF hf]; rfl
 | some i =>
   obtain ⟨s, h1, hw⟩ := lZ hf
   subst hw
   rw [oV hf h1]
   have hmem := List.mem_of_getElem? h1
   have hsz := I.sz s hmem
   obtain ⟨pk1, ek, hst⟩ := R.kids.get2 h1
   dsimp only
   rw [au]
   have hl : ae s.lv = (s.recs.length : Int) := by unfold ae; rw [dE]
   by_cases c0 : b < 0
   ·rw [be c0, ag, if_pos (.inl c0)]; rfl
   rw [aM (by omega), ac, aa (R.kids.inr h1), ek]
   unfold Sh.kid
   dsimp only
   by_cases c1 : (s.recs.length : Int) ≤ b
   ·rw [fA (by rw [hl]; exact c1), ag, if_pos (.inr c1)]; rfl
   rw [lS (by rw [hl]; omega), ac, aa (R.kids.inr h1), if_neg (by omega)]
   by_cases c2 : s.st = 0
   ·rw [xn s _ c2, Option.bind_some, if_pos c2]; rfl
   ·obtain ⟨p1, p2, p3⟩ := He I hmem c2 lv n pk
    have elv := Bz R
    subst elv
    have hlf : v.lfs.length = v.log.length := by simp [Va.lfs]
    have hll := rE I
    rw [qn s hst (by omega) c2, Option.bind_some, if_neg c2]
    dsimp only
    rw [Bool.not_true, ac, aa (R.kids.inr h1), aa (R.kids.inr h1), hl, Ai s pk1 b (s.recs.length : Int) (by omega), Option.bind_some, p1, Option.bind_some]
    dsimp only
    rw [show ae v.log = (v.log.length : Int) from rfl, GW v.log v.lfs n pk p2 (by omega) (by omega), Option.bind_some]
    have e2 : jo s.lv b (s.recs.length : Int) = (0, pth false 40 b.toNat s.lv) := by
     unfold jo
     rw [dE, if_neg (by omega), Int.toNat_natCast, List.take_of_length_le (by rw [dE]; exact Nat.le_refl _)]
    have e3 : v.lfs.take v.log.length = v.lfs := List.take_of_length_le (by omega)
    rw [e2, e3]
    exact Aj I R (fun r6 : Hd => some ((0, 0, 0, 0, 0, 0, aG, 0, 0, (Vector.replicate 32 0), 0, (Vector.replicate 32 0), 0, (Vector.replicate 32 0), 0, (Vector.replicate 32 0), s.w, (s.recs.length : Int), rt 40 s.lv, (jE v s.w : Int), r6.1, r6.2.1, r6.2.2.1, r6.2.2.2, ([] : List (Vector Int 32)), pth false 40 b.toNat s.lv, pth false 40 (jE v s.w) v.lfs)))
end
section
variable {v : Va} {N : Nat} {xs : List KT} {lv : List Vh} {n : Int} {pk : List Vh}
theorem Hg (I : VI v N) {s : Sh} (hs : v.shs[v.shs.length - 1]? = some s) (h0 : s.st = 0) : xf v.log < s.w := by
 have O := I.ok s (List.mem_of_getElem? hs)
 unfold xf
 cases hl : v.log.getLast? with
 | none => simp; have := O.w0; omega
 | some f =>
   have hf : f ∈ v.log := List.mem_of_getLast? hl
   have hf2 : f ∈ (v.shs.filter fun s => decide (s.st ≠ 0)).map Sh.fz := by rw [← I.log]; exact hf
   obtain ⟨u, hu, rfl⟩ := List.mem_map.1 hf2
   obtain ⟨hu1, hu2⟩ := List.mem_filter.1 hu
   obtain ⟨j, hj⟩ := List.mem_iff_getElem?.1 hu1
   have hjl := (List.getElem?_eq_some_iff.1 hj).1
   have hne : j ≠ v.shs.length - 1 := fun e => by
    rw [e, hs] at hj; cases hj
    simp [h0] at hu2
   have := I.asc j (v.shs.length - 1) u s (by omega) hj hs
   simpa [Sh.fz] using this
theorem Hh (I : VI v N) (hN : N ≤ 500) (R : PR v xs lv n pk) (op a b c : Int) (d : ByteArray) :
 ∃ xs' lv' n' pk', fm 1000 (op, a, b, c, d, v.W, v.T, mkB v.key, v.t, ak, xs, v.log, lv, n, pk) = some ((eP v a).1.tup (v.W, v.T, mkB v.key, (eP v a).2.t, n', (eP v a).1.path, (eP v a).1.cp, (eP v a).1.cs, xs', (eP v a).2.log, lv', pk')) ∧ PR (eP v a).2 xs' lv' n' pk' := by
 unfold fm
 dsimp only
 rw [Io, Option.bind_some]
 unfold eP
 by_cases he : (kR v.t a).2 ≠ 0
 ·rw [rn he, ag, if_pos he]
  exact ⟨xs, lv, n, pk, rfl, R⟩
 rw [eh (by omega), ac, if_neg he]
 have htw : kR v.t a = (a, 0) ∧ okT a = true ∧ v.t ≤ a := by
  unfold kR at he ⊢
  split at he
  ·rename_i h; rw [if_pos h]; exact ⟨rfl, h⟩
  ·exact absurd (show (21 : Int) ≠ 0 by decide) he
 obtain ⟨e1, hok, hle⟩ := htw
 obtain ⟨a0, a1⟩ := Cz.1 hok
 rw [e1]
 dsimp only
 have hl : ae xs = (v.shs.length : Int) := by unfold ae; rw [R.kids.len]
 have keep : ∀ v', v' = ({ v with t := a } : Va) → PR v' xs lv n pk := fun v' h => by subst h; exact ⟨R.kids, R.inv⟩
 by_cases h0 : v.shs.length = 0
 ·have hg : gK ({ v with t := a } : Va) = { v with t := a } := by
   unfold gK
   have : v.shs = [] := List.eq_nil_of_length_eq_zero h0
   simp [this]
  rw [jd (by rw [hl]; omega), ac, Option.bind_some, hg]
  exact ⟨xs, lv, n, pk, rfl, keep _ rfl⟩
 ·have e2 : WK .i64 (ae xs - 1) = ((v.shs.length - 1 : Nat) : Int) := by
   have := I.few
   rw [av (by omega) (by omega)]; omega
  obtain ⟨s, hs⟩ : ∃ s, v.shs[v.shs.length - 1]? = some s := ⟨_, List.getElem?_eq_getElem (by omega)⟩
  have hmem := List.mem_of_getElem? hs
  have O := I.ok s hmem
  have hsz := I.sz s hmem
  have wm := Ak I O
  obtain ⟨pk1, ek, hst⟩ := R.kids.get2 hs
  have hr := R.kids.inr hs
  have hg : gK ({ v with t := a } : Va) = if s.st = 0 ∧ bF s.w v.W a = true then { v with t := a, shs := v.shs.set (v.shs.length - 1) { s with st := 1 }, log := v.log ++ [s.fz] } else { v with t := a } := by
   unfold gK
   dsimp only
   rw [List.getLast?_eq_getElem?, hs]
  rw [om (by rw [hl]; omega), ag, e2, aa hr, aa hr, aa hr, ek, hg]
  unfold Sh.kid
  dsimp only
  by_cases c0 : s.st = 0
  ·rw [cu c0, ag, aa hr, aa hr, aa hr, DS O.w0 wm I.W0 I.W1 a0 a1, Option.bind_some]
   cases hc : bF s.w v.W a with
   | false =>
     rw [ac, Option.bind_some, if_neg (by simp)]
     exact ⟨xs, lv, n, pk, rfl, keep _ rfl⟩
   | true =>
     have hcl := GF (w := s.w) (rows := s.recs.take s.left) s.sn.1 s.sn.2.1 s.sn.2.2.1 s.sn.2.2.2.1 s.sn.2.2.2.2 hst (by rw [dE]; omega) (by rw [dE]; exact O.some1)
     rw [dE] at hcl
     obtain ⟨lv', n', pk', h1, h2⟩ := DC (rt 40 s.lv) (yj I (by omega) hmem) R.inv (by have := rE I; omega) (Hg I hs c0)
     have hst1 : Stk 0 ({ s with st := 1 } : Sh).recs.length pk1.reverse ({ s with st := 1 } : Sh).lv := Hb hst
     rw [ag, aa hr, aa hr, aa hr, c0, hcl, Option.bind_some]
     dsimp only
     rw [cu rfl, ag, h1, Option.bind_some, if_pos ⟨rfl, rfl⟩]
     exact ⟨bA xs ((v.shs.length - 1 : Nat) : Int) (({ s with st := 1 } : Sh).kid pk1), lv', n', pk', rfl, ⟨R.kids.set hst1, h2⟩⟩
  ·rw [cU c0, ac, Option.bind_some, if_neg (by rintro ⟨h, _⟩; exact c0 h)]
   exact ⟨xs, lv, n, pk, rfl, keep _ rfl⟩
theorem Hj (fw fc : Int) (fr : Vh) (t : Int) (m : Vh) (w st : Int) (a b : Int) (c : Vh) (d : Int) (e : Vh) (lv : List Vh) (rows : List Rec) (n : Int) (pk : List Vh) (h : st ≠ 1) :
 bZ 1000 (fw, fc, fr, t, m, w, st, a, b, c, d, e, ak, lv, rows, n, pk) = some (13, w, st, a, b, c, d, e, lv, rows) := by
 unfold bZ
 dsimp only
 rw [rn h, ag]
theorem BA (I : VI v N) (R : PR v xs lv n pk) {j : Nat} {s : Sh} (hj : v.shs[j]? = some s) :
 (af (inR (j : Int) (ae xs)) ((eE 1000 (s.w, v.W, v.T, v.t)).bind fun r1 => ai (!r1) (some (.inl ())) (af (inR (j : Int) (ae xs)) (ai (ieq s.st 2) (af (inR (j : Int) (ae xs)) (ai (ieq (ae (s.recs.take s.left)) 0) (some (.inl ())) (some (.inr ())))) (some (.inr ()))))) : Option (Unit ⊕ Unit)) = some (if old v s = true then .inr () else .inl ()) := by
 have hr := R.kids.inr hj
 have O := I.ok s (List.mem_of_getElem? hj)
 rw [aa hr, Bx O.w0 (Ak I O) I.W0 I.W1 I.T0 I.T1 I.t0 I.t1, Option.bind_some]
 unfold old
 cases vB s.w v.W v.T v.t with
 | false => rfl
 | true =>
   rw [Bool.not_true, ac, aa hr]
   have hlen : ae (s.recs.take s.left) = (s.left : Int) := by unfold ae; rw [List.length_take]; have := O.le; omega
   rw [hlen]
   by_cases h2 : s.st = 2
   ·rw [cu h2, ag, aa hr]
    by_cases h3 : s.left = 0
    ·rw [cu (by omega), ag]; simp [h2, h3]
    ·rw [cU (by omega), ac]; simp [h2, h3]
   ·rw [cU h2, ac]; simp [h2]
theorem sG (s : Sh) (key : List UInt8) (t : Int) (h : s.left ≤ s.recs.length) : (s.give key t).left ≤ (s.give key t).recs.length ∧ (s.give key t).recs = s.recs ∧ (s.give key t).w = s.w := by
 unfold Sh.give
 split
 ·exact ⟨h, rfl, rfl⟩
 ·split
  ·exact ⟨Nat.le_trans (Nat.sub_le _ _) h, rfl, rfl⟩
  ·exact ⟨h, rfl, rfl⟩
theorem Al (I : VI v N) (hN : N ≤ 500) (R : PR v xs lv n pk) (op a b c : Int) (d : ByteArray) :
 ∃ xs', de 1000 (op, a, b, c, d, v.W, v.T, mkB v.key, v.t, ak, xs, v.log, lv, n, pk) = some ((bv v).1.tup (xs', (bv v).1.path, (bv v).1.cp, (bv v).1.cs)) ∧ Kids (bv v).2.shs xs' := by
 have hl : ae xs = (v.shs.length : Int) := by unfold ae; rw [R.kids.len]
 have hfew := I.few
 unfold de
 dsimp only
 obtain ⟨r, hr⟩ : ∃ r, r = v.shs.findIdx? (old v) := ⟨_, rfl⟩
 obtain ⟨q1, q2⟩ := CB v.shs r hr.symm
 unfold bv
 rw [← hr]
 cases r with
 | none =>
   refine ⟨xs, aj (bS (fun i : Nat => (i : Int)) v.shs.length (xs, 0, (-1), 0, 0, 0, 0, aG, 0, 0, z32, 0, z32, 0, z32, 0, z32, 0, 0, z32, 0, 0, z32, 0, z32, ([] : List Vh), ([] : List Vh), ([] : List Vh)) 1000 (fun i hi => ?_) ?_ (by omega)) rfl, R.kids⟩
   ·have hs : v.shs[i]? = some v.shs[i] := List.getElem?_eq_getElem hi
    have hrr := R.kids.inr hs
    obtain ⟨pk1, ek, hst⟩ := R.kids.get2 hs
    have hold := q1 i hi (fun m hm => by cases hm)
    rw [be hrr.2, ag, aa hrr, aa hrr, ek]
    refine aj (BA I R hs) ?_
    rw [hold, if_neg (by decide), cd, av (by omega) (by omega)]
    rfl
   ·rw [aM (show ae xs ≤ (v.shs.length : Int) by omega), ac]
 | some m =>
   obtain ⟨hm, hold⟩ := q2 m rfl
   have hs : v.shs[m]? = some v.shs[m] := List.getElem?_eq_getElem hm
   obtain ⟨s, hse⟩ : ∃ s, s = v.shs[m] := ⟨_, rfl⟩
   rw [← hse] at hs hold
   have hmem := List.mem_of_getElem? hs
   have O := I.ok s hmem
   have hsz := I.sz s hmem
   have hrr := R.kids.inr hs
   have hmx : m < xs.length := by rw [R.kids.len]; exact hm
   obtain ⟨pk1, ek, hst⟩ := R.kids.get2 hs
   have hg := sG s v.key v.t O.le
   have hst' : Stk 0 (s.give v.key v.t).recs.length pk1.reverse (s.give v.key v.t).lv := by
    have e : (s.give v.key v.t).lv = s.lv := by unfold Sh.lv; rw [hg.2.1]
    rw [e, hg.2.1]; exact Hb hst
   dsimp only
   rw [hs]
   dsimp only
   refine ⟨bA xs (m : Int) ((s.give v.key v.t).kid pk1), aj (bS (fun i : Nat => (i : Int)) m (bA xs (m : Int) ((s.give v.key v.t).kid pk1), 0, s.w, ((s.give v.key v.t).left : Int), 0, 0, 0, aG, 0, 0, z32, 0, z32, 0, z32, 0, z32, 0, 0, z32, 0, 0, z32, 0, z32, ([] : List Vh), ([] : List Vh), ([] : List Vh)) 1000 (fun i hi => ?_) ?_ (by omega)) rfl, R.kids.set hst'⟩
   ·have hi' : i < v.shs.length := by omega
    have hs : v.shs[i]? = some v.shs[i] := List.getElem?_eq_getElem hi'
    have hrr := R.kids.inr hs
    obtain ⟨pk1, ek, hst⟩ := R.kids.get2 hs
    have hold := q1 i hi' (fun m' hm' => by cases hm'; exact hi)
    rw [be hrr.2, ag, aa hrr, aa hrr, ek]
    refine aj (BA I R hs) ?_
    rw [hold, if_neg (by decide), cd, av (by omega) (by omega)]
    rfl
   ·rw [be hrr.2, ag, aa hrr, aa hrr, ek]
    refine aj (BA I R hs) ?_
    rw [hold, if_pos rfl, au, aa hrr]
    -- what comes last
    have last : ∀ k : KT, k.1 = s.w → ae k.2.2.2.2.2.2.2.2.1 = ((s.give v.key v.t).left : Int) → k = (s.give v.key v.t).kid pk1 →
     (af (inR (m : Int) (ae (bA xs (m : Int) k))) (af (inR (m : Int) (ae (bA xs (m : Int) k))) (some (.inr ((bA xs (m : Int) k), 0, (at_ T3 (bA xs (m : Int) k) (m : Int)).1, (ae (at_ T3 (bA xs (m : Int) k) (m : Int)).2.2.2.2.2.2.2.2.1), 0, 0, 0, aG, 0, 0, z32, 0, z32, 0, z32, 0, z32, 0, 0, z32, 0, 0, z32, 0, z32, ([] : List Vh), ([] : List Vh), ([] : List Vh)))))) =
     (some (Sum.inr (bA xs (m : Int) ((s.give v.key v.t).kid pk1), (0 : Int), s.w, ((s.give v.key v.t).left : Int), (0 : Int), (0 : Int), (0 : Int), aG, (0 : Int), (0 : Int), z32, (0 : Int), z32, (0 : Int), z32, (0 : Int), z32, (0 : Int), (0 : Int), z32, (0 : Int), (0 : Int), z32, (0 : Int), z32, ([] : List Vh), ([] : List Vh), ([] : List Vh))) : Option (Int ⊕ _)) := fun k k1 k2 k3 => by
     have hin : inR (m : Int) (ae (bA xs (m : Int) k)) := ⟨by omega, by unfold ae bA; rw [List.length_set]; omega⟩
     rw [aa hin, aa hin, Kids.at_set hmx, k1, k2, ← k3]
    have hlg : ∀ u : Sh, u = s.give v.key v.t → ae (u.recs.take u.left) = ((s.give v.key v.t).left : Int) := fun u hu => by
     subst hu
     unfold ae
     rw [List.length_take]
     have := hg.1; omega
    have hlive : ae (bA xs (m : Int) (s.kid pk1)) = ae xs := by unfold ae bA; rw [List.length_set]
    rcases O.st with h | h | h
    ·-- open: nothing
     have eg : s.give v.key v.t = s := by unfold Sh.give; rw [if_neg (by omega), if_neg (by omega)]
     have exs : bA xs (m : Int) (s.kid pk1) = xs := by
      unfold bA
      rw [Int.toNat_natCast]
      refine vD ?_
      have := bL (t := T3) (l := xs) (n := m) hmx
      rw [ek] at this
      rw [List.getElem?_eq_getElem hmx, ← this]
     refine aj (xn s pk1 h (s.recs.take s.left) (s.recs.length : Int)) ?_
     dsimp only
     rw [ac, Option.bind_some]
     have := last (s.kid pk1) rfl (hlg s eg.symm) (by rw [eg])
     rw [exs] at this
     exact this
    ·-- frozen: it is pruned
     have eg : s.give v.key v.t = { s with st := 2, sn := (s.w, (s.recs.length : Int), rt 40 s.lv, v.t, zZ v.key (dU s.w (s.recs.length : Int) (rt 40 s.lv) v.t)) } := by unfold Sh.give; rw [if_pos h]
     refine aj (qn s hst (by omega) (by omega) (s.recs.take s.left)) ?_
     dsimp only
     have hF := yj I (by omega) hmem
     rw [ag, xm hF (rt 40 s.lv) I.t0 I.t1 v.key I.key, Option.bind_some, aa hrr]
     have hp := GG (w := s.w) (t := v.t) (m := zZ v.key (dU s.w (s.recs.length : Int) (rt 40 s.lv) v.t)) (rows := s.recs.take s.left) s.sn.1 s.sn.2.1 s.sn.2.2.1 s.sn.2.2.2.1 s.sn.2.2.2.2 hst (by rw [dE]; omega) (by rw [dE]; exact hF) I.t0 I.t1
     rw [dE] at hp
     unfold Sh.kid
     dsimp only
     rw [h, hp, Option.bind_some]
     dsimp only
     rw [eh rfl, ac, Option.bind_some]
     exact last (({ s with st := 2, sn := (s.w, (s.recs.length : Int), rt 40 s.lv, v.t, zZ v.key (dU s.w (s.recs.length : Int) (rt 40 s.lv) v.t)) } : Sh).kid pk1) rfl (hlg _ eg.symm) (by rw [eg])
    ·-- pruned: it is stripped
     have eg : s.give v.key v.t = { s with left := s.left - min 4 s.left } := by unfold Sh.give; rw [if_neg (by omega), if_pos h]
     refine aj (qn s hst (by omega) (by omega) (s.recs.take s.left)) ?_
     dsimp only
     have hF := yj I (by omega) hmem
     rw [ag, xm hF (rt 40 s.lv) I.t0 I.t1 v.key I.key, Option.bind_some, aa hrr, Hj _ _ _ _ _ _ _ _ _ _ _ _ _ _ _ _ (show (s.kid pk1).2.1 ≠ 1 by show s.st ≠ 1; omega), Option.bind_some]
     dsimp only
     have exs : bA xs (m : Int) (s.kid pk1) = xs := by
      unfold bA
      rw [Int.toNat_natCast]
      refine vD ?_
      have := bL (t := T3) (l := xs) (n := m) hmx
      rw [ek] at this
      rw [List.getElem?_eq_getElem hmx, ← this]
     rw [rn (by decide), ag]
     have ex2 : bA xs (m : Int) ((s.kid pk1).1, (s.kid pk1).2.1, (s.kid pk1).2.2.1, (s.kid pk1).2.2.2.1, (s.kid pk1).2.2.2.2.1, (s.kid pk1).2.2.2.2.2.1, (s.kid pk1).2.2.2.2.2.2.1, (s.kid pk1).2.2.2.2.2.2.2.1, (s.kid pk1).2.2.2.2.2.2.2.2.1, (s.kid pk1).2.2.2.2.2.2.2.2.2.1, (s.kid pk1).2.2.2.2.2.2.2.2.2.2) = xs := exs
     rw [ex2, aa hrr, ek]
     have hlt : (s.recs.take s.left).length = s.left := by rw [List.length_take]; have := O.le; omega
     have hsp := yh (k := 4) (w := s.w) (lv := s.lv) (pk := pk1) (rows := s.recs.take s.left) (n := (s.recs.length : Int)) s.sn.1 s.sn.2.1 s.sn.2.2.1 s.sn.2.2.2.1 s.sn.2.2.2.2 (by rw [hlt]; have := O.le; omega)
     rw [hlt] at hsp
     have hcut : Ad 4 s.left = min 4 s.left := rfl
     rw [hcut, List.take_take, Nat.min_eq_left (Nat.sub_le _ _)] at hsp
     unfold Sh.kid
     dsimp only
     rw [h, hsp, Option.bind_some]
     dsimp only
     rw [Option.bind_some]
     have eg2 : s.give v.key v.t = { s with st := 2, left := s.left - min 4 s.left } := by rw [eg]; simp [h]
     exact last (({ s with st := 2, left := s.left - min 4 s.left } : Sh).kid pk1) rfl (hlg _ eg2.symm) (by rw [eg2])
end
theorem oW (v : Va) (d : ByteArray) : (je v d).2.log = v.log ∧ (je v d).2.t = v.t ∧ (je v d).2.W = v.W ∧ (je v d).2.T = v.T ∧ (je v d).2.key = v.key := by
 unfold je
 split
 ·split
  ·exact ⟨rfl, rfl, rfl, rfl, rfl⟩
  ·split <;> exact ⟨rfl, rfl, rfl, rfl, rfl⟩
 ·split
  ·split
   ·exact ⟨rfl, rfl, rfl, rfl, rfl⟩
   ·split <;> exact ⟨rfl, rfl, rfl, rfl, rfl⟩
  ·exact ⟨rfl, rfl, rfl, rfl, rfl⟩
theorem iS (v : Va) : (bv v).2.log = v.log ∧ (bv v).2.t = v.t ∧ (bv v).2.W = v.W ∧ (bv v).2.T = v.T ∧ (bv v).2.key = v.key := by
 unfold bv
 split
 ·exact ⟨rfl, rfl, rfl, rfl, rfl⟩
 ·split <;> exact ⟨rfl, rfl, rfl, rfl, rfl⟩
theorem BB (v : Va) (a : Int) : (eP v a).2.W = v.W ∧ (eP v a).2.T = v.T ∧ (eP v a).2.key = v.key := by
 unfold eP
 split
 ·exact ⟨rfl, rfl, rfl⟩
 ·unfold gK
  split
  ·split <;> exact ⟨rfl, rfl, rfl⟩
  ·exact ⟨rfl, rfl, rfl⟩
theorem iK (v : Va) (q : Ask) : (vdo v q).2.W = v.W ∧ (vdo v q).2.T = v.T ∧ (vdo v q).2.key = v.key := by
 unfold vdo
 split
 ·exact ⟨(oW v _).2.2.1, (oW v _).2.2.2.1, (oW v _).2.2.2.2⟩
 repeat' (split; exact ⟨rfl, rfl, rfl⟩)
 split
 ·exact BB v _
 split
 ·exact ⟨(iS v).2.2.1, (iS v).2.2.2.1, (iS v).2.2.2.2⟩
 repeat' (split; exact ⟨rfl, rfl, rfl⟩)
 exact ⟨rfl, rfl, rfl⟩
section
variable {v : Va} {N : Nat} {xs : List KT} {lv : List Vh} {n : Int} {pk : List Vh}
theorem CF (I : VI v N) (hN : N ≤ 500) (R : PR v xs lv n pk) (q : Ask) (hN1 : q.op = 1 → N ≤ 59) :
 ∃ xs' lv' n' pk', aI 1000 (q.op, q.a, q.b, q.c, q.data, v.W, v.T, mkB v.key, v.t, ak, xs, v.log, lv, n, pk) =
  some ((vdo v q).1.tup (v.W, v.T, mkB v.key, (vdo v q).2.t, n', (vdo v q).1.path, (vdo v q).1.cp, (vdo v q).1.cs, xs', (vdo v q).2.log, lv', pk')) ∧ PR (vdo v q).2 xs' lv' n' pk' := by
 obtain ⟨op, a, b, c, d⟩ := q
 unfold aI vdo
 dsimp only
 by_cases h1 : op = 1
 ·rw [cu h1, ag, Option.bind_some, if_pos h1, cd]
  obtain ⟨xs', q1, q2⟩ := Ip I (hN1 h1) R op a b c d
  obtain ⟨k1, k2, _⟩ := oW v d
  refine ⟨xs', lv, n, pk, aj q1 (by rw [k1, k2]; rfl), ⟨q2, by rw [k1]; exact R.inv⟩⟩
 rw [cU h1, ac, if_neg h1]
 by_cases h2 : op = 2
 ·rw [cu h2, ag, Option.bind_some, if_pos h2, au, cd]
  exact ⟨xs, lv, n, pk, aj (Ha I R op a b c d) rfl, R⟩
 rw [cU h2, ac, if_neg h2]
 by_cases h3 : op = 3
 ·rw [cu h3, ag, Option.bind_some, if_pos h3, au, au, cd]
  exact ⟨xs, lv, n, pk, aj (DV I (by omega) R op a b c d) rfl, R⟩
 rw [cU h3, ac, if_neg h3]
 by_cases h4 : op = 4
 ·rw [cu h4, ag, Option.bind_some, if_pos h4, au, au, au, cd]
  exact ⟨xs, lv, n, pk, aj (KH I R op a b c d) rfl, R⟩
 rw [cU h4, ac, if_neg h4]
 by_cases h5 : op = 5
 ·rw [cu h5, ag, Option.bind_some, if_pos h5, au, au, au, au, cd]
  obtain ⟨xs', lv', n', pk', q1, q2⟩ := Hh I (by omega) R op a b c d
  exact ⟨xs', lv', n', pk', aj q1 rfl, q2⟩
 rw [cU h5, ac, if_neg h5]
 by_cases h6 : op = 6
 ·rw [cu h6, ag, Option.bind_some, if_pos h6, au, au, au, au, au, cd]
  obtain ⟨xs', q1, q2⟩ := Al I (by omega) R op a b c d
  obtain ⟨k1, k2, _⟩ := iS v
  refine ⟨xs', lv, n, pk, aj q1 (by rw [k1, k2]; rfl), ⟨q2, by rw [k1]; exact R.inv⟩⟩
 rw [cU h6, ac, if_neg h6]
 by_cases h7 : op = 7
 ·rw [cu h7, ag, Option.bind_some, if_pos h7, au, au, au, au, au, au, cd]
  exact ⟨xs, lv, n, pk, aj (Hf I (by omega) R op a b c d) rfl, R⟩
 rw [cU h7, ac, if_neg h7]
 by_cases h8 : op = 8
 ·rw [cu h8, ag, Option.bind_some, if_pos h8, au, au, au, au, au, au, au, cd]
  exact ⟨xs, lv, n, pk, aj (KI I R op a b c d) rfl, R⟩
 rw [cU h8, ac, if_neg h8, Option.bind_some, au, au, au, au, au, au, au, au]
 exact ⟨xs, lv, n, pk, rfl, R⟩
theorem qo (I : VI v N) (hN : N ≤ 59) (R : PR v xs lv n pk) (q : Ask) :
 ∃ xs' lv' n' pk', aI 1000 (q.op, q.a, q.b, q.c, q.data, v.W, v.T, mkB v.key, v.t, ak, xs, v.log, lv, n, pk) =
  some ((vdo v q).1.tup (v.W, v.T, mkB v.key, (vdo v q).2.t, n', (vdo v q).1.path, (vdo v q).1.cp, (vdo v q).1.cs, xs', (vdo v q).2.log, lv', pk')) ∧ PR (vdo v q).2 xs' lv' n' pk' :=
 CF I (by omega) R q fun _ => hN
end
theorem vE {α β : Type} (p : α → Bool) (f : α → β) : ∀ (l : List α) (i : Nat) (s s' : α), l[i]? = some s → p s' = p s → (p s = true → f s' = f s) → ((l.set i s').filter p).map f = (l.filter p).map f
 | [], i, s, s', h, _, _ => by simp at h
 | x :: l, 0, s, s', h, h1, h2 => by
   simp only [List.getElem?_cons_zero, Option.some.injEq] at h
   subst h
   simp only [List.set_cons_zero, List.filter_cons, h1]
   split
   ·rename_i hp; simp [h2 hp]
   ·rfl
 | x :: l, i + 1, s, s', h, h1, h2 => by
   have := vE p f l i s s' (by simpa using h) h1 h2
   simp only [List.set_cons_succ, List.filter_cons]
   split
   ·simp [this]
   ·exact this
theorem BC {w W t : Int} (hW : 1 ≤ W) (ht : 0 ≤ t) (ht1 : t ≤ 1125899906842624) (h : bF w W t = false) : t / W ≤ w := by
 have key : t < (w + 1) * W := by
  unfold bF px at h
  split at h
  ·simp at h; omega
  ·rename_i hn
   omega
 have := Int.ediv_lt_of_lt_mul (by omega) key
 omega
theorem DX {w W t : Int} (hW : 1 ≤ W) (h : bF w W t = true) : w < t / W := by
 unfold bF px at h
 split at h
 ·simp at h
  have h2 : w + 1 ≤ t / W := (Int.le_ediv_iff_mul_le (by omega)).2 (by omega)
  omega
 ·simp at h
theorem Am {w W t t' : Int} (h : bF w W t = true) (ht : t ≤ t') : bF w W t' = true := by
 unfold bF at h ⊢
 simp only [Bool.and_eq_true, decide_eq_true_eq] at h ⊢
 exact ⟨h.1, by omega⟩
theorem Hk {w W T t t' : Int} (h : vB w W T t = true) (ht : t ≤ t') : vB w W T t' = true := by
 unfold vB at h ⊢
 simp only [Bool.and_eq_true, decide_eq_true_eq] at h ⊢
 exact ⟨h.1, by omega⟩
theorem BD {w W T t : Int} (hT : 0 ≤ T) (h : vB w W T t = true) : bF w W t = true := by
 unfold vB DT at h
 unfold bF
 simp only [Bool.and_eq_true, decide_eq_true_eq] at h ⊢
 split at h
 ·rename_i hc
  exact ⟨hc.1, by have := h.2; simp only at this; omega⟩
 ·exact absurd h.1 (by decide)
theorem ShOk.later {v v' : Va} {s : Sh} (O : ShOk v s) (hW : v'.W = v.W) (hT : v'.T = v.T) (hk : v'.key = v.key) (ht : v.t ≤ v'.t) (hW0 : 1 ≤ v.W) (hop : s.st = 0 → bF s.w v.W v'.t = false) : ShOk v' s := by
 refine ⟨O.w0, ?_, O.st, O.le, O.full, O.may, O.some1, O.ix, fun h => ?_, fun h => by rw [hW]; exact hop h, fun h => ?_⟩
 ·rw [hW]
  exact Int.le_trans O.w1 (Int.ediv_le_ediv (by omega) ht)
 ·rw [hW]; exact Am (O.cl h) ht
 ·obtain ⟨h1, t, h2, h3, h4⟩ := O.stn h
  exact ⟨by rw [hW, hT]; exact Hk h1 ht, t, h2, by omega, by rw [hk]; exact h4⟩
section
variable {v : Va} {N : Nat}
theorem VI.more (I : VI v N) {M : Nat} (h : N ≤ M) : VI v M := ⟨I.W0, I.W1, I.T0, I.T1, I.key, I.t0, I.t1, I.few, I.asc, I.ok, I.last, I.log, fun s hs => Nat.le_trans (I.sz s hs) h⟩
theorem VI.set (I : VI v N) {i : Nat} {s s' : Sh} {M : Nat} (hi : v.shs[i]? = some s) (hw : s'.w = s.w) (ho : ShOk v s') (hz : (s'.st = 0) ↔ (s.st = 0)) (hf : s.st ≠ 0 → s'.fz = s.fz) (hM : N ≤ M) (hl : s'.recs.length ≤ M) : VI { v with shs := v.shs.set i s' } M := by
 have get : ∀ {j : Nat} {a : Sh}, (v.shs.set i s')[j]? = some a → (j = i ∧ a = s') ∨ (j ≠ i ∧ v.shs[j]? = some a) := fun {j a} h => by
  rw [List.getElem?_set] at h
  by_cases e : i = j
  ·subst e
   rw [if_pos rfl] at h
   split at h
   ·cases h; exact .inl ⟨rfl, rfl⟩
   ·cases h
  ·rw [if_neg e] at h; exact .inr ⟨fun h => e h.symm, h⟩
 have wOf : ∀ {j : Nat} {a : Sh}, (v.shs.set i s')[j]? = some a → ∃ a0, v.shs[j]? = some a0 ∧ a0.w = a.w := fun {j a} h => by
  rcases get h with ⟨rfl, rfl⟩ | ⟨_, h⟩
  ·exact ⟨s, hi, hw.symm⟩
  ·exact ⟨a, h, rfl⟩
 refine ⟨I.W0, I.W1, I.T0, I.T1, I.key, I.t0, I.t1, by simpa using I.few, fun j k a b hjk ha hb => ?_, fun u hu => ?_, fun j u hj h0 => ?_, ?_, fun u hu => ?_⟩
 ·obtain ⟨a0, h1, h2⟩ := wOf ha
  obtain ⟨b0, h3, h4⟩ := wOf hb
  have := I.asc j k a0 b0 hjk h1 h3
  omega
 ·obtain ⟨j, hj⟩ := List.mem_iff_getElem?.1 hu
  rcases get hj with ⟨_, rfl⟩ | ⟨_, h⟩
  ·exact ⟨ho.w0, ho.w1, ho.st, ho.le, ho.full, ho.may, ho.some1, ho.ix, ho.cl, ho.op, ho.stn⟩
  ·have := I.ok u (List.mem_of_getElem? h)
   exact ⟨this.w0, this.w1, this.st, this.le, this.full, this.may, this.some1, this.ix, this.cl, this.op, this.stn⟩
 ·show j + 1 = (v.shs.set i s').length
  rw [List.length_set]
  rcases get hj with ⟨rfl, rfl⟩ | ⟨_, h⟩
  ·exact I.last _ s hi (hz.1 h0)
  ·exact I.last j u h h0
 ·show v.log = _
  rw [I.log]
  refine (vE _ _ _ _ s s' hi ?_ ?_).symm
  ·by_cases h : s.st = 0
   ·have := hz.2 h; simp [h, this]
   ·have := mt hz.1 h; simp [h, this]
  ·intro h; exact hf (by simpa using h)
 ·obtain ⟨j, hj⟩ := List.mem_iff_getElem?.1 hu
  rcases get hj with ⟨_, rfl⟩ | ⟨_, h⟩
  ·exact hl
  ·exact Nat.le_trans (I.sz u (List.mem_of_getElem? h)) hM
theorem Hl {s : Sh} (I : VI v N) (O : ShOk v s) (h0 : s.st = 0) {d : ByteArray} (hd : d.size ≤ 2000) (hl : s.recs.length ≤ 3999) : ShOk v (s.put v.t d) := by
 refine ⟨O.w0, O.w1, O.st, by simp [Sh.put], fun _ => by simp [Sh.put], fun r hr => ?_, by simp [Sh.put], fun i r hr => ?_, fun h => absurd h0 h, O.op, fun h => by have : s.st = 2 := h; omega⟩
 ·rcases List.mem_append.1 hr with hr | hr
  ·exact O.may r hr
  ·rw [List.mem_singleton] at hr
   subst hr
   exact ⟨⟨O.w0, Ak I O⟩, ⟨I.t0, I.t1⟩, ⟨(show (0 : Int) ≤ (s.recs.length : Int) by omega), (show (s.recs.length : Int) ≤ 3999 by omega)⟩, hd⟩
 ·rcases Nat.lt_or_ge i s.recs.length with h | h
  ·have hr' : s.recs[i]? = some r := by
    have : (s.recs ++ [(s.w, (s.recs.length : Int), v.t, d)])[i]? = some r := hr
    rwa [List.getElem?_append_left h] at this
   exact O.ix i r hr'
  ·have hr' : (s.recs ++ [(s.w, (s.recs.length : Int), v.t, d)])[i]? = some r := hr
   rw [List.getElem?_append_right h] at hr'
   have hi : i = s.recs.length := by
    have := (List.getElem?_eq_some_iff.1 hr').1
    simp at this; omega
   subst hi
   simp at hr'
   subst hr'
   exact ⟨rfl, rfl⟩
theorem KL (I : VI v N) {d : ByteArray} (hd : d.size ≤ 2000) (hc : bF (v.t / v.W) v.W v.t = false) : ShOk v ((kn (v.t / v.W)).put v.t d) := by
 obtain ⟨tw0, tw1⟩ := Hc I
 refine ⟨tw0, Int.le_refl _, .inl rfl, by simp [Sh.put, kn], fun _ => by simp [Sh.put, kn], fun r hr => ?_, by simp [Sh.put, kn], fun i r hr => ?_, fun h => absurd rfl h, fun _ => hc, fun h => by have : (0 : Int) = 2 := h; omega⟩
 ·have : r = (v.t / v.W, 0, v.t, d) := by simpa [Sh.put, kn] using hr
  subst this
  exact ⟨⟨tw0, tw1⟩, ⟨I.t0, I.t1⟩, ⟨Int.le_refl 0, show (0 : Int) ≤ 3999 by decide⟩, hd⟩
 ·have h1 : ([(v.t / v.W, (0 : Int), v.t, d)] : List Rec)[i]? = some r := by simpa [Sh.put, kn] using hr
  have hi : i = 0 := by
   have := (List.getElem?_eq_some_iff.1 h1).1
   simp at this; omega
  subst hi
  simp at h1
  subst h1
  exact ⟨rfl, rfl⟩
theorem DY (I : VI v N) : bF (v.t / v.W) v.W v.t = false := by
 cases h : bF (v.t / v.W) v.W v.t with
 | false => rfl
 | true => have := DX I.W0 h; omega
theorem KM (I : VI v N) (hN : N ≤ 3000) (d : ByteArray) : VI (je v d).2 (N + 1) := by
 unfold je
 have stay : VI v (N + 1) := I.more (by omega)
 split
 ·rename_i hf
  split
  ·exact stay
  ·rename_i h14
   split
   ·exact stay
   ·rename_i hd
    have hop := DY I
    have O := KL I (d := d) (by omega) hop
    have lt : ∀ s ∈ v.shs, s.w < v.t / v.W := fun s hs => by
     have h1 := (I.ok s hs).w1
     have h2 := Ah hf s hs
     omega
    have noopen : ∀ s ∈ v.shs, s.st ≠ 0 := fun s hs h0 => by
     have h1 := BC I.W0 I.t0 I.t1 ((I.ok s hs).op h0)
     have := lt s hs
     omega
    have get : ∀ {j : Nat} {a : Sh}, (v.shs ++ [(kn (v.t / v.W)).put v.t d])[j]? = some a → (j < v.shs.length ∧ v.shs[j]? = some a) ∨ (j = v.shs.length ∧ a = (kn (v.t / v.W)).put v.t d) := fun {j a} h => by
     rcases Nat.lt_or_ge j v.shs.length with hl | hl
     ·rw [List.getElem?_append_left hl] at h; exact .inl ⟨hl, h⟩
     ·rw [List.getElem?_append_right hl] at h
      have hj : j = v.shs.length := by
       have := (List.getElem?_eq_some_iff.1 h).1
       simp at this; omega
      subst hj
      simp at h
      exact .inr ⟨rfl, h.symm⟩
    refine ⟨I.W0, I.W1, I.T0, I.T1, I.key, I.t0, I.t1, by simp; omega, fun j k a b hjk ha hb => ?_, fun u hu => ?_, fun j u hj h0 => ?_, ?_, fun u hu => ?_⟩
    ·rcases get ha with ⟨h1, h2⟩ | ⟨h1, h2⟩
     ·rcases get hb with ⟨h3, h4⟩ | ⟨h3, h4⟩
      ·exact I.asc j k a b hjk h2 h4
      ·subst h4; exact lt a (List.mem_of_getElem? h2)
     ·rcases get hb with ⟨h3, h4⟩ | ⟨h3, h4⟩ <;> omega
    ·rcases List.mem_append.1 hu with hu | hu
     ·have := I.ok u hu
      exact ⟨this.w0, this.w1, this.st, this.le, this.full, this.may, this.some1, this.ix, this.cl, this.op, this.stn⟩
     ·rw [List.mem_singleton] at hu
      subst hu
      exact ⟨O.w0, O.w1, O.st, O.le, O.full, O.may, O.some1, O.ix, O.cl, O.op, O.stn⟩
    ·show j + 1 = (v.shs ++ [(kn (v.t / v.W)).put v.t d]).length
     rcases get hj with ⟨h1, h2⟩ | ⟨h1, h2⟩
     ·exact absurd h0 (noopen u (List.mem_of_getElem? h2))
     ·simp [h1]
    ·show v.log = _
     rw [I.log, List.filter_append, List.map_append]
     simp [Sh.put, kn]
    ·rcases List.mem_append.1 hu with hu | hu
     ·exact Nat.le_trans (I.sz u hu) (by omega)
     ·rw [List.mem_singleton] at hu
      subst hu
      simp [Sh.put, kn]
 ·rename_i i hf
  split
  ·rename_i s hs
   split
   ·exact stay
   ·rename_i h0
    have h0 : s.st = 0 := Classical.byContradiction h0
    split
    ·exact stay
    ·rename_i hd
     have hmem := List.mem_of_getElem? hs
     have hsz := I.sz s hmem
     exact I.set hs rfl (Hl I (I.ok s hmem) h0 (by omega) (by omega)) Iff.rfl (fun h => absurd h0 h) (by omega) (by simp [Sh.put]; omega)
  ·exact stay
theorem BE (I : VI v N) : VI (bv v).2 N := by
 unfold bv
 split
 ·exact I
 ·rename_i m hm
  split
  ·rename_i s hs
   have hmem := List.mem_of_getElem? hs
   have O := I.ok s hmem
   have hold : old v s = true := by
    obtain ⟨h1, h2, _⟩ := List.findIdx?_eq_some_iff_getElem.1 hm
    rw [List.getElem?_eq_getElem h1] at hs
    cases hs
    exact h2
   have hexp : vB s.w v.W v.T v.t = true := by
    unfold old at hold
    simp only [Bool.and_eq_true] at hold
    exact hold.1
   have hn0 : s.st ≠ 0 := fun h => by
    have := O.op h
    rw [BD I.T0 hexp] at this
    cases this
   obtain ⟨g1, g2, g3⟩ := sG s v.key v.t O.le
   have glv : (s.give v.key v.t).lv = s.lv := by unfold Sh.lv; rw [g2]
   have gst : (s.give v.key v.t).st = 2 := by
    unfold Sh.give
    split
    ·rfl
    ·split
     ·rename_i h; exact h
     ·rcases O.st with h | h | h <;> omega
   refine I.set hs g3 ⟨by rw [g3]; exact O.w0, by rw [g3]; exact O.w1, .inr (.inr gst), g1, fun h => absurd gst h, by rw [g2]; exact O.may, by rw [g2]; exact O.some1, by rw [g2, g3]; exact O.ix, fun _ => by rw [g3]; exact O.cl hn0, fun h => by rw [gst] at h; exact absurd h (by decide), fun _ => ?_⟩ ⟨fun h => by rw [gst] at h; exact absurd h (by decide), fun h => absurd h hn0⟩ (fun _ => by unfold Sh.fz; rw [g3, g2, glv]) (Nat.le_refl _) (by rw [g2]; exact I.sz s hmem)
   rw [g3]
   refine ⟨hexp, ?_⟩
   by_cases h1 : s.st = 1
   ·refine ⟨v.t, I.t0, Int.le_refl _, ?_⟩
    rw [g2, glv]
    unfold Sh.give
    rw [if_pos h1]
   ·have h2 : s.st = 2 := by rcases O.st with h | h | h <;> omega
    obtain ⟨_, t, k1, k2, k3⟩ := O.stn h2
    refine ⟨t, k1, k2, ?_⟩
    rw [g2, glv]
    unfold Sh.give
    rw [if_neg h1, if_pos h2]
    exact k3
  ·exact I
theorem Iq (I : VI v N) (a : Int) : VI (eP v a).2 N := by
 unfold eP
 by_cases he : (kR v.t a).2 ≠ 0
 ·rw [if_pos he]; exact I
 rw [if_neg he]
 have htw : kR v.t a = (a, 0) ∧ okT a = true ∧ v.t ≤ a := by
  unfold kR at he ⊢
  split at he
  ·rename_i h; rw [if_pos h]; exact ⟨rfl, h⟩
  ·exact absurd (show (21 : Int) ≠ 0 by decide) he
 obtain ⟨e1, hok, hle⟩ := htw
 obtain ⟨a0, a1⟩ := Cz.1 hok
 rw [e1]
 dsimp only
 have base : (∀ s ∈ v.shs, s.st = 0 → bF s.w v.W a = false) → VI { v with t := a } N := fun hop =>
  ⟨I.W0, I.W1, I.T0, I.T1, I.key, a0, a1, I.few, I.asc, fun s hs => (I.ok s hs).later rfl rfl rfl hle I.W0 (hop s hs), I.last, I.log, I.sz⟩
 unfold gK
 dsimp only
 cases hl : v.shs.getLast? with
 | none =>
   have : v.shs = [] := by simpa using hl
   exact base (fun s hs => by rw [this] at hs; cases hs)
 | some s =>
   dsimp only
   rw [List.getLast?_eq_getElem?] at hl
   have hlen := (List.getElem?_eq_some_iff.1 hl).1
   have onlyLast : ∀ u ∈ v.shs, u.st = 0 → u = s := fun u hu h0 => by
    obtain ⟨j, hj⟩ := List.mem_iff_getElem?.1 hu
    have := I.last j u hj h0
    have e : j = v.shs.length - 1 := by omega
    rw [e, hl] at hj
    cases hj; rfl
   by_cases hc : s.st = 0 ∧ bF s.w v.W a = true
   ·rw [if_pos hc]
    have hmem := List.mem_of_getElem? hl
    have O := I.ok s hmem
    -- a list whose last one is another one
    obtain ⟨l, hlq⟩ : ∃ l, v.shs = l ++ [s] := by
     refine ⟨v.shs.take (v.shs.length - 1), ?_⟩
     have h1 := List.drop_eq_getElem_cons hlen
     have h2 : v.shs.drop (v.shs.length - 1 + 1) = [] := List.drop_eq_nil_of_le (by omega)
     rw [h2] at h1
     rw [List.getElem?_eq_getElem hlen] at hl
     cases hl
     rw [← h1, List.take_append_drop]
    have hset : v.shs.set (v.shs.length - 1) { s with st := 1 } = l ++ [{ s with st := 1 }] := by
     rw [hlq]
     simp
    have lno : ∀ u ∈ l, u.st ≠ 0 := fun u hu h0 => by
     obtain ⟨j, hj⟩ := List.mem_iff_getElem?.1 hu
     have hjl := (List.getElem?_eq_some_iff.1 hj).1
     have hj2 : v.shs[j]? = some u := by rw [hlq, List.getElem?_append_left hjl]; exact hj
     have := I.last j u hj2 h0
     rw [hlq] at this
     simp at this
     omega
    have get : ∀ {j : Nat} {b : Sh}, (l ++ [({ s with st := 1 } : Sh)])[j]? = some b → ∃ b0, v.shs[j]? = some b0 ∧ b0.w = b.w ∧ b0.recs = b.recs := fun {j b} h => by
     rcases Nat.lt_or_ge j l.length with h1 | h1
     ·rw [List.getElem?_append_left h1] at h
      exact ⟨b, by rw [hlq, List.getElem?_append_left h1]; exact h, rfl, rfl⟩
     ·rw [List.getElem?_append_right h1] at h
      have hj : j = l.length := by
       have := (List.getElem?_eq_some_iff.1 h).1
       simp at this; omega
      subst hj
      simp at h
      subst h
      exact ⟨s, by rw [hlq]; simp, rfl, rfl⟩
    rw [hset]
    refine ⟨I.W0, I.W1, I.T0, I.T1, I.key, a0, a1, ?_, fun j k x y hjk hx hy => ?_, fun u hu => ?_, fun j u hj h0 => ?_, ?_, fun u hu => ?_⟩
    ·have := I.few; rw [hlq] at this; simpa using this
    ·obtain ⟨x0, h1, h2, _⟩ := get hx
     obtain ⟨y0, h3, h4, _⟩ := get hy
     have := I.asc j k x0 y0 hjk h1 h3
     omega
    ·rcases List.mem_append.1 hu with hu | hu
     ·exact (I.ok u (by rw [hlq]; exact List.mem_append_left _ hu)).later rfl rfl rfl hle I.W0 (fun h => absurd h (lno u hu))
     ·rw [List.mem_singleton] at hu
      subst hu
      refine ⟨O.w0, ?_, .inr (.inl rfl), O.le, fun _ => O.full (by omega), O.may, O.some1, O.ix, fun _ => hc.2, fun h => by have : (1 : Int) = 0 := h; omega, fun h => by have : (1 : Int) = 2 := h; omega⟩
      exact Int.le_trans O.w1 (Int.ediv_le_ediv (by have := I.W0; omega) hle)
    ·rcases List.mem_append.1 (List.mem_of_getElem? hj) with hu | hu
     ·exact absurd h0 (lno u hu)
     ·rw [List.mem_singleton] at hu
      subst hu
      have : (1 : Int) = 0 := h0
      omega
    ·show v.log ++ [s.fz] = _
     rw [I.log, hlq, List.filter_append, List.filter_append, List.map_append, List.map_append]
     have h1 : ([s].filter fun s => decide (s.st ≠ 0)) = [] := by simp [hc.1]
     have h2 : ([({ s with st := 1 } : Sh)].filter fun s => decide (s.st ≠ 0)) = [({ s with st := 1 } : Sh)] := by simp
     rw [h1, h2]
     simp [Sh.fz, Sh.lv]
    ·obtain ⟨j, hj⟩ := List.mem_iff_getElem?.1 hu
     obtain ⟨b0, h1, _, h3⟩ := get hj
     rw [← h3]
     exact I.sz b0 (List.mem_of_getElem? h1)
   ·rw [if_neg hc]
    refine base (fun u hu h0 => ?_)
    have := onlyLast u hu h0
    subst this
    cases h : bF u.w v.W a with
    | false => rfl
    | true => exact absurd ⟨h0, h⟩ hc
theorem sH (I : VI v N) (hN : N ≤ 3000) (q : Ask) : VI (vdo v q).2 (N + 1) := by
 have stay : VI v (N + 1) := I.more (by omega)
 unfold vdo
 split
 ·exact KM I hN _
 repeat' (split; exact stay)
 split
 ·exact (Iq I _).more (by omega)
 split
 ·exact (BE I).more (by omega)
 repeat' (split; exact stay)
 exact stay
end
structure ShLater (s s' : Sh) : Prop where
 w : s'.w = s.w
 recs : ∃ r, s'.recs = s.recs ++ r
 cl : s.st ≠ 0 → s'.recs = s.recs ∧ s'.st ≠ 0
 pr : s.st = 2 → s'.st = 2
theorem ShLater.refl (s : Sh) : ShLater s s := ⟨rfl, ⟨[], by simp⟩, fun h => ⟨rfl, h⟩, id⟩
theorem ShLater.trans {a b c : Sh} (h : ShLater a b) (k : ShLater b c) : ShLater a c := by
 obtain ⟨r, h1⟩ := h.recs
 obtain ⟨q, k1⟩ := k.recs
 refine ⟨k.w.trans h.w, ⟨r ++ q, by rw [k1, h1, List.append_assoc]⟩, fun h0 => ?_, fun h0 => k.pr (h.pr h0)⟩
 obtain ⟨a1, a2⟩ := h.cl h0
 obtain ⟨b1, b2⟩ := k.cl a2
 exact ⟨b1.trans a1, b2⟩
structure Later (v v' : Va) : Prop where
 W : v'.W = v.W
 T : v'.T = v.T
 key : v'.key = v.key
 t : v.t ≤ v'.t
 log : ∃ e, v'.log = v.log ++ e
 shs : ∀ (i : Nat) s, v.shs[i]? = some s → ∃ s', v'.shs[i]? = some s' ∧ ShLater s s'
theorem Later.refl (v : Va) : Later v v := ⟨rfl, rfl, rfl, Int.le_refl _, ⟨[], by simp⟩, fun i s h => ⟨s, h, .refl s⟩⟩
theorem Later.trans {a b c : Va} (h : Later a b) (k : Later b c) : Later a c := by
 obtain ⟨r, h1⟩ := h.log
 obtain ⟨q, k1⟩ := k.log
 refine ⟨k.W.trans h.W, k.T.trans h.T, k.key.trans h.key, Int.le_trans h.t k.t, ⟨r ++ q, by rw [k1, h1, List.append_assoc]⟩, fun i s hs => ?_⟩
 obtain ⟨s1, h2, h3⟩ := h.shs i s hs
 obtain ⟨s2, h4, h5⟩ := k.shs i s1 h2
 exact ⟨s2, h4, h3.trans h5⟩
theorem sI {v : Va} {i : Nat} {s s' : Sh} (hi : v.shs[i]? = some s) (h : ShLater s s') : Later v { v with shs := v.shs.set i s' } := by
 refine ⟨rfl, rfl, rfl, Int.le_refl _, ⟨[], by simp⟩, fun j u hj => ?_⟩
 by_cases e : i = j
 ·subst e
  rw [hi] at hj; cases hj
  exact ⟨s', by show (v.shs.set i s')[i]? = _; rw [List.getElem?_set, if_pos rfl, if_pos (List.getElem?_eq_some_iff.1 hi).1], h⟩
 ·exact ⟨u, by show (v.shs.set i s')[j]? = _; rw [List.getElem?_set, if_neg e]; exact hj, .refl u⟩
theorem DZ {v : Va} {N : Nat} (I : VI v N) (q : Ask) : Later v (vdo v q).2 := by
 unfold vdo
 split
 ·unfold je
  split
  ·split
   ·exact .refl v
   ·split
    ·exact .refl v
    ·refine ⟨rfl, rfl, rfl, Int.le_refl _, ⟨[], by simp⟩, fun j u hj => ⟨u, ?_, .refl u⟩⟩
     show (v.shs ++ [_])[j]? = _
     rw [List.getElem?_append_left (List.getElem?_eq_some_iff.1 hj).1]
     exact hj
  ·split
   ·rename_i s hs
    split
    ·exact .refl v
    ·rename_i h0
     have h0 : s.st = 0 := Classical.byContradiction h0
     split
     ·exact .refl v
     ·exact sI hs ⟨rfl, ⟨_, rfl⟩, fun h => absurd h0 h, fun h => by rw [h0] at h; exact absurd h (by decide)⟩
   ·exact .refl v
 repeat' (split; exact .refl v)
 split
 ·unfold eP
  split
  ·exact .refl v
  ·rename_i he
   have hle : v.t ≤ (kR v.t q.a).1 := by
    unfold kR at he ⊢
    split
    ·rename_i h; exact h.2
    ·exact Int.le_refl _
   have base : Later v { v with t := (kR v.t q.a).1 } := ⟨rfl, rfl, rfl, hle, ⟨[], by simp⟩, fun i s h => ⟨s, h, .refl s⟩⟩
   unfold gK
   split
   ·rename_i s hs
    split
    ·rename_i hc
     rw [List.getLast?_eq_getElem?] at hs
     have := sI (s' := { s with st := 1 }) hs ⟨rfl, ⟨[], by simp⟩, fun h => absurd hc.1 h, fun h => by rw [hc.1] at h; exact absurd h (by decide)⟩
     exact ⟨rfl, rfl, rfl, hle, ⟨[s.fz], rfl⟩, this.shs⟩
    ·exact base
   ·exact base
 split
 ·unfold bv
  split
  ·exact .refl v
  ·split
   ·rename_i m hm s hs
    have O := I.ok s (List.mem_of_getElem? hs)
    obtain ⟨g1, g2, g3⟩ := sG s v.key v.t O.le
    refine sI hs ⟨g3, ⟨[], by rw [g2]; simp⟩, fun h => ⟨g2, ?_⟩, fun h => ?_⟩
    ·unfold Sh.give
     split
     ·exact (by decide : (2 : Int) ≠ 0)
     ·split <;> exact h
    ·unfold Sh.give
     split
     ·rfl
     ·first | exact h | (rw [if_pos h]; exact h) | (split <;> first | exact h | rfl)
   ·exact .refl v
 repeat' (split; exact .refl v)
 exact .refl v
theorem Hm (p : ByteArray) : ∃ q, kQ 1000 (p, 600) = some q ∧ q.size ≤ 600 := by
 unfold kQ
 dsimp only
 by_cases c : 600 < p.size
 ·rw [om (show (600 : Int) < cZ p by show (600 : Int) < ((p.size : Nat) : Int); omega), ag, aa (show FG 0 600 (cZ p) from ⟨by omega, by omega, by show (600 : Int) ≤ ((p.size : Nat) : Int); omega⟩)]
  refine ⟨_, rfl, ?_⟩
  unfold FF
  simp [ByteArray.size_extract]
  omega
 ·rw [jd (show cZ p ≤ 600 by show ((p.size : Nat) : Int) ≤ 600; omega), ac]
  exact ⟨_, rfl, by omega⟩
theorem KN (op a b c : Int) (d : ByteArray) (l : Int) (on : Bool) (t : Int) : ∃ q : Ask, cH 1000 (op, a, b, c, d, l, on, t) = some (q.op, q.a, q.b, q.c, q.data) := by
 obtain ⟨r, hr, hs⟩ := Hm d
 obtain ⟨m0, m1⟩ : 0 ≤ bh .i64 l 3 ∧ bh .i64 l 3 ≤ 3 := so l 3 (by omega)
 unfold cH
 dsimp only
 rw [hr, Option.bind_some]
 obtain ⟨y, hy, z, hz⟩ : ∃ y, (aP (H := Int × Int × Int × Int × Int × ByteArray) (E := Int × Int × Int × Int × ByteArray) 1000 (fun h1 => ai (ilt h1.1 (bh .i64 l 3)) (af ((bJ h1.2.2.2.2.2 r)) (some (.inl (((WK .i64 (h1.1 + 1)), h1.2.1, h1.2.2.1, h1.2.2.2.1, h1.2.2.2.2.1, (h1.2.2.2.2.2 ++ r)))))) (some (.inr ((h1.2.1, h1.2.2.1, h1.2.2.2.1, h1.2.2.2.2.1, h1.2.2.2.2.2))))) ((0, op, a, b, c, r))) = some y ∧ ∃ z, y = (op, a, b, c, z) := by
  refine lT (fun dd h => ∃ (i : Nat) (z : ByteArray), h = ((i : Int), op, a, b, c, z) ∧ i + dd = 3 ∧ z.size ≤ 600 * (i + 1)) (fun e => ∃ z, e = (op, a, b, c, z)) (fun dd h ⟨i, z, he, hi, hz⟩ => ?_) 3 _ ⟨0, r, rfl, rfl, by omega⟩ 1000 (by omega)
  subst he
  dsimp only
  by_cases c1 : (i : Int) < bh .i64 l 3
  ·left
   rw [be c1, ag, aa (show bJ z r by unfold bJ; omega), av (by omega) (by omega)]
   exact ⟨_, dd - 1, rfl, by omega, i + 1, z ++ r, rfl, by omega, by rw [Gj]; omega⟩
  ·right
   rw [aM (by omega), ac]
   exact ⟨_, rfl, z, rfl⟩
 subst hz
 refine Exists.imp (fun q (hq : _ = _) => aj hy hq) ?_
 dsimp only
 cases on with
 | false =>
   rw [ac, Option.bind_some]
   exact ⟨⟨op, a, b, c, z⟩, rfl⟩
 | true =>
   rw [ag]
   by_cases h5 : op = 5
   ·rw [cu h5, ag, Option.bind_some]
    exact ⟨⟨op, _, b, c, z⟩, rfl⟩
   ·rw [cU h5, ac, Option.bind_some]
    exact ⟨⟨op, a, b, c, z⟩, rfl⟩
theorem Hn (l : List (T11).den) {v : Va} {N : Nat} {xs : List KT} {lv : List Vh} {n : Int} {pk : List Vh} (I : VI v N) (hN : N ≤ 30) (R : PR v xs lv n pk) :
 ∃ v' xs' lv' n' pk', aP (H := Int × Int × Int × ByteArray × Int × Int × (List (Int × (Int × (Int × (Int × ((Vector Int 32) × (Int × ((Vector Int 32) × ((List (Vector Int 32)) × ((List (Int × (Int × (Int × ByteArray)))) × (Int × (List (Vector Int 32))))))))))))) × (List (Int × (Int × (Vector Int 32)))) × (List (Vector Int 32)) × (List (Vector Int 32))) (E := Int × Int × ByteArray × Int × Int × (List (Int × (Int × (Int × (Int × ((Vector Int 32) × (Int × ((Vector Int 32) × ((List (Vector Int 32)) × ((List (Int × (Int × (Int × ByteArray)))) × (Int × (List (Vector Int 32))))))))))))) × (List (Int × (Int × (Vector Int 32)))) × (List (Vector Int 32)) × (List (Vector Int 32))) 1000
  (fun h3 => ai (ilt h3.1 (ae l)) (ai (ilt h3.1 30) (af ((inR h3.1 (ae l))) ((cH 1000 ((at_ T11 l h3.1).1.1, (at_ T11 l h3.1).1.2.1, (at_ T11 l h3.1).1.2.2.1, (at_ T11 l h3.1).1.2.2.2.1, (at_ T11 l h3.1).1.2.2.2.2, (at_ T11 l h3.1).2.1, (at_ T11 l h3.1).2.2, h3.2.2.2.2.1)).bind fun r4 => (aI 1000 (r4.1, r4.2.1, r4.2.2.1, r4.2.2.2.1, r4.2.2.2.2, h3.2.1, h3.2.2.1, h3.2.2.2.1, h3.2.2.2.2.1, ak, h3.2.2.2.2.2.2.1, h3.2.2.2.2.2.2.2.1, h3.2.2.2.2.2.2.2.2.1, h3.2.2.2.2.2.1, h3.2.2.2.2.2.2.2.2.2)).bind fun r5 => some (.inl (((WK .i64 (h3.1 + 1)), r5.2.2.2.2.2.2.2.2.2.2.2.2.2.2.2.2.2.2.2.2.2.2.2.2.1, r5.2.2.2.2.2.2.2.2.2.2.2.2.2.2.2.2.2.2.2.2.2.2.2.2.2.1, r5.2.2.2.2.2.2.2.2.2.2.2.2.2.2.2.2.2.2.2.2.2.2.2.2.2.2.1, r5.2.2.2.2.2.2.2.2.2.2.2.2.2.2.2.2.2.2.2.2.2.2.2.2.2.2.2.1, r5.2.2.2.2.2.2.2.2.2.2.2.2.2.2.2.2.2.2.2.2.2.2.2.2.2.2.2.2.1, r5.2.2.2.2.2.2.2.2.2.2.2.2.2.2.2.2.2.2.2.2.2.2.2.2.2.2.2.2.2.2.2.2.1, r5.2.2.2.2.2.2.2.2.2.2.2.2.2.2.2.2.2.2.2.2.2.2.2.2.2.2.2.2.2.2.2.2.2.1, r5.2.2.2.2.2.2.2.2.2.2.2.2.2.2.2.2.2.2.2.2.2.2.2.2.2.2.2.2.2.2.2.2.2.2.1, r5.2.2.2.2.2.2.2.2.2.2.2.2.2.2.2.2.2.2.2.2.2.2.2.2.2.2.2.2.2.2.2.2.2.2.2))))) (some (.inr ((h3.2.1, h3.2.2.1, h3.2.2.2.1, h3.2.2.2.2.1, h3.2.2.2.2.2.1, h3.2.2.2.2.2.2.1, h3.2.2.2.2.2.2.2.1, h3.2.2.2.2.2.2.2.2.1, h3.2.2.2.2.2.2.2.2.2))))) (some (.inr ((h3.2.1, h3.2.2.1, h3.2.2.2.1, h3.2.2.2.2.1, h3.2.2.2.2.2.1, h3.2.2.2.2.2.2.1, h3.2.2.2.2.2.2.2.1, h3.2.2.2.2.2.2.2.2.1, h3.2.2.2.2.2.2.2.2.2)))))
  (0, v.W, v.T, mkB v.key, v.t, n, xs, v.log, lv, pk) = some (v'.W, v'.T, mkB v'.key, v'.t, n', xs', v'.log, lv', pk') ∧ VI v' (N + 30) ∧ PR v' xs' lv' n' pk' ∧ Later v v' := by
 refine Exists.elim (lT (step := (fun h3 => ai (ilt h3.1 (ae l)) (ai (ilt h3.1 30) (af ((inR h3.1 (ae l))) ((cH 1000 ((at_ T11 l h3.1).1.1, (at_ T11 l h3.1).1.2.1, (at_ T11 l h3.1).1.2.2.1, (at_ T11 l h3.1).1.2.2.2.1, (at_ T11 l h3.1).1.2.2.2.2, (at_ T11 l h3.1).2.1, (at_ T11 l h3.1).2.2, h3.2.2.2.2.1)).bind fun r4 => (aI 1000 (r4.1, r4.2.1, r4.2.2.1, r4.2.2.2.1, r4.2.2.2.2, h3.2.1, h3.2.2.1, h3.2.2.2.1, h3.2.2.2.2.1, ak, h3.2.2.2.2.2.2.1, h3.2.2.2.2.2.2.2.1, h3.2.2.2.2.2.2.2.2.1, h3.2.2.2.2.2.1, h3.2.2.2.2.2.2.2.2.2)).bind fun r5 => some (.inl (((WK .i64 (h3.1 + 1)), r5.2.2.2.2.2.2.2.2.2.2.2.2.2.2.2.2.2.2.2.2.2.2.2.2.1, r5.2.2.2.2.2.2.2.2.2.2.2.2.2.2.2.2.2.2.2.2.2.2.2.2.2.1, r5.2.2.2.2.2.2.2.2.2.2.2.2.2.2.2.2.2.2.2.2.2.2.2.2.2.2.1, r5.2.2.2.2.2.2.2.2.2.2.2.2.2.2.2.2.2.2.2.2.2.2.2.2.2.2.2.1, r5.2.2.2.2.2.2.2.2.2.2.2.2.2.2.2.2.2.2.2.2.2.2.2.2.2.2.2.2.1, r5.2.2.2.2.2.2.2.2.2.2.2.2.2.2.2.2.2.2.2.2.2.2.2.2.2.2.2.2.2.2.2.2.1, r5.2.2.2.2.2.2.2.2.2.2.2.2.2.2.2.2.2.2.2.2.2.2.2.2.2.2.2.2.2.2.2.2.2.1, r5.2.2.2.2.2.2.2.2.2.2.2.2.2.2.2.2.2.2.2.2.2.2.2.2.2.2.2.2.2.2.2.2.2.2.1, r5.2.2.2.2.2.2.2.2.2.2.2.2.2.2.2.2.2.2.2.2.2.2.2.2.2.2.2.2.2.2.2.2.2.2.2))))) (some (.inr ((h3.2.1, h3.2.2.1, h3.2.2.2.1, h3.2.2.2.2.1, h3.2.2.2.2.2.1, h3.2.2.2.2.2.2.1, h3.2.2.2.2.2.2.2.1, h3.2.2.2.2.2.2.2.2.1, h3.2.2.2.2.2.2.2.2.2))))) (some (.inr ((h3.2.1, h3.2.2.1, h3.2.2.2.1, h3.2.2.2.2.1, h3.2.2.2.2.2.1, h3.2.2.2.2.2.2.1, h3.2.2.2.2.2.2.2.1, h3.2.2.2.2.2.2.2.2.1, h3.2.2.2.2.2.2.2.2.2)))))) (fun dd h => ∃ (i : Nat) (v' : Va) (xs' : List KT) (lv' : List Vh) (n' : Int) (pk' : List Vh), h = ((i : Int), v'.W, v'.T, mkB v'.key, v'.t, n', xs', v'.log, lv', pk') ∧ i + dd = 30 ∧ VI v' (N + i) ∧ PR v' xs' lv' n' pk' ∧ Later v v')
  (fun e => ∃ (v' : Va) (xs' : List KT) (lv' : List Vh) (n' : Int) (pk' : List Vh), e = (v'.W, v'.T, mkB v'.key, v'.t, n', xs', v'.log, lv', pk') ∧ VI v' (N + 30) ∧ PR v' xs' lv' n' pk' ∧ Later v v') (fun dd h hh => ?_) 30 _ ⟨0, v, xs, lv, n, pk, rfl, rfl, I, R, .refl v⟩ 1000 (by omega)) (fun e hz => ?_)
 ·obtain ⟨i, v', xs', lv', n', pk', rfl, hi, I', R', L⟩ := hh
  have out : ∃ e, (some (Sum.inr (v'.W, v'.T, mkB v'.key, v'.t, n', xs', v'.log, lv', pk')) : Option ((Int × Int × Int × ByteArray × Int × Int × List KT × List Fz × List Vh × List Vh) ⊕ (Int × Int × ByteArray × Int × Int × List KT × List Fz × List Vh × List Vh))) = some (.inr e) ∧ ∃ (v' : Va) (xs' : List KT) (lv' : List Vh) (n' : Int) (pk' : List Vh), e = (v'.W, v'.T, mkB v'.key, v'.t, n', xs', v'.log, lv', pk') ∧ VI v' (N + 30) ∧ PR v' xs' lv' n' pk' ∧ Later v v' :=
   ⟨_, rfl, v', xs', lv', n', pk', rfl, I'.more (by omega), R', L⟩
  dsimp only
  by_cases c1 : (i : Int) < ae l
  ·by_cases c2 : i < 30
   ·left
    rw [be c1, ag, be (show (i : Int) < 30 by omega), ag, aa ⟨by omega, c1⟩]
    obtain ⟨o, ho⟩ : ∃ o, o = at_ T11 l (i : Int) := ⟨_, rfl⟩
    rw [← ho]
    obtain ⟨q, hq⟩ := KN o.1.1 o.1.2.1 o.1.2.2.1 o.1.2.2.2.1 o.1.2.2.2.2 o.2.1 o.2.2 v'.t
    obtain ⟨xs2, lv2, n2, pk2, h1, h2⟩ := qo I' (by omega) R' q
    have hk := iK v' q
    have I2 := sH I' (by omega) q
    rw [hq, Option.bind_some]
    dsimp only
    rw [h1, Option.bind_some, av (by omega) (by omega)]
    refine ⟨_, dd - 1, rfl, by omega, i + 1, (vdo v' q).2, xs2, lv2, n2, pk2, ?_, by omega, I2, h2, L.trans (DZ I' q)⟩
    rw [hk.1, hk.2.1, hk.2.2]
    rfl
   ·right
    rw [be c1, ag, aM (show (30 : Int) ≤ (i : Int) by omega), ac]
    exact out
  ·right
   rw [aM (show ae l ≤ (i : Int) by omega), ac]
   exact out
 ·obtain ⟨he, v', xs', lv', n', pk', rfl, h1, h2, h3⟩ := hz
  exact ⟨v', xs', lv', n', pk', he, h1, h2, h3⟩
def rF (W T : Int) (key : List UInt8) : Va := ⟨W, T, key, 0, [], []⟩
theorem Ho {W T : Int} {key : List UInt8} (hW : 1 ≤ W) (hW1 : W ≤ 1125899906842624) (hT : 0 ≤ T) (hT1 : T ≤ 1125899906842624) (hk : key.length ≤ 64) : VI (rF W T key) 0 :=
 ⟨hW, hW1, hT, hT1, hk, Int.le_refl _, (show (0 : Int) ≤ 1125899906842624 by decide), Nat.zero_le _, fun i j a b _ h => by simp [rF] at h, fun s hs => by simp [rF] at hs, fun i s h => by simp [rF] at h, rfl, fun s hs => by simp [rF] at hs⟩
theorem Hp (W T : Int) (key : List UInt8) : PR (rF W T key) [] [] 0 [] := ⟨Kids.nil, Ie⟩
theorem CG {W T : Int} {key : List UInt8} (hW : 1 ≤ W) (hW1 : W ≤ 1125899906842624) (hT : 0 ≤ T) (hT1 : T ≤ 1125899906842624) (hk : key.length ≤ 64) : lM 1000 (W, T, mkB key) = some (.inr (W, T, mkB key, 0, [], [], [], 0, [])) := by
 unfold lM
 dsimp only
 rw [aM hW, ac, jd hW1, ac, aM hT, ac, jd hT1, ac, jd (show cZ (mkB key) ≤ 64 by rw [oS]; omega), ac]
abbrev KO : List UInt8 := [107, 101, 121]
theorem Ir (q : Vector Int 2) (l : List (T11).den) : ∃ v xs lv n pk, mJ 1000 (q, l, ak) = some (.inr (v.W, v.T, mkB v.key, v.t, xs, v.log, lv, n, pk)) ∧ VI v 30 ∧ PR v xs lv n pk ∧ Later (rF (1 + bh .i64 (vAt 0 q 0) 63) (bh .i64 (vAt 0 q 1) 127) KO) v := by
 obtain ⟨a0, a1⟩ : 0 ≤ bh .i64 (vAt 0 q 0) 63 ∧ bh .i64 (vAt 0 q 0) 63 ≤ 63 := so (vAt 0 q 0) 63 (by omega)
 obtain ⟨b0, b1⟩ : 0 ≤ bh .i64 (vAt 0 q 1) 127 ∧ bh .i64 (vAt 0 q 1) 127 ≤ 127 := so (vAt 0 q 1) 127 (by omega)
 obtain ⟨w, hw⟩ : ∃ w, w = bh .i64 (vAt 0 q 0) 63 := ⟨_, rfl⟩
 obtain ⟨T, hT⟩ : ∃ T, T = bh .i64 (vAt 0 q 1) 127 := ⟨_, rfl⟩
 rw [← hw] at a0 a1 ⊢
 rw [← hT] at b0 b1 ⊢
 have I0 : VI (rF (1 + w) T KO) 0 := Ho (by omega) (by omega) (by omega) (by omega) (by decide)
 obtain ⟨v', xs', lv', n', pk', h1, h2, h3, h4⟩ := Hn l I0 (by omega) (Hp _ _ _)
 refine ⟨v', xs', lv', n', pk', ?_, h2, h3, h4⟩
 unfold mJ
 dsimp only
 rw [aa ⟨by omega, by omega⟩, aa ⟨by omega, by omega⟩, ← hw, ← hT, av (by omega) (by omega)]
 refine aj (CG (W := 1 + w) (T := T) (key := KO) (by omega) (by omega) b0 (by omega) (by decide)) ?_
 rw [au]
 dsimp only
 exact aj h1 rfl
theorem Hq : kP 1000 ak = some true := by
 obtain ⟨v0, e0⟩ : ∃ v, v = rF 10 5 [107] := ⟨_, rfl⟩
 have I0 : VI v0 0 := by rw [e0]; exact Ho (by decide) (by decide) (by decide) (by decide) (by decide)
 have R0 : PR v0 [] [] 0 [] := by rw [e0]; exact Hp _ _ _
 obtain ⟨x1, l1, n1, p1, h1, R1⟩ := qo I0 (by decide) R0 ⟨1, 0, 0, 0, ⟨#[97]⟩⟩
 have I1 := sH I0 (by decide) ⟨1, 0, 0, 0, ⟨#[97]⟩⟩
 have k1 := iK v0 ⟨1, 0, 0, 0, ⟨#[97]⟩⟩
 obtain ⟨a1, f1⟩ : ∃ r, r = vdo v0 ⟨1, 0, 0, 0, ⟨#[97]⟩⟩ := ⟨_, rfl⟩
 rw [← f1] at h1 R1 I1 k1
 obtain ⟨x2, l2, n2, p2, h2, R2⟩ := qo I1 (by decide) R1 ⟨5, 10, 0, 0, aG⟩
 have I2 := sH I1 (by decide) ⟨5, 10, 0, 0, aG⟩
 have k2 := iK a1.2 ⟨5, 10, 0, 0, aG⟩
 obtain ⟨a2, f2⟩ : ∃ r, r = vdo a1.2 ⟨5, 10, 0, 0, aG⟩ := ⟨_, rfl⟩
 rw [← f2] at h2 R2 I2 k2
 obtain ⟨x3, l3, n3, p3, h3, R3⟩ := qo I2 (by decide) R2 ⟨4, 0, 0, 0, aG⟩
 have I3 := sH I2 (by decide) ⟨4, 0, 0, 0, aG⟩
 have k3 := iK a2.2 ⟨4, 0, 0, 0, aG⟩
 obtain ⟨a3, f3⟩ : ∃ r, r = vdo a2.2 ⟨4, 0, 0, 0, aG⟩ := ⟨_, rfl⟩
 rw [← f3] at h3 R3 I3 k3
 obtain ⟨x4, l4, n4, p4, h4, R4⟩ := qo I3 (by decide) R3 ⟨5, 15, 0, 0, aG⟩
 have I4 := sH I3 (by decide) ⟨5, 15, 0, 0, aG⟩
 have k4 := iK a3.2 ⟨5, 15, 0, 0, aG⟩
 obtain ⟨a4, f4⟩ : ∃ r, r = vdo a3.2 ⟨5, 15, 0, 0, aG⟩ := ⟨_, rfl⟩
 rw [← f4] at h4 R4 I4 k4
 obtain ⟨x5, l5, n5, p5, h5, R5⟩ := qo I4 (by decide) R4 ⟨6, 0, 0, 0, aG⟩
 have I5 := sH I4 (by decide) ⟨6, 0, 0, 0, aG⟩
 have k5 := iK a4.2 ⟨6, 0, 0, 0, aG⟩
 obtain ⟨a5, f5⟩ : ∃ r, r = vdo a4.2 ⟨6, 0, 0, 0, aG⟩ := ⟨_, rfl⟩
 rw [← f5] at h5 R5 I5 k5
 obtain ⟨x6, l6, n6, p6, h6, R6⟩ := qo I5 (by decide) R5 ⟨2, 0, 0, 0, aG⟩
 obtain ⟨a6, f6⟩ : ∃ r, r = vdo a5.2 ⟨2, 0, 0, 0, aG⟩ := ⟨_, rfl⟩
 rw [← f6] at h6
 have g1 : a1.1.err = 0 ∧ a1.1.n = 0 ∧ a1.1.m = 0 := by rw [f1, e0]; decide
 have g2 : a2.1.err = 0 := by rw [f2, f1, e0]; decide
 have g3 : a3.1.hd.1 = 1 := by rw [f3, f2, f1, e0]; decide
 have g4 : a4.1.err = 0 := by rw [f4, f3, f2, f1, e0]; decide
 have g5 : a5.1.n = 0 ∧ a5.1.m = 1 := by rw [f5, f4, f3, f2, f1, e0]; decide
 have g6 : a6.1.err = 20 := by rw [f6, f5, f4, f3, f2, f1, e0]; decide
 have z0 : v0.W = 10 ∧ v0.T = 5 ∧ v0.key = [107] ∧ v0.t = 0 ∧ v0.log = [] := by rw [e0]; exact ⟨rfl, rfl, rfl, rfl, rfl⟩
 rw [z0.1, z0.2.1, z0.2.2.1, z0.2.2.2.1, z0.2.2.2.2] at h1
 unfold kP
 refine aj (CG (W := 10) (T := 5) (key := [107]) (by decide) (by decide) (by decide) (by decide) (by decide)) ?_
 rw [au]
 dsimp only
 refine aj h1 ?_
 dsimp only [Told.tup]
 rw [k1.1, k1.2.1, k1.2.2, z0.1, z0.2.1, z0.2.2.1] at h2
 refine aj h2 ?_
 dsimp only [Told.tup]
 rw [k2.1, k2.2.1, k2.2.2, k1.1, k1.2.1, k1.2.2, z0.1, z0.2.1, z0.2.2.1] at h3
 refine aj h3 ?_
 dsimp only [Told.tup]
 rw [k3.1, k3.2.1, k3.2.2, k2.1, k2.2.1, k2.2.2, k1.1, k1.2.1, k1.2.2, z0.1, z0.2.1, z0.2.2.1] at h4
 refine aj h4 ?_
 dsimp only [Told.tup]
 rw [k4.1, k4.2.1, k4.2.2, k3.1, k3.2.1, k3.2.2, k2.1, k2.2.1, k2.2.2, k1.1, k1.2.1, k1.2.2, z0.1, z0.2.1, z0.2.2.1] at h5
 refine aj h5 ?_
 dsimp only [Told.tup]
 rw [k5.1, k5.2.1, k5.2.2, k4.1, k4.2.1, k4.2.2, k3.1, k3.2.1, k3.2.2, k2.1, k2.2.1, k2.2.2, k1.1, k1.2.1, k1.2.2, z0.1, z0.2.1, z0.2.2.1] at h6
 refine aj h6 ?_
 dsimp only [Told.tup]
 rw [g1.1, g1.2.1, g1.2.2, g2, g3, g4, g5.1, g5.2, g6]
 rfl
theorem LQ {v : Va} {N : Nat} {xs : List KT} {lv : List Vh} {n : Int} {pk : List Vh} (I : VI v N) (hN : N ≤ 500) (R : PR v xs lv n pk) (q : Ask) (hN1 : q.op = 1 → N ≤ 59) :
 ∃ xs' lv' n' pk', aI 1000 (q.op, q.a, q.b, q.c, q.data, v.W, v.T, mkB v.key, v.t, ak, xs, v.log, lv, n, pk) =
  some ((vdo v q).1.tup ((vdo v q).2.W, (vdo v q).2.T, mkB (vdo v q).2.key, (vdo v q).2.t, n', (vdo v q).1.path, (vdo v q).1.cp, (vdo v q).1.cs, xs', (vdo v q).2.log, lv', pk')) ∧ PR (vdo v q).2 xs' lv' n' pk' := by
 obtain ⟨a, b, c, d, h, r⟩ := CF I hN R q hN1
 obtain ⟨k1, k2, k3⟩ := iK v q
 exact ⟨a, b, c, d, by rw [k1, k2, k3]; exact h, r⟩
theorem Is {j k : Nat} {ps l : List Vh} (h : Stk j k ps l) : ps.length ≤ k := by
 induction h with
 | zero j => simp
 | @even j k ps l _ ih => omega
 | @odd j k ps l1 l2 h2 _ ih => rw [List.length_cons]; omega
theorem Hr (s : Sh) {pk1 : List Vh} (hst : Stk 0 s.recs.length pk1.reverse s.lv) (hl : s.recs.length ≤ 500) (e : Nat → Nat) :
 fv 1000 (s.w, s.st, s.sn.1, s.sn.2.1, s.sn.2.2.1, s.sn.2.2.2.1, s.sn.2.2.2.2, s.lv, s.recs.take s.left, (s.recs.length : Int), pk1) = some (s.kid pk1) := by
 have h1 : s.lv.length ≤ 500 := by rw [dE]; omega
 have h2 := Is hst
 rw [List.length_reverse] at h2
 have h3 := ry pk1 (by omega)
 have h4 : iF 1000 ((s.recs.length : Int), pk1) = some ((s.recs.length : Int), pk1) := aj h3 rfl
 exact aj (ry s.lv (by omega)) (aj (xi (s.recs.take s.left) (by rw [List.length_take]; omega)) (aj h4 rfl))
theorem Kids.nth {ss : List Sh} {xs : List KT} (K : Kids ss xs) {i : Nat} (h : i < xs.length) : ∃ s pk, ss[i]? = some s ∧ at_ T3 xs (i : Int) = s.kid pk ∧ xs[i]? = some (s.kid pk) ∧ Stk 0 s.recs.length pk.reverse s.lv := by
 have hi : i < ss.length := by rw [← K.len]; exact h
 have hs : ss[i]? = some ss[i] := List.getElem?_eq_getElem hi
 obtain ⟨pk, h1, h2⟩ := K.g i _ hs
 obtain ⟨pk', h3, h4⟩ := K.get hs
 have : ss[i].kid pk' = ss[i].kid pk := by
  rw [← h3, bL (t := T3) h]
  exact Option.some.inj ((List.getElem?_eq_getElem h).symm.trans h1)
 exact ⟨_, pk, hs, by rw [h3, this], h1, h2⟩
theorem D0 {v : Va} {N : Nat} {xs : List KT} (I : VI v N) (hN : N ≤ 500) (K : Kids v.shs xs) (a b : Int) (c : ByteArray) (d : Int) (e : List Fz) (f : List Vh) (g : Int) (h : List Vh) : dD 1000 (a, b, c, d, xs, e, f, g, h) = some xs := by
 have few : xs.length ≤ 14 := by rw [K.len]; exact I.few
 unfold dD
 dsimp only
 obtain ⟨z, hz, rfl⟩ : ∃ z, (aP (H := Int × (List KT)) (E := (List KT)) 1000 (fun h0 => ai (ilt h0.1 (ae xs)) (af ((inR h0.1 (ae xs))) (af ((inR h0.1 (ae xs))) (af ((inR h0.1 (ae xs))) ((fv 1000 ((at_ T3 xs h0.1).1, (at_ T3 xs h0.1).2.1, (at_ T3 xs h0.1).2.2.1, (at_ T3 xs h0.1).2.2.2.1, (at_ T3 xs h0.1).2.2.2.2.1, (at_ T3 xs h0.1).2.2.2.2.2.1, (at_ T3 xs h0.1).2.2.2.2.2.2.1, (at_ T3 xs h0.1).2.2.2.2.2.2.2.1, (at_ T3 xs h0.1).2.2.2.2.2.2.2.2.1, (at_ T3 xs h0.1).2.2.2.2.2.2.2.2.2.1, (at_ T3 xs h0.1).2.2.2.2.2.2.2.2.2.2)).bind fun r1 => af ((Bf h0.2 (xT (r1.1, r1.2.1, r1.2.2.1, r1.2.2.2.1, r1.2.2.2.2.1, r1.2.2.2.2.2.1, r1.2.2.2.2.2.2.1, r1.2.2.2.2.2.2.2.1, r1.2.2.2.2.2.2.2.2.1, r1.2.2.2.2.2.2.2.2.2.1, r1.2.2.2.2.2.2.2.2.2.2)) 8)) (some (.inl (((WK .i64 (h0.1 + 1)), (h0.2 ++ (xT (r1.1, r1.2.1, r1.2.2.1, r1.2.2.2.1, r1.2.2.2.2.1, r1.2.2.2.2.2.1, r1.2.2.2.2.2.2.1, r1.2.2.2.2.2.2.2.1, r1.2.2.2.2.2.2.2.2.1, r1.2.2.2.2.2.2.2.2.2.1, r1.2.2.2.2.2.2.2.2.2.2))))))))))) (some (.inr (h0.2)))) ((0, ([] : List KT)))) = some z ∧ z = xs := by
  refine lT (fun dd h => ∃ i : Nat, h = ((i : Int), xs.take i) ∧ i + dd = xs.length) (fun z => z = xs) (fun dd h ⟨i, hh, hi⟩ => ?_) xs.length _ ⟨0, rfl, by omega⟩ 1000 (by omega)
  subst hh
  dsimp only
  by_cases c1 : i < xs.length
  ·left
   have c2 : (i : Int) < ae xs := by unfold ae; omega
   obtain ⟨s, pk, h1, h2, h3, h4⟩ := K.nth c1
   have := I.sz s (List.mem_of_getElem? h1)
   rw [be c2, ag, aa ⟨by omega, c2⟩, aa ⟨by omega, c2⟩, aa ⟨by omega, c2⟩, h2]
   refine ⟨((i : Int) + 1, xs.take (i + 1)), dd - 1, ?_, by omega, i + 1, rfl, by omega⟩
   refine aj (Hr s h4 (by omega) id) ?_
   rw [aa (show Bf (xs.take i) _ 8 from ⟨by simp [xT, List.length_take]; omega, fun h => by simp at h⟩), av (by omega) (by omega)]
   rw [List.take_add_one, h3]
   rfl
  ·right
   rw [aM (show ae xs ≤ (i : Int) by unfold ae; omega), ac]
   exact ⟨_, rfl, List.take_of_length_le (by omega)⟩
 exact aj hz rfl
theorem yk {v : Va} {N : Nat} (I : VI v N) {i : Nat} {s : Sh} (h : v.shs[i]? = some s) : Ag v s.w = some s := by
 cases hf : fnd v.shs s.w with
 | none => exact absurd rfl (Ah hf s (List.mem_of_getElem? h))
 | some j =>
   obtain ⟨s', h1, h2⟩ := lZ hf
   have : j = i := by
    rcases Nat.lt_trichotomy j i with c | c | c
    ·have := I.asc j i s' s c h1 h; omega
    ·exact c
    ·have := I.asc i j s s' c h h1; omega
   subst this
   exact oV hf h
structure TOk (o : Told) : Prop where
 a : o.path.length ≤ 900
 b : o.cp.length ≤ 900
 c : o.cs.length ≤ 900
theorem yl (w : Bool) (m : Nat) (l : List Vh) : (pth w 40 m l).length ≤ 900 := by
 rw [iR]; exact Nat.le_trans (jD w 40 m l.length) (by decide)
theorem BF (l : List Vh) (i n : Int) : (jo l i n).2.length ≤ 900 := by
 unfold jo
 split
 ·simp
 ·exact yl _ _ _
theorem An (l : List Vh) (i n : Int) : (oU l i n).2.length ≤ 900 := by
 unfold oU
 split
 ·simp
 ·exact Nat.le_trans (Im _ _) (by decide)
theorem ko (e : Int) : TOk (dk e) := ⟨Nat.zero_le _, Nat.zero_le _, Nat.zero_le _⟩
theorem It (v : Va) (q : Ask) : TOk (vdo v q).1 := by
 unfold vdo
 split
 ·unfold je
  repeat' split
  all_goals first | exact ko _ | exact ⟨Nat.zero_le _, Nat.zero_le _, Nat.zero_le _⟩
 split
 ·show TOk (oz v q.a q.b)
  unfold oz
  repeat' split
  all_goals first | exact ko _ | exact ⟨Nat.zero_le _, Nat.zero_le _, Nat.zero_le _⟩
 split
 ·show TOk (cL v q.a q.b q.c)
  unfold cL
  split
  ·exact ko _
  ·exact ⟨BF _ _ _, Nat.zero_le _, Nat.zero_le _⟩
 split
 ·exact ⟨Nat.zero_le _, Nat.zero_le _, Nat.zero_le _⟩
 split
 ·unfold eP
  split <;> exact ko _
 split
 ·unfold bv
  repeat' split
  all_goals first | exact ko _ | exact ⟨Nat.zero_le _, Nat.zero_le _, Nat.zero_le _⟩
 split
 ·show TOk (oA v q.a q.b)
  unfold oA
  repeat' split
  all_goals first | exact ko _ | exact ⟨Nat.zero_le _, yl _ _ _, yl _ _ _⟩
 split
 ·exact ⟨An _ _ _, Nat.zero_le _, Nat.zero_le _⟩
 ·exact ko _
theorem D8 {o : Told} (h : TOk o) : mL 1000 (o.err, o.n, o.m, o.rc.1, o.rc.2.1, o.rc.2.2.1, o.rc.2.2.2, o.sn.1, o.sn.2.1, o.sn.2.2.1, o.sn.2.2.2.1, o.sn.2.2.2.2, o.hd.1, o.hd.2.1, o.hd.2.2.1, o.hd.2.2.2, o.cf.1, o.cf.2.1, o.cf.2.2, o.pl, o.ch.1, o.ch.2.1, o.ch.2.2.1, o.ch.2.2.2, o.err, o.n, o.m, o.rc.1, o.rc.2.1, o.rc.2.2.1, o.rc.2.2.2, o.sn.1, o.sn.2.1, o.sn.2.2.1, o.sn.2.2.2.1, o.sn.2.2.2.2, o.hd.1, o.hd.2.1, o.hd.2.2.1, o.hd.2.2.2, o.cf.1, o.cf.2.1, o.cf.2.2, o.pl, o.ch.1, o.ch.2.1, o.ch.2.2.1, o.ch.2.2.2, o.path, o.cp, o.cs, o.path, o.cp, o.cs) = some true := by
 have s19 : mK 1000 (o.cf.1, o.cf.2.1, o.cf.2.2, o.pl, o.ch.1, o.ch.2.1, o.ch.2.2.1, o.ch.2.2.2, o.cf.1, o.cf.2.1, o.cf.2.2, o.pl, o.ch.1, o.ch.2.1, o.ch.2.2.1, o.ch.2.2.2, o.cp, o.cs, o.cp, o.cs) = some true := by
  unfold mK
  refine aj (sC o.cp h.b) (aj (sC o.cs h.c) ?_)
  dsimp only
  simp only [cu, iI, ag, Bool.and_true, Bool.and_self]
 unfold mL
 refine aj (sC o.path h.a) (aj s19 ?_)
 dsimp only
 simp only [cu, iI, ag, Bool.and_true, Bool.and_self, Gh]
theorem xo (a : Int) {n : Nat} (h : 0 < n) (hn : n ≤ 1000) : ∃ m : Nat, m < n ∧ Int.tmod (WK .i64 ((Int.tmod a (n : Int)) + (n : Int))) (n : Int) = (m : Int) := by
 have h1 : Int.tmod a (n : Int) < (n : Int) := Int.tmod_lt_of_pos a (by omega)
 have h2 : -(n : Int) < Int.tmod a (n : Int) := Int.lt_tmod_of_pos a (b := (n : Int)) (by omega)
 rw [av (by omega) (by omega)]
 obtain ⟨b, hb⟩ : ∃ b : Nat, Int.tmod a (n : Int) + (n : Int) = (b : Int) := ⟨(Int.tmod a (n : Int) + (n : Int)).toNat, by omega⟩
 rw [hb]
 exact ⟨b % n, Nat.mod_lt _ h, rfl⟩
theorem BG {v v' : Va} {N : Nat} (I : VI v N) (I' : VI v' (N + 30)) (L : Later v v') {i : Nat} {s : Sh} (hi : v.shs[i]? = some s) {k : Int} :
 cL v' s.w k (s.lv.length : Int) = cL v s.w k (s.lv.length : Int) := by
 obtain ⟨s', h1, h2⟩ := L.shs i s hi
 unfold cL
 rw [yk I hi, ← h2.w, yk I' h1]
 dsimp only
 obtain ⟨r, hr⟩ := h2.recs
 have hp : jo s'.lv k (s.lv.length : Int) = jo s.lv k (s.lv.length : Int) := by
  have : s'.lv = s.lv ++ r.map lfR := by unfold Sh.lv; rw [hr, List.map_append]
  unfold jo
  rw [this, List.length_append, Int.toNat_natCast, List.take_left, List.take_length]
  by_cases c : ((s.lv.length : Int) < 1 ∨ ((s.lv.length : Nat) : Int) < (s.lv.length : Int) ∨ k < 0 ∨ (s.lv.length : Int) ≤ k)
  ·rw [if_pos c, if_pos (by omega)]
  ·rw [if_neg c, if_neg (by omega)]
 rw [hp]
def vF : Prop := ∀ (z0 : Ty.den (.arr 4 (.int .i64))) (z1 : Ty.den (.sl 31 (.pair (.pair (.int .i64) (.pair (.int .i64) (.pair (.int .i64) (.pair (.int .i64) .str)))) (.pair (.int .i64) .bool)))) (z2 : Ty.den (.sl 31 (.pair (.pair (.int .i64) (.pair (.int .i64) (.pair (.int .i64) (.pair (.int .i64) .str)))) (.pair (.int .i64) .bool)))), wfT (.arr 4 (.int .i64)) z0 → wfT (.sl 31 (.pair (.pair (.int .i64) (.pair (.int .i64) (.pair (.int .i64) (.pair (.int .i64) .str)))) (.pair (.int .i64) .bool))) z1 → wfT (.sl 31 (.pair (.pair (.int .i64) (.pair (.int .i64) (.pair (.int .i64) (.pair (.int .i64) .str)))) (.pair (.int .i64) .bool))) z2 → ∃ k, iH k (z0, z1, z2, ak) = some true
theorem vG : vF := by
 intro z0 z1 z2 _ _ _
 refine ⟨1000, ?_⟩
 obtain ⟨v, xs, lv, n, pk, h, I, R, L⟩ := Ir (⟨#[(vAt 0 z0 0), (vAt 0 z0 1)], rfl⟩ : Vector Int 2) z1
 unfold iH
 refine aj Hq ((aa ⟨by decide, by decide⟩).trans ((aa ⟨by decide, by decide⟩).trans (aj h ?_)))
 rw [au]
 refine aj (D0 I (by decide) R.kids ..) ?_
 have few : xs.length ≤ 14 := by rw [R.kids.len]; exact I.few
 by_cases c0 : xs.length = 0
 ·exact (congrArg (ai · _ _) (cu (show ae xs = 0 by unfold ae; omega))).trans (ag _ _)
 refine ((congrArg (ai · _ _) (cU (show ae xs ≠ 0 by unfold ae; omega))).trans (ac _ _)).trans ?_
 dsimp only
 have hnz : nz (ae xs) := by show ae xs ≠ 0; unfold ae; omega
 obtain ⟨i, hi, hp⟩ := xo (vAt 0 z0 2) (n := xs.length) (by omega) (by omega)
 rw [show (ae xs) = ((xs.length : Nat) : Int) from rfl] at *
 rw [hp]
 have c3 : inR (i : Int) (xs.length : Int) := ⟨by omega, by omega⟩
 obtain ⟨s, pk2, h1, h2, h3, h4⟩ := R.kids.nth hi
 have hm := List.mem_of_getElem? h1
 have hz := I.sz s hm
 have O := I.ok s hm
 have hlv := dE s
 have h1' := O.some1
 rw [aa (show inR 2 4 from ⟨by decide, by decide⟩), aa hnz, aa hnz, aa c3, aa c3, aa c3, h2]
 show ai (ilt (s.lv.length : Int) 1) _ _ = _
 rw [aM (show (1 : Int) ≤ (s.lv.length : Int) by omega), ac, aa (show inR 3 4 from ⟨by decide, by decide⟩)]
 have hnz2 : nz (s.lv.length : Int) := by show (s.lv.length : Int) ≠ 0; omega
 refine (aa hnz2).trans ((aa hnz2).trans ?_)
 obtain ⟨k, hk, hq⟩ := xo (vAt 0 z0 3) (n := s.lv.length) (by omega) (by omega)
 rw [show ae (s.kid pk2).2.2.2.2.2.2.2.1 = (s.lv.length : Int) from rfl, hq, aa c3]
 obtain ⟨x4, l4, n4, p4, q1, R4⟩ := LQ I (by decide) R ⟨3, s.w, (k : Int), (s.lv.length : Int), aG⟩ (fun h => absurd h (show ¬ (3 : Int) = 1 by decide))
 rw [show vdo v ⟨3, s.w, (k : Int), (s.lv.length : Int), aG⟩ = (cL v s.w (k : Int) (s.lv.length : Int), v) from rfl] at q1 R4
 have ho : cL v s.w (k : Int) (s.lv.length : Int) = { dk 0 with path := pth false 40 k s.lv } := by
  unfold cL jo
  rw [yk I h1]
  dsimp only
  rw [if_neg (by omega), Int.toNat_natCast, Int.toNat_natCast, List.take_length]
 obtain ⟨v2, x5, l5, n5, p5, q2, I2, R5, L2⟩ := Hn z2 I (by decide) R4
 obtain ⟨x6, l6, n6, p6, q3, R6⟩ := LQ I2 (by decide) R5 ⟨3, s.w, (k : Int), (s.lv.length : Int), aG⟩ (fun h => absurd h (show ¬ (3 : Int) = 1 by decide))
 rw [show vdo v2 ⟨3, s.w, (k : Int), (s.lv.length : Int), aG⟩ = (cL v2 s.w (k : Int) (s.lv.length : Int), v2) from rfl, BG I I2 L2 h1] at q3
 have hT : TOk (cL v s.w (k : Int) (s.lv.length : Int)) := It v ⟨3, s.w, (k : Int), (s.lv.length : Int), aG⟩
 have hs := D8 hT
 have e1 : at_ T1 s.lv (k : Int) = s.lv[k] := bL (t := T1) hk
 refine aj q1 ?_
 refine ((congrArg (ai · _ _) (show ine (cL v s.w (k : Int) (s.lv.length : Int)).err 0 = false by rw [ho]; exact eh rfl)).trans (ac _ _)).trans ?_
 refine (aa c3).trans ?_
 refine aj (a := rt 40 s.lv) (by
  have hf := xg (lv := s.lv) (pk := pk2) (by rw [hlv]; exact h4) (by omega)
  rw [hlv] at hf
  exact aj hf rfl) ?_
 refine (aa c3).trans (aj (a := s.lv) (aj (ry s.lv (by omega)) rfl) ((aa ⟨by omega, by show (k : Int) < ae s.lv; unfold ae; omega⟩).trans ?_))
 refine aj (a := true) (by
  have r := GR hk (by omega)
  rw [← e1] at r
  show jc 1000 (rt 40 s.lv, _, (k : Int), (s.lv.length : Int), (cL v s.w (k : Int) (s.lv.length : Int)).path) = _
  rw [ho]
  exact r) ?_
 refine (ac _ _).trans (aj q2 ((aa c3).trans (aj q3 (aj hs ?_))))
 exact ag _ _
end Go.Proofs.YtlepjakmadlkjaaGreatDoor
