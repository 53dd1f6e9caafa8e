/- Texts of the proof, put together: part 9. No condition. -/
import Derived.Test.YtlepjakmadlkjaaGreatDoorT8
set_option linter.unusedVariables false
set_option linter.unusedSimpArgs false
namespace Go.Proofs.YtlepjakmadlkjaaGreatDoor
open Go
def ab : List Vh → List Vh
 | a :: b :: r => node a b :: ab r
 | [x] => [x]
 | [] => []
theorem ab_len : ∀ l : List Vh, (ab l).length = (l.length + 1) / 2
 | [] => by simp [ab]
 | [_] => by simp [ab]
 | a :: b :: r => by simp only [ab, List.length_cons, ab_len r]; omega
theorem ab_get : ∀ (l : List Vh) (i : Nat) (h : 2 * i + 1 < l.length), (ab l)[i]'(by rw [ab_len]; omega) = node l[2 * i] l[2 * i + 1]
 | [], i, h => by simp at h
 | [_], i, h => by simp at h
 | a :: b :: r, 0, h => rfl
 | a :: b :: r, i + 1, h => by
   have := ab_get r i (by simp at h; omega)
   simpa [ab, Nat.mul_add] using this
theorem ab_last : ∀ (l : List Vh) (h : l.length % 2 = 1), ab l = (ab l).take (l.length / 2) ++ [l[l.length - 1]'(by omega)]
 | [], h => by simp at h
 | [x], h => by simp [ab]
 | a :: b :: r, h => by
   have hr : r.length % 2 = 1 := by simp at h; omega
   have := ab_last r hr
   have e : (a :: b :: r).length / 2 = r.length / 2 + 1 := by simp; omega
   rw [e]
   simp only [ab, List.take_succ_cons, List.cons_append, List.cons.injEq, true_and]
   rw [this]
   congr 1
   ·rw [List.take_append_of_le_length (by rw [List.length_take, ab_len]; omega), List.take_take, Nat.min_self]
   ·have h1 : (a :: b :: r).length - 1 = (r.length - 1) + 1 + 1 := by simp; omega
    simp only [h1, List.getElem_cons_succ]
theorem ab_app : ∀ (l r : List Vh), l.length % 2 = 0 → ab (l ++ r) = ab l ++ ab r
 | [], r, _ => rfl
 | [_], r, h => by simp at h
 | a :: b :: l, r, h => by
   simp only [ab, List.cons_append]
   rw [ab_app l r (by simp at h; omega)]
theorem rt_ab : ∀ (d : Nat) (l : List Vh), 2 ≤ l.length → l.length ≤ 2 ^ (d + 1) → rt (d + 1) l = rt d (ab l) := by
 intro d
 induction d with
 | zero =>
   intro l h1 h2
   match l, h1, h2 with
   | [a, b], _, _ => rfl
   | a :: b :: c :: r, _, h2 => simp at h2 <;> omega
 | succ d ih =>
   intro l h1 h2
   by_cases h3 : l.length = 2
   ·match l, h3 with
    | [a, b], _ =>
      have e2 : sp [a, b].length = 1 := rfl
      rw [rt_big (by simp), rt_small (l := ab [a, b]) (by simp [ab]), e2, rt_small (l := [a, b].take 1) (by simp), rt_small (l := [a, b].drop 1) (by simp)]
      rfl
   ·obtain ⟨a1, a2, a3⟩ := sp_spec (n := l.length) h1
    have a4 := sp_le (n := l.length) (d := d + 1) h1 h2
    obtain ⟨j, hj⟩ : ∃ j, sp l.length = 2 ^ j := ⟨_, rfl⟩
    have hj0 : j ≠ 0 := by
     rintro rfl
     rw [Nat.pow_zero] at hj
     omega
    obtain ⟨j, rfl⟩ : ∃ i, j = i + 1 := ⟨j - 1, by omega⟩
    rw [Nat.pow_succ] at hj
    have hpd : 2 ^ (d + 1) = 2 * 2 ^ d := by rw [Nat.pow_succ, Nat.mul_comm]
    have hs : sp ((ab l).length) = 2 ^ j := by
     rw [ab_len]
     apply sp_unique
     ·omega
     ·rw [Nat.pow_succ]; omega
    have hl : (ab l).length = (l.length + 1) / 2 := ab_len l
    have e : ab l = ab (l.take (2 ^ j * 2)) ++ ab (l.drop (2 ^ j * 2)) := by
     rw [← ab_app _ _ (by rw [List.length_take]; omega), List.take_append_drop]
    have et : (ab l).take (2 ^ j) = ab (l.take (2 ^ j * 2)) := by
     rw [e, List.take_left']
     rw [ab_len, List.length_take]; omega
    have ed : (ab l).drop (2 ^ j) = ab (l.drop (2 ^ j * 2)) := by
     rw [e, List.drop_left']
     rw [ab_len, List.length_take]; omega
    rw [rt_big h1, rt_big (l := ab l) (d := d) (by omega), hs, hj, et, ed]
    congr 1
    ·exact ih _ (by rw [List.length_take]; omega) (by rw [List.length_take]; omega)
    ·by_cases h5 : (l.drop (2 ^ j * 2)).length = 1
     ·obtain ⟨x, hx⟩ := List.length_eq_one_iff.1 h5
      rw [hx, rt_small (by simp), rt_small (by simp [ab])]
      rfl
     ·rw [List.length_drop] at h5
      exact ih _ (by rw [List.length_drop]; omega) (by rw [List.length_drop]; omega)
theorem above_ok (l : List Vh) (hl : l.length ≤ 900) : leaf_above 1000 (l, vgl_sha_keys) = some (ab l) := by
 have h0 := ab_len l
 unfold leaf_above
 dsimp only
 refine (guardO_pos (by decide)).trans ?_
 have ed : WK .i64 (Int.tdiv (llen l) 2) = ((l.length / 2 : Nat) : Int) := by
  show WK .i64 ((l.length / 2 : Nat) : Int) = _
  exact wk_nat (by omega)
 rw [ed]
 refine bind_of (loopK_run (fun i : Nat => ((i : Int), (ab l).take i)) (l.length / 2) ((ab l).take (l.length / 2)) 1000 (fun i hi => ?_) ?_ (by omega)) ?_
 ·dsimp only
  refine (congrArg (condO · _ _) (ilt_t (by omega))).trans ((condO_true _ _).trans ?_)
  have e1 : WK .i64 (2 * (i : Int)) = ((2 * i : Nat) : Int) := by rw [wk_i64 (by omega) (by omega)]; omega
  have e2 : WK .i64 (((2 * i : Nat) : Int) + 1) = ((2 * i + 1 : Nat) : Int) := by rw [wk_i64 (by omega) (by omega)]; omega
  have e3 : at_ T1 l ((2 * i : Nat) : Int) = l[2 * i] := at_nat (t := T1) (by omega)
  have e4 : at_ T1 l ((2 * i + 1 : Nat) : Int) = l[2 * i + 1] := at_nat (t := T1) (by omega)
  rw [e1, e2, e3, e4]
  refine (guardO_pos ⟨by omega, by unfold llen; omega⟩).trans ((guardO_pos ⟨by omega, by unfold llen; omega⟩).trans ?_)
  refine (guardO_pos (node_cat1 _)).trans ((guardO_pos (node_cat2 _ _)).trans (bind_of (node_sha _ _) ?_))
  refine (guardO_pos (show appOk _ _ _ from by unfold appOk; simp; omega)).trans ?_
  rw [wk_i64 (x := (i : Int) + 1) (by omega) (by omega), List.take_add_one, List.getElem?_eq_getElem (by omega), ab_get l i (by omega)]
  rfl
 ·dsimp only
  exact (congrArg (condO · _ _) (ilt_f (by omega))).trans (condO_false _ _)
 ·have key : (guardO ((nz 2)) (condO (ieq (Int.tmod (llen l) 2) 1) (guardO ((inR (WK .i64 ((llen l) - 1)) (llen l))) (guardO ((appOk ((ab l).take (l.length / 2)) ([(at_ T1 l (WK .i64 ((llen l) - 1)))] : List Vh) 32)) (some ((((ab l).take (l.length / 2)) ++ ([(at_ T1 l (WK .i64 ((llen l) - 1)))] : List Vh)))))) (some ((ab l).take (l.length / 2)))) : Option (List Vh)) = some (ab l) := by
   refine (guardO_pos (by decide)).trans ?_
   have em : Int.tmod (llen l) 2 = ((l.length % 2 : Nat) : Int) := rfl
   rw [em]
   by_cases h1 : l.length % 2 = 1
   ·refine (congrArg (condO · _ _) (ieq_t (by omega))).trans ((condO_true _ _).trans ?_)
    have e1 : WK .i64 (llen l - 1) = ((l.length - 1 : Nat) : Int) := by rw [wk_i64 (by unfold llen; omega) (by unfold llen; omega)]; unfold llen; omega
    have e2 : at_ T1 l ((l.length - 1 : Nat) : Int) = l[l.length - 1] := at_nat (t := T1) (by omega)
    rw [e1, e2]
    refine (guardO_pos ⟨by omega, by unfold llen; omega⟩).trans ((guardO_pos (show appOk _ _ _ from by unfold appOk; simp; omega)).trans ?_)
    exact congrArg some (ab_last l h1).symm
   ·refine (congrArg (condO · _ _) (ieq_f (by omega))).trans ((condO_false _ _).trans ?_)
    rw [List.take_of_length_le (by omega)]
  exact bind_of key rfl
theorem clone_ok (l : List Vh) (h : l.length ≤ 900) : slices_Clone 1000 l = some l := by
 have hb : l.length * 32 ≤ 140737488355328 := by omega
 exact guardO_pos hb
theorem root_ok {d : Nat} (l : List Vh) (h : l.length ≤ 2 ^ d) (hd : d ≤ 9) : leaf_Root 1000 (l, vgl_sha_keys) = some (rt d l) := by
 have hb : l.length ≤ 512 := Nat.le_trans h (Nat.le_trans (Nat.pow_le_pow_right (by omega) hd) (by decide))
 unfold leaf_Root
 dsimp only
 by_cases h0 : l.length = 0
 ·have : l = [] := List.eq_nil_of_length_eq_zero h0
  subst this
  refine (congrArg (condO · _ _) (ieq_t (by simp))).trans ((condO_true _ _).trans ?_)
  refine bind_of (sha_of [] (by simp) (by simp)) ?_
  rw [rt_small (by simp)]; rfl
 ·refine (congrArg (condO · _ _) (ieq_f (by unfold llen; omega))).trans ((condO_false _ _).trans ?_)
  have hL : ∃ r, leaf_Levels 1000 (l, vgl_sha_keys) = some r ∧ ∃ o, r = o ++ [[rt d l]] ∧ o.length ≤ 30 := by
   unfold leaf_Levels
   dsimp only
   rw [clone_ok l (by omega), Option.bind_some]
   refine loop_bindE (fun e h => ∃ (row : List Vh) (o : List (List Vh)), h = (row, o ++ [row]) ∧ row.length ≤ 2 ^ e ∧ row ≠ [] ∧ rt e row = rt d l ∧ o.length + e ≤ d ∧ row.length ≤ 900) (fun e => ∃ o, e = o ++ [[rt d l]] ∧ o.length ≤ 30) d (by omega) ⟨l, [], rfl, h, by intro e; subst e; exact h0 rfl, rfl, by simp, by omega⟩ ?_ (fun e he => ⟨e, rfl, he⟩)
   rintro e _ ⟨row, o, rfl, r1, r2, r3, r4, r5⟩
   dsimp only
   by_cases a : row.length < 2
   ·refine (congrArg (fun b => Goes _ _ _ (condO b _ _)) (ilt_t (a := llen row) (b := 2) (by unfold llen; omega))).mpr ?_
    rw [condO_true]
    refine .out ⟨o, ?_, by omega⟩
    have h1 : row.length = 1 := by
     have : row.length ≠ 0 := fun e => r2 (List.eq_nil_of_length_eq_zero e)
     omega
    obtain ⟨x, rfl⟩ := List.length_eq_one_iff.1 h1
    rw [rt_small (by simp)] at r3
    rw [← r3]; rfl
   ·refine (congrArg (fun b => Goes _ _ _ (condO b _ _)) (ilt_f (a := llen row) (b := 2) (by unfold llen; omega))).mpr ?_
    obtain ⟨e, rfl⟩ := pow_le_two (n := row.length) (by omega) r1
    have hal := ab_len row
    rw [condO_false, above_ok row r5, Option.bind_some, guardO_pos (show appOk _ _ _ from by unfold appOk; simp; omega)]
    have hpd : 2 ^ (e + 1) = 2 * 2 ^ e := by rw [Nat.pow_succ, Nat.mul_comm]
    exact .on e (by omega) ⟨ab row, o ++ [row], by simp, by omega, by intro h; rw [h] at hal; simp at hal; omega, by rw [← rt_ab e row (by omega) r1]; exact r3, by simp; omega, by omega⟩
  obtain ⟨_, hL, o, rfl, ho⟩ := hL
  refine bind_of hL ?_
  have e1 : WK .i64 (llen (o ++ [[rt d l]]) - 1) = ((o.length : Nat) : Int) := by
   rw [show llen (o ++ [[rt d l]]) = (o.length : Int) + 1 by unfold llen; simp]
   rw [wk_i64 (by omega) (by omega)]; omega
  have e2 : at_ T9 (o ++ [[rt d l]]) ((o.length : Nat) : Int) = [rt d l] := by
   rw [at_nat (t := T9) (by simp)]; simp
  have e3 : llen (o ++ [[rt d l]]) = (o.length : Int) + 1 := by unfold llen; simp
  rw [e1, e2, e3]
  exact (guardO_pos ⟨by omega, by omega⟩).trans ((guardO_pos ⟨by decide, by show (0 : Int) < 1; decide⟩).trans rfl)
end Go.Proofs.YtlepjakmadlkjaaGreatDoor
namespace Go.Proofs.YtlepjakmadlkjaaGreatDoor
open Go
theorem reverse_ok (l : List Vh) (hl : l.length ≤ 900) : slices_Reverse 1000 l = some l.reverse := by
 unfold slices_Reverse
 refine loop_bind (fun d h => ∃ (t : Nat) (L : List Vh), h = ((t : Int), (l.length : Int) - 1 - (t : Int), L) ∧ d = l.length - t ∧ t ≤ l.length ∧ L.length = l.length ∧ ∀ j, j < l.length → L[j]? = if j < t ∨ l.length - t ≤ j then l[l.length - 1 - j]? else l[j]?) (fun e => e = l.reverse) l.length (by omega)
  ⟨0, l, by rw [wk_i64 (by unfold llen; omega) (by unfold llen; omega)]; unfold llen; simp, by omega, by omega, rfl, fun j hj => by rw [if_neg (by omega)]⟩ ?_ (fun e he => by rw [he])
 rintro d _ ⟨t, L, rfl, hd, ht, hL, hj⟩
 dsimp only
 by_cases a : (t : Int) < (l.length : Int) - 1 - (t : Int)
 ·have e0 : (l.length : Int) - 1 - (t : Int) = ((l.length - 1 - t : Nat) : Int) := by omega
  rw [ilt_t a, condO_true, e0]
  rw [guardO_pos ⟨by omega, by unfold llen; omega⟩, guardO_pos ⟨by omega, by unfold llen; omega⟩, guardO_pos ⟨by omega, by unfold llen; omega⟩, guardO_pos ⟨by omega, by unfold llen; rw [List.length_set]; omega⟩]
  have e1 : WK .i64 ((t : Int) + 1) = ((t + 1 : Nat) : Int) := by rw [wk_i64 (by omega) (by omega)]; omega
  have e2 : WK .i64 (((l.length - 1 - t : Nat) : Int) - 1) = (l.length : Int) - 1 - ((t + 1 : Nat) : Int) := by rw [wk_i64 (by omega) (by omega)]; omega
  have e3 : at_ T1 L ((l.length - 1 - t : Nat) : Int) = L[l.length - 1 - t] := at_nat (t := T1) (by omega)
  have e4 : at_ T1 L (t : Int) = L[t] := at_nat (t := T1) (by omega)
  rw [e1, e2, e3, e4]
  unfold lset
  rw [Int.toNat_natCast, Int.toNat_natCast]
  refine .on (l.length - (t + 1)) (by omega) ⟨t + 1, _, rfl, rfl, by omega, by simp [hL], fun j hjl => ?_⟩
  have g1 := hj t (by omega)
  have g2 := hj (l.length - 1 - t) (by omega)
  rw [if_neg (by omega), List.getElem?_eq_getElem (by omega)] at g1 g2
  rw [List.getElem?_set, List.getElem?_set]
  simp only [List.length_set]
  by_cases b1 : l.length - 1 - t = j
  ·rw [if_pos b1, if_pos (by omega), if_pos (by omega), g1]
   congr 1; omega
  ·rw [if_neg b1]
   by_cases b2 : t = j
   ·rw [if_pos b2, if_pos (by omega), if_pos (by omega), g2]
    congr 1; omega
   ·rw [if_neg b2, hj j hjl]
    by_cases b3 : j < t ∨ l.length - t ≤ j
    ·rw [if_pos b3, if_pos (by omega)]
    ·rw [if_neg b3, if_neg (by omega)]
 ·rw [ilt_f (by omega), condO_false]
  refine .out ?_
  apply List.ext_getElem?
  intro j
  by_cases b : j < l.length
  ·rw [hj j b, List.getElem?_reverse b]
   split
   ·rfl
   ·congr 1; omega
  ·rw [List.getElem?_eq_none (by omega), List.getElem?_eq_none (by simp; omega)]
theorem root40 (l : List Vh) (h : l.length ≤ 512) : leaf_Root 1000 (l, vgl_sha_keys) = some (rt 40 l) := by
 rw [root_ok (d := 9) l (by simpa using h) (by omega), rt_deep 9 l (by simpa using h) 40 (by omega)]
def pth (w : Bool) : Nat → Nat → List Vh → List Vh
 | 0, _, _ => []
 | d + 1, m, l => if l.length < 2 ∨ (w = true ∧ m = l.length) then [] else
   if m < sp l.length ∨ (w = true ∧ m = sp l.length) then pth w d m (l.take (sp l.length)) ++ [rt 40 (l.drop (sp l.length))] else pth w d (m - sp l.length) (l.drop (sp l.length)) ++ [rt 40 (l.take (sp l.length))]
theorem pth_nil {w : Bool} {m : Nat} {l : List Vh} (h : l.length < 2 ∨ (w = true ∧ m = l.length)) (d : Nat) : pth w d m l = [] := by
 cases d with
 | zero => rfl
 | succ d => rw [pth, if_pos h]
theorem pth_left {w : Bool} {d m : Nat} {l : List Vh} (a : ¬ (l.length < 2 ∨ (w = true ∧ m = l.length))) (b : m < sp l.length ∨ (w = true ∧ m = sp l.length)) : pth w (d + 1) m l = pth w d m (l.take (sp l.length)) ++ [rt 40 (l.drop (sp l.length))] := by
 rw [pth, if_neg a, if_pos b]
theorem pth_right {w : Bool} {d m : Nat} {l : List Vh} (a : ¬ (l.length < 2 ∨ (w = true ∧ m = l.length))) (b : ¬ (m < sp l.length ∨ (w = true ∧ m = sp l.length))) : pth w (d + 1) m l = pth w d (m - sp l.length) (l.drop (sp l.length)) ++ [rt 40 (l.take (sp l.length))] := by
 rw [pth, if_neg a, if_neg b]
theorem pth_len (w : Bool) : ∀ d m (l : List Vh), (pth w d m l).length = (stp w d m l.length).length
 | 0, _, _ => rfl
 | d + 1, m, l => by
   by_cases a : l.length < 2 ∨ (w = true ∧ m = l.length)
   ·rw [pth_nil a, stp_nil a]; rfl
   ·by_cases b : m < sp l.length ∨ (w = true ∧ m = sp l.length)
    ·rw [pth_left a b, stp_left a b, List.length_append, pth_len w d, len_take l (by omega)]; rfl
    ·rw [pth_right a b, stp_right a b, List.length_append, pth_len w d, List.length_drop]; rfl
theorem beside_ok (w : Bool) (m : Nat) (l : List Vh) (hl : l.length ≤ 512) : path_beside 1000 (l, (stp w 40 m l.length).map cst3, vgl_sha_keys) = some (pth w 40 m l) := by
 obtain ⟨S, hS⟩ : ∃ S, S = (stp w 40 m l.length).map cst3 := ⟨_, rfl⟩
 have hSl : S.length ≤ 40 := by rw [hS, List.length_map]; exact stp_len ..
 have hP := pth_len w 40 m l
 have hP2 : (pth w 40 m l).length ≤ 40 := by rw [hP]; exact stp_len ..
 obtain ⟨R, hR⟩ : ∃ R, R = pth w 40 m l := ⟨_, rfl⟩
 rw [← hR] at hP2
 rw [← hS, ← hR]
 unfold path_beside
 dsimp only
 refine loop_bind (fun e h => ∃ (i d m' : Nat) (l' out : List Vh), h = ((i : Int), l', out) ∧ i + e = S.length ∧ S.drop i = (stp w d m' l'.length).map cst3 ∧ l'.length ≤ 512 ∧ out ++ (pth w d m' l').reverse = R.reverse) (fun e => e = R.reverse) S.length (by omega) ⟨0, 40, m, l, [], rfl, by omega, by simp [hS], hl, by simp [hR]⟩ ?_ ?_
 ·clear hP hS hR
  rintro e _ ⟨i, d, m', l', out, rfl, hi, hd, hl', ho⟩
  dsimp only
  by_cases a : i < S.length
  ·have hne : stp w d m' l'.length ≠ [] := by
    intro h
    rw [h, List.map_nil] at hd
    have := congrArg List.length hd
    rw [List.length_drop] at this
    simp at this; omega
   have h1 : ¬ (l'.length < 2 ∨ (w = true ∧ m' = l'.length)) := fun h => hne (stp_nil h d)
   obtain ⟨d, rfl⟩ : ∃ d', d = d' + 1 := by
    cases d with
    | zero => exact absurd rfl hne
    | succ d => exact ⟨d, rfl⟩
   have h2 : 2 ≤ l'.length := by omega
   obtain ⟨s1, s2, s3⟩ := sp_spec h2
   have hdr : S.drop i = S[i] :: S.drop (i + 1) := List.drop_eq_getElem_cons a
   have hat : at_ T8 S (i : Int) = S[i] := at_nat (t := T8) a
   have hlen : (pth w (d + 1) m' l').length + out.length ≤ 40 := by
    have := congrArg List.length ho
    simp at this; omega
   rw [ilt_t (show (i : Int) < llen S by unfold llen; omega), condO_true, guardO_pos ⟨by omega, by unfold llen; omega⟩, hat]
   have ei : WK .i64 ((i : Int) + 1) = ((i + 1 : Nat) : Int) := wk_i64 (by omega) (by omega)
   have ap : ∀ x : Vh, appOk out [x] 32 := fun x => by unfold appOk; simp; omega
   by_cases b : m' < sp l'.length ∨ (w = true ∧ m' = sp l'.length)
   ·rw [stp_left h1 b, hdr, List.map_cons, List.cons.injEq] at hd
    obtain ⟨hd1, hd2⟩ := hd
    rw [pth_left h1 b] at ho
    rw [hd1]
    dsimp only
    rw [condO_false, ltake_nat, ldrop_nat]
    rw [guardO_pos ⟨by omega, by unfold llen; omega, by omega, by omega⟩, root40 _ (by rw [List.length_drop]; omega), Option.bind_some, guardO_pos (ap _), guardO_pos ⟨by omega, by omega, by unfold llen; omega, by omega⟩, ei]
    refine .on (e - 1) (by omega) ⟨i + 1, d, m', l'.take (sp l'.length), _, rfl, by omega, by rw [len_take l' h2]; exact hd2, by rw [List.length_take]; omega, ?_⟩
    simpa using ho
   ·rw [stp_right h1 b, hdr, List.map_cons, List.cons.injEq] at hd
    obtain ⟨hd1, hd2⟩ := hd
    rw [pth_right h1 b] at ho
    rw [hd1]
    dsimp only
    have ek : WK .i64 (llen l' - ((l'.length - sp l'.length : Nat) : Int)) = ((sp l'.length : Nat) : Int) := by rw [wk_i64 (by unfold llen; omega) (by unfold llen; omega)]; unfold llen; omega
    rw [condO_true, ek, ltake_nat, ldrop_nat]
    rw [guardO_pos ⟨by omega, by omega, by unfold llen; omega, by omega⟩, root40 _ (by rw [List.length_take]; omega), Option.bind_some, guardO_pos (ap _), guardO_pos ⟨by omega, by unfold llen; omega, by omega, by omega⟩, ei]
    refine .on (e - 1) (by omega) ⟨i + 1, d, m' - sp l'.length, l'.drop (sp l'.length), _, rfl, by omega, by rw [List.length_drop]; exact hd2, by rw [List.length_drop]; omega, ?_⟩
    simpa using ho
  ·rw [ilt_f (show llen S ≤ (i : Int) by unfold llen; omega), condO_false]
   refine .out ?_
   have hd0 : stp w d m' l'.length = [] := by
    rw [List.drop_eq_nil_of_le (by omega)] at hd
    simpa using hd.symm
   have hp0 : pth w d m' l' = [] := List.eq_nil_of_length_eq_zero (by rw [pth_len, hd0]; rfl)
   rw [hp0] at ho
   simpa using ho
 ·intro e he
  rw [he]
  refine bind_of (reverse_ok _ (by simp; omega)) ?_
  simp
theorem path_ok {m : Nat} {l : List Vh} (hm : m < l.length) (hl : l.length ≤ 512) : path_Path 1000 ((m : Int), l, vgl_sha_keys) = some (true, pth false 40 m l) := by
 unfold path_Path
 dsimp only
 rw [ilt_f (by omega), condO_false, ige_f (show (m : Int) < llen l by unfold llen; omega), condO_false]
 refine bind_of (down_ok (w := false) (show plc false m l.length by simpa [plc] using hm) (by omega)) (bind_of (beside_ok false m l hl) rfl)
theorem ppath_bad {a : Int} {l : List Vh} (h : a < 0 ∨ (l.length : Int) ≤ a) : path_Path 1000 (a, l, vgl_sha_keys) = some (false, []) := by
 unfold path_Path
 dsimp only
 by_cases h0 : a < 0
 ·rw [ilt_t h0, condO_true]
 ·rw [ilt_f (by omega), condO_false, ige_t (show llen l ≤ a by unfold llen; omega), condO_true]
theorem rsplit {l : List Vh} (h : 2 ≤ l.length) (hl : l.length ≤ 512) : ref09_Split 1000 (llen l) = some ((sp l.length : Nat) : Int) := by
 have := split_ok (n := l.length) (by omega)
 rw [if_neg (by omega)] at this
 exact this
def part : Nat → Nat → List Vh → List Vh
 | 0, _, l => l
 | d + 1, m, l => if l.length < 2 ∨ m = l.length then l else if m ≤ sp l.length then part d m (l.take (sp l.length)) else part d (m - sp l.length) (l.drop (sp l.length))
theorem part_nil {m : Nat} {l : List Vh} (h : l.length < 2 ∨ m = l.length) (d : Nat) : part d m l = l := by
 cases d with
 | zero => rfl
 | succ d => rw [part, if_pos h]
theorem part_left {d m : Nat} {l : List Vh} (a : ¬ (l.length < 2 ∨ m = l.length)) (b : m ≤ sp l.length) : part (d + 1) m l = part d m (l.take (sp l.length)) := by
 rw [part, if_neg a, if_pos b]
theorem part_right {d m : Nat} {l : List Vh} (a : ¬ (l.length < 2 ∨ m = l.length)) (b : ¬ m ≤ sp l.length) : part (d + 1) m l = part d (m - sp l.length) (l.drop (sp l.length)) := by
 rw [part, if_neg a, if_neg b]
theorem part_len : ∀ (d m : Nat) (l : List Vh), (part d m l).length ≤ l.length
 | 0, _, _ => Nat.le_refl _
 | d + 1, m, l => by
   rw [part]
   split
   ·exact Nat.le_refl _
   ·split
    ·exact Nat.le_trans (part_len d _ _) (by rw [List.length_take]; omega)
    ·exact Nat.le_trans (part_len d _ _) (by rw [List.length_drop]; omega)
theorem part_end {d m : Nat} {l : List Vh} (h : stp true d m l.length = []) : part d m l = l := by
 cases d with
 | zero => rfl
 | succ d =>
   by_cases a : l.length < 2 ∨ m = l.length
   ·rw [part_nil a]
   ·exfalso
    have a2 : ¬ (l.length < 2 ∨ (true = true ∧ m = l.length)) := by simpa using a
    by_cases b : m < sp l.length ∨ (true = true ∧ m = sp l.length)
    ·rw [stp_left a2 b] at h; cases h
    ·rw [stp_right a2 b] at h; cases h
def lks (m : Nat) (l : List Vh) : List Vh := (if (stp true 40 m l.length).any (·.1) = true then [rt 40 (part 40 m l)] else []) ++ pth true 40 m l
def lksW (d m : Nat) (w : Bool) (l : List Vh) : List Vh := (if w = true ∧ (stp true d m l.length).any (·.1) = false then [] else [rt 40 (part d m l)]) ++ pth true d m l
theorem lksW_true (m : Nat) (l : List Vh) : lksW 40 m true l = lks m l := by
 unfold lksW lks
 cases (stp true 40 m l.length).any (·.1) <;> simp
theorem lksW_len (d m : Nat) (w : Bool) (l : List Vh) : (lksW d m w l).length ≤ 1 + d := by
 unfold lksW
 have := pth_len true d m l
 have := stp_len true d m l.length
 rw [List.length_append]
 split <;> simp <;> omega
theorem insert_ok (x : Vh) (l : List Vh) (h1 : 1 ≤ l.length) (h : l.length ≤ 900) : slices_Insert 1000 (0, l, [x]) = some (x :: l) :=
 guardO_pos (p := (0 : Int) = 0 ∧ 1 ≤ l.length ∧ (l.length + 1) * 32 ≤ 140737488355328) ⟨rfl, h1, by omega⟩
theorem plinks_ok {m : Nat} {l : List Vh} (h0 : 1 ≤ m) (hm : m ≤ l.length) (hl : l.length ≤ 512) : path_Links 1000 ((m : Int), l, vgl_sha_keys) = some (true, lks m l) := by
 have hsl := stp_len true 40 m l.length
 obtain ⟨S, hS⟩ : ∃ S, S = (stp true 40 m l.length).map cst3 := ⟨_, rfl⟩
 have hSl : S.length ≤ 40 := by rw [hS, List.length_map]; exact hsl
 obtain ⟨r, hr, hr2⟩ := index_ok S (by omega)
 have ha : S.any (·.1) = (stp true 40 m l.length).any (·.1) := by rw [hS, List.any_map]; rfl
 rw [ha] at hr2
 unfold path_Links
 dsimp only
 rw [ilt_f (by omega), condO_false, igt_f (show (m : Int) ≤ llen l by unfold llen; omega), condO_false]
 refine bind_of (down_ok (w := true) (show plc true m l.length by simp [plc]; omega) (by omega)) ?_
 refine bind_of (beside_ok true m l hl) ?_
 rw [← hS]
 refine bind_of hr ?_
 rw [hr2]
 unfold lks
 have hpl := pth_len true 40 m l
 cases hb : (stp true 40 m l.length).any (·.1)
 ·rw [Bool.not_false, condO_true]; simp
 ·rw [Bool.not_true, condO_false, if_pos rfl]
  have hne : 1 ≤ (pth true 40 m l).length := by
   rw [hpl]
   rcases hx : stp true 40 m l.length with _ | ⟨y, ys⟩
   ·rw [hx] at hb; cases hb
   ·simp
  obtain ⟨R, hR⟩ : ∃ R, R = pth true 40 m l := ⟨_, rfl⟩
  rw [← hR] at hne hpl ⊢
  refine loop_bind (fun e h => ∃ (i d m' a n : Nat), h = ((a : Int), (n : Int), (i : Int)) ∧ i + e = S.length ∧ a + n ≤ l.length ∧ S.drop i = (stp true d m' n).map cst3 ∧ part d m' ((l.drop a).take n) = part 40 m l) (fun e => ∃ a n : Nat, e = ((a : Int), (n : Int)) ∧ a + n ≤ l.length ∧ (l.drop a).take n = part 40 m l) S.length (by omega) ⟨0, 40, m, 0, l.length, rfl, by omega, by omega, by simp [hS], by simp⟩ ?_ ?_
  ·clear hR hpl hr hr2 ha hS
   rintro e _ ⟨i, d, m', a, n, rfl, hi, han, hd, hp⟩
   dsimp only
   have hln : ((l.drop a).take n).length = n := by rw [List.length_take, List.length_drop]; omega
   by_cases c : i < S.length
   ·have hne : stp true d m' n ≠ [] := by
     intro h
     rw [h, List.map_nil] at hd
     have := congrArg List.length hd
     rw [List.length_drop] at this
     simp at this; omega
    have h1 : ¬ (n < 2 ∨ (true = true ∧ m' = n)) := fun h => hne (stp_nil h d)
    have h1' : ¬ (((l.drop a).take n).length < 2 ∨ m' = ((l.drop a).take n).length) := by rw [hln]; simpa using h1
    obtain ⟨d, rfl⟩ : ∃ d', d = d' + 1 := by
     cases d with
     | zero => exact absurd rfl hne
     | succ d => exact ⟨d, rfl⟩
    have h2 : 2 ≤ n := by omega
    obtain ⟨s1, s2, s3⟩ := sp_spec h2
    have hdr : S.drop i = S[i] :: S.drop (i + 1) := List.drop_eq_getElem_cons c
    have hat : at_ T8 S (i : Int) = S[i] := at_nat (t := T8) c
    have ei : WK .i64 ((i : Int) + 1) = ((i + 1 : Nat) : Int) := wk_i64 (by omega) (by omega)
    rw [ilt_t (show (i : Int) < llen S by unfold llen; omega), condO_true, guardO_pos ⟨by omega, by unfold llen; omega⟩, hat, ei]
    by_cases b : m' < sp n ∨ (true = true ∧ m' = sp n)
    ·have b' : m' ≤ sp ((l.drop a).take n).length := by rw [hln]; simp at b; omega
     rw [stp_left h1 b, hdr, List.map_cons, List.cons.injEq] at hd
     obtain ⟨hd1, hd2⟩ := hd
     rw [part_left h1' b', hln, List.take_take, Nat.min_eq_left (by omega)] at hp
     rw [hd1]
     dsimp only
     rw [condO_false]
     exact .on (e - 1) (by omega) ⟨i + 1, d, m', a, sp n, rfl, by omega, by omega, hd2, hp⟩
    ·have b' : ¬ m' ≤ sp ((l.drop a).take n).length := by rw [hln]; simp at b; omega
     rw [stp_right h1 b, hdr, List.map_cons, List.cons.injEq] at hd
     obtain ⟨hd1, hd2⟩ := hd
     rw [part_right h1' b', hln, List.drop_take, List.drop_drop] at hp
     rw [hd1]
     dsimp only
     rw [condO_true]
     have ek : WK .i64 ((a : Int) + WK .i64 ((n : Int) - ((n - sp n : Nat) : Int))) = ((a + sp n : Nat) : Int) := by
      rw [wk_i64 (x := (n : Int) - ((n - sp n : Nat) : Int)) (by omega) (by omega), wk_i64 (by omega) (by omega)]; omega
     rw [ek]
     exact .on (e - 1) (by omega) ⟨i + 1, d, m' - sp n, a + sp n, n - sp n, rfl, by omega, by omega, hd2, hp⟩
   ·rw [ilt_f (show llen S ≤ (i : Int) by unfold llen; omega), condO_false]
    refine .out ⟨a, n, rfl, han, ?_⟩
    have hd0 : stp true d m' n = [] := by
     rw [List.drop_eq_nil_of_le (by omega)] at hd
     simpa using hd.symm
    rw [part_end (by rw [hln]; exact hd0)] at hp
    exact hp
  ·rintro _ ⟨a, n, rfl, han, hp⟩
   dsimp only
   have e1 : WK .i64 ((a : Int) + (n : Int)) = ((a + n : Nat) : Int) := by rw [wk_i64 (by omega) (by omega)]; omega
   rw [e1, guardO_pos ⟨by omega, by omega, by unfold llen; omega, by omega⟩, ltake_nat, ldrop_nat]
   have e2 : (l.take (a + n)).drop a = (l.drop a).take n := by rw [List.drop_take]; congr 1; omega
   rw [e2, hp]
   have hpl2 := part_len 40 m l
   refine bind_of (root40 _ (by omega)) (bind_of (insert_ok _ _ hne (by omega)) rfl)
theorem plinks_bad {a : Int} {l : List Vh} (h : a < 1 ∨ (l.length : Int) < a) : path_Links 1000 (a, l, vgl_sha_keys) = some (false, []) ∧ ref10_Links 1000 (a, l) = some (false, []) := by
 constructor
 ·unfold path_Links
  dsimp only
  by_cases h0 : a < 1
  ·rw [ilt_t h0, condO_true]
  ·rw [ilt_f (by omega), condO_false, igt_t (show llen l < a by unfold llen; omega), condO_true]
 ·unfold ref10_Links
  dsimp only
  by_cases h0 : a < 1
  ·rw [ilt_t h0, condO_true]
  ·rw [ilt_f (by omega), condO_false, igt_t (show llen l < a by unfold llen; omega), condO_true]
theorem rt_first {m : Nat} {l : List Vh} (h2 : 2 ≤ l.length) (hb : l.length ≤ 512) (h1 : sp l.length < m) (hm : m ≤ l.length) : rt 40 (l.take m) = node (rt 40 (l.take (sp l.length))) (rt 40 ((l.drop (sp l.length)).take (m - sp l.length))) := by
 obtain ⟨a1, a2, a3⟩ := sp_spec h2
 have hlm : (l.take m).length = m := by rw [List.length_take]; omega
 have hs : sp (l.take m).length = sp l.length := by
  rw [hlm]
  unfold sp at a2 h1 ⊢
  exact sp_unique h1 (by rw [Nat.pow_succ]; omega)
 rw [rt40_big (by omega) (by omega), hs, List.take_take, Nat.min_eq_left (by omega), List.drop_take]
theorem both_rec : ∀ (d r m : Nat) (w : Bool) (z : Vh) (l R : List Vh), l.length ≤ 2 ^ d → 1 ≤ m → m ≤ l.length → l.length ≤ 512 → d < r → r ≤ 1000 → (w = true → z = rt 40 (l.take m)) → R.length + d ≤ 900 →
 recN ref12_both_B r 1000 (z, (m : Int), (l.length : Int), w, lksW d m w l ++ R) = some (rt 40 (l.take m), rt 40 l, ((lksW d m w l).length : Int))
 | d, 0, m, w, z, l, R, _, _, _, _, h, _, _, _ => by omega
 | d, r + 1, m, w, z, l, R, h, h0, hm, hb, hr, hr2, ha, hR => by
   have hll := lksW_len d m w l
   have hd : d ≤ 999 := by omega
   show ref12_both_B (recN ref12_both_B r) 1000 (z, (m : Int), (l.length : Int), w, lksW d m w l ++ R) = _
   unfold ref12_both_B
   dsimp only
   by_cases h1 : m = l.length
   ·refine (congrArg (condO · _ _) (ieq_t (by omega))).trans ((condO_true _ _).trans ?_)
    have e0 : l.take m = l := List.take_of_length_le (by omega)
    rw [e0] at ha ⊢
    unfold lksW
    rw [stp_nil (.inr ⟨rfl, h1⟩), pth_nil (.inr ⟨rfl, h1⟩), part_nil (.inr h1)]
    cases w
    ·have e1 : at_ T1 (rt 40 l :: R) ((0 : Nat) : Int) = rt 40 l := at_nat (t := T1) (l := rt 40 l :: R) (n := 0) (by simp)
     rw [condO_false]
     simp only [Bool.false_eq_true, false_and, if_false, List.append_nil, List.cons_append, List.nil_append]
     have e2 : inR 0 (llen (rt 40 l :: R)) := ⟨by omega, by unfold llen; simp⟩
     rw [guardO_pos e2, guardO_pos e2]
     have e3 : at_ T1 (rt 40 l :: R) 0 = rt 40 l := e1
     rw [e3]
     rfl
    ·rw [condO_true, ha rfl]; simp
   ·refine (congrArg (condO · _ _) (ieq_f (by omega))).trans ((condO_false _ _).trans ?_)
    have h2 : 2 ≤ l.length := by omega
    obtain ⟨d, rfl⟩ := pow_le_two h2 h
    obtain ⟨a1, a2, a3⟩ := sp_spec h2
    have a4 := sp_le h2 h
    have hs : ref09_Split 1000 (l.length : Int) = some ((sp l.length : Nat) : Int) := rsplit h2 hb
    have a : ¬ (l.length < 2 ∨ (true = true ∧ m = l.length)) := by simp; omega
    have a' : ¬ (l.length < 2 ∨ m = l.length) := by omega
    refine bind_of hs ?_
    by_cases b : m ≤ sp l.length
    ·have b2 : m < sp l.length ∨ (true = true ∧ m = sp l.length) := by simp; omega
     have hlk : lksW (d + 1) m w l = lksW d m w (l.take (sp l.length)) ++ [rt 40 (l.drop (sp l.length))] := by
      unfold lksW
      rw [pth_left a b2, part_left a' b, stp_left a b2, len_take l h2, List.any_cons, Bool.false_or, List.append_assoc]
     obtain ⟨K, hK⟩ : ∃ K, K = lksW d m w (l.take (sp l.length)) := ⟨_, rfl⟩
     have hKl : K.length ≤ 1 + d := by rw [hK]; exact lksW_len ..
     refine (congrArg (condO · _ _) (ile_t (by omega))).trans ((condO_true _ _).trans ?_)
     have ih := both_rec d r m w z (l.take (sp l.length)) ([rt 40 (l.drop (sp l.length))] ++ R) (by rw [List.length_take]; omega) h0 (by rw [List.length_take]; omega) (by rw [List.length_take]; omega) (by omega) (by omega)
      (fun hw => by rw [ha hw, List.take_take, Nat.min_eq_left b]) (by simp; omega)
     rw [len_take l h2, ← hK, List.take_take, Nat.min_eq_left b] at ih
     rw [hlk, ← hK, List.append_assoc]
     refine bind_of ih ?_
     dsimp only
     obtain ⟨Q, hQ⟩ : ∃ Q, Q = K ++ ([rt 40 (l.drop (sp l.length))] ++ R) := ⟨_, rfl⟩
     have hQl : Q.length = K.length + 1 + R.length := by rw [hQ]; simp; omega
     have e1 : at_ T1 Q (K.length : Int) = rt 40 (l.drop (sp l.length)) := by
      rw [at_nat (t := T1) (by omega)]
      simp [hQ]
     rw [← hQ, e1, guardO_pos ⟨by omega, by unfold llen; omega⟩, guardO_pos (node_cat1 _), guardO_pos (node_cat2 _ _), node_ref, Option.bind_some, rt40_big h2 hb, wk_i64 (by omega) (by omega)]
     simp
    ·have b2 : ¬ (m < sp l.length ∨ (true = true ∧ m = sp l.length)) := by simp; omega
     have hlk : lksW (d + 1) m w l = lksW d (m - sp l.length) false (l.drop (sp l.length)) ++ [rt 40 (l.take (sp l.length))] := by
      unfold lksW
      rw [pth_right a b2, part_right a' b, stp_right a b2]
      simp
     obtain ⟨K, hK⟩ : ∃ K, K = lksW d (m - sp l.length) false (l.drop (sp l.length)) := ⟨_, rfl⟩
     have hKl : K.length ≤ 1 + d := by rw [hK]; exact lksW_len ..
     refine (congrArg (condO · _ _) (ile_f (by omega))).trans ((condO_false _ _).trans ?_)
     have e1 : WK .i64 ((m : Int) - ((sp l.length : Nat) : Int)) = ((m - sp l.length : Nat) : Int) := by rw [wk_i64 (by omega) (by omega)]; omega
     have e2 : WK .i64 ((l.length : Int) - ((sp l.length : Nat) : Int)) = ((l.length - sp l.length : Nat) : Int) := by rw [wk_i64 (by omega) (by omega)]; omega
     have ih := both_rec d r (m - sp l.length) false z (l.drop (sp l.length)) ([rt 40 (l.take (sp l.length))] ++ R) (by rw [List.length_drop]; omega) (by omega) (by rw [List.length_drop]; omega) (by rw [List.length_drop]; omega) (by omega) (by omega)
      (fun hw => by cases hw) (by simp; omega)
     rw [List.length_drop, ← hK] at ih
     rw [hlk, ← hK, List.append_assoc, e1, e2]
     refine bind_of ih ?_
     dsimp only
     obtain ⟨Q, hQ⟩ : ∃ Q, Q = K ++ ([rt 40 (l.take (sp l.length))] ++ R) := ⟨_, rfl⟩
     have hQl : Q.length = K.length + 1 + R.length := by rw [hQ]; simp; omega
     have e3 : at_ T1 Q (K.length : Int) = rt 40 (l.take (sp l.length)) := by
      rw [at_nat (t := T1) (by omega)]
      simp [hQ]
     rw [← hQ, e3, guardO_pos ⟨by omega, by unfold llen; omega⟩, guardO_pos (node_cat1 _), guardO_pos (node_cat2 _ _), node_ref, Option.bind_some, guardO_pos (node_cat1 _), guardO_pos (node_cat2 _ _), node_ref, Option.bind_some, rt_first h2 hb (by omega) hm, rt40_big h2 hb, wk_i64 (by omega) (by omega)]
     simp
theorem goes_ok {m : Nat} {l : List Vh} (h0 : 1 ≤ m) (hm : m ≤ l.length) (hl : l.length ≤ 512) : ref12_Goes 1000 (rt 40 (l.take m), (m : Int), rt 40 l, (l.length : Int), lks m l) = some true := by
 have hb := both_rec 40 1000 m true (rt 40 (l.take m)) l [] (by omega) h0 hm hl (by omega) (by omega) (fun _ => rfl) (by simp)
 rw [lksW_true, List.append_nil] at hb
 have hn : ((lks m l).length : Int) = lnk m l.length := by
  unfold lks lnk
  have := pth_len true 40 m l
  rw [List.length_append]
  split <;> simp <;> omega
 unfold ref12_Goes
 refine bind_of (a := (rt 40 (l.take m), rt 40 l, true)) ?_ ?_
 ·unfold ref12_Both
  dsimp only
  refine bind_of (rlinks_ok h0 hm (by omega)) ?_
  rw [ine_f (show lnk m l.length = llen (lks m l) by rw [← hn]), condO_false]
  exact bind_of hb rfl
 ·dsimp only
  rw [condO_true, sameI_self, condO_true, sameI_self]
theorem hpath_ok {m q : Nat} {w s : Int} {lv pk : List Vh} {rows : List Rec} {n : Int} (a b : Int) (c : Vh) (d : Int) (e : Vh) (hm : m < q) (h : q ≤ lv.length) (hl : lv.length ≤ 512) : shard_Shard_Path 1000 ((m : Int), (q : Int), w, s, a, b, c, d, e, vgl_sha_keys, lv, rows, n, pk) = some (0, pth false 40 m (lv.take q)) := by
 unfold shard_Shard_Path
 dsimp only
 rw [ilt_f (by omega), condO_false, igt_f (show (q : Int) ≤ llen lv by unfold llen; omega), condO_false, guardO_pos ⟨by omega, by omega, by unfold llen; omega, by omega⟩, ltake_nat]
 refine bind_of (path_ok (by rw [List.length_take]; omega) (by rw [List.length_take]; omega)) ?_
 dsimp only
 rw [Bool.not_true, condO_false]
theorem hpath_no {m q : Nat} {w s : Int} {lv pk : List Vh} {rows : List Rec} {n : Int} (a b : Int) (c : Vh) (d : Int) (e : Vh) (hm : q ≤ m) (h1 : 1 ≤ q) (h : q ≤ lv.length) : shard_Shard_Path 1000 ((m : Int), (q : Int), w, s, a, b, c, d, e, vgl_sha_keys, lv, rows, n, pk) = some (19, []) := by
 unfold shard_Shard_Path
 dsimp only
 rw [ilt_f (by omega), condO_false, igt_f (show (q : Int) ≤ llen lv by unfold llen; omega), condO_false, guardO_pos ⟨by omega, by omega, by unfold llen; omega, by omega⟩, ltake_nat]
 refine bind_of (ppath_bad (.inr (by rw [List.length_take]; omega))) ?_
 dsimp only
 rw [Bool.not_false, condO_true]
theorem hpath_out {m q : Int} {w s : Int} {lv pk : List Vh} {rows : List Rec} {n : Int} (a b : Int) (c : Vh) (d : Int) (e : Vh) (h : q < 1 ∨ (lv.length : Int) < q) : shard_Shard_Path 1000 (m, q, w, s, a, b, c, d, e, vgl_sha_keys, lv, rows, n, pk) = some (19, []) := by
 unfold shard_Shard_Path
 dsimp only
 by_cases h1 : q < 1
 ·rw [ilt_t h1, condO_true]
 ·rw [ilt_f (by omega), condO_false, igt_t (show llen lv < q by unfold llen; omega), condO_true]
theorem first_yes {b : Nat} (all : List Fz) (lv : List Vh) (n : Int) (pk : List Vh) (h1 : 1 ≤ b) (h : b ≤ lv.length) : super_Super_first 1000 ((b : Int), all, lv, n, pk) = some (0, lv.take b) := by
 unfold super_Super_first
 dsimp only
 rw [ilt_f (by omega), condO_false, igt_f (show (b : Int) ≤ llen lv by unfold llen; omega), condO_false, guardO_pos ⟨by omega, by omega, by unfold llen; omega, by omega⟩, ltake_nat]
theorem first_no {b : Int} (all : List Fz) (lv : List Vh) (n : Int) (pk : List Vh) (h : b < 1 ∨ (lv.length : Int) < b) : super_Super_first 1000 (b, all, lv, n, pk) = some (19, []) := by
 unfold super_Super_first
 dsimp only
 by_cases h1 : b < 1
 ·rw [ilt_t h1, condO_true]
 ·rw [ilt_f (by omega), condO_false, igt_t (show llen lv < b by unfold llen; omega), condO_true]
theorem slinks_ok {a b : Nat} (all : List Fz) (lv : List Vh) (n : Int) (pk : List Vh) (h1 : 1 ≤ a) (hab : a ≤ b) (h : b ≤ lv.length) (hl : lv.length ≤ 512) : super_Super_Links 1000 ((a : Int), (b : Int), vgl_sha_keys, all, lv, n, pk) = some (0, lks a (lv.take b)) := by
 unfold super_Super_Links
 dsimp only
 refine bind_of (first_yes all lv n pk (by omega) h) ?_
 dsimp only
 rw [ine_f (rfl : (0 : Int) = 0), condO_false]
 refine bind_of (plinks_ok h1 (by rw [List.length_take]; omega) (by rw [List.length_take]; omega)) ?_
 dsimp only
 rw [Bool.not_true, condO_false]
theorem spath_ok {m b : Nat} (all : List Fz) (lv : List Vh) (n : Int) (pk : List Vh) (hmb : m < b) (h : b ≤ lv.length) (hl : lv.length ≤ 512) : super_Super_Path 1000 ((m : Int), (b : Int), vgl_sha_keys, all, lv, n, pk) = some (0, pth false 40 m (lv.take b)) := by
 unfold super_Super_Path
 dsimp only
 refine bind_of (first_yes all lv n pk (by omega) h) ?_
 dsimp only
 rw [ine_f (rfl : (0 : Int) = 0), condO_false]
 refine bind_of (path_ok (by rw [List.length_take]; omega) (by rw [List.length_take]; omega)) ?_
 dsimp only
 rw [Bool.not_true, condO_false]
def okT (a : Int) : Bool := decide (0 ≤ a) && decide (a ≤ 1125899906842624)
theorem okT_t {a : Int} (h : 0 ≤ a) (h2 : a ≤ 1125899906842624) : okT a = true := by simp [okT, h, h2]
theorem okT_iff {a : Int} : okT a = true ↔ 0 ≤ a ∧ a ≤ 1125899906842624 := by simp [okT]
theorem may_step (l : List Int) : window_may 1000 l = some (l.all okT) ∨ 900 ≤ l.length := by
 by_cases hl : l.length < 900
 ·left
  unfold window_may
  refine loop_bind (fun dd h => ∃ i : Nat, h = (i : Int) ∧ i + dd = l.length ∧ (l.take i).all okT = true) (fun e => (∃ h : l.all okT = false, e = .inl false) ∨ (l.all okT = true ∧ e = .inr ())) l.length (by omega) ⟨0, rfl, by omega, by simp⟩ ?_ ?_
  ·rintro dd _ ⟨i, rfl, hi, ha⟩
   by_cases h1 : i < l.length
   ·have ea : at_ (.int .i64) l (i : Int) = l[i] := at_nat (t := .int .i64) h1
    rw [ilt_t (show (i : Int) < llen l by unfold llen; omega), condO_true, guardO_pos ⟨by omega, by unfold llen; omega⟩, ea]
    have hmem : l[i] ∈ l := List.getElem_mem h1
    have no : okT l[i] = false → l.all okT = false := fun h => by
     cases hc : l.all okT with
     | false => rfl
     | true => rw [List.all_eq_true.1 hc _ hmem] at h; cases h
    by_cases h2 : l[i] < 0
    ·rw [ilt_t h2, condO_true]
     exact .out (.inl ⟨no (by simp [okT]; omega), rfl⟩)
    ·rw [ilt_f (by omega), condO_false]
     by_cases h3 : 1125899906842624 < l[i]
     ·rw [igt_t h3, condO_true]
      exact .out (.inl ⟨no (by simp [okT]; omega), rfl⟩)
     ·rw [igt_f (by omega), condO_false, wk_i64 (by omega) (by omega)]
      refine .on (dd - 1) (by omega) ⟨i + 1, by omega, by omega, ?_⟩
      rw [List.take_add_one, List.getElem?_eq_getElem h1, List.all_append, ha]
      simp [okT]; omega
   ·rw [ilt_f (show llen l ≤ (i : Int) by unfold llen; omega), condO_false]
    refine .out (.inr ⟨?_, rfl⟩)
    rwa [List.take_of_length_le (by omega)] at ha
  ·rintro e (⟨h, rfl⟩ | ⟨h, rfl⟩)
   ·rw [h]; rfl
   ·rw [h]; rfl
 ·right; omega
theorem may1 (a : Int) : window_may 1000 [a] = some (okT a) := by
 rcases may_step [a] with h | h
 ·rw [h]; simp
 ·simp at h
theorem may2 (a b : Int) : window_may 1000 [a, b] = some (okT a && okT b) := by
 rcases may_step [a, b] with h | h
 ·rw [h]; simp
 ·simp at h
def endW (w W : Int) : Int × Bool := if (w + 1) * W ≤ 1125899906842624 then ((w + 1) * W, true) else (0, false)
theorem le_div {a W : Int} (hW : 1 ≤ W) : a ≤ 1125899906842624 / W ↔ a * W ≤ 1125899906842624 := Int.le_ediv_iff_mul_le (by omega)
theorem tdiv_pos {a W : Int} (h : 0 ≤ a) : Int.tdiv a W = a / W := Int.tdiv_eq_ediv_of_nonneg h
theorem mul_small {a W : Int} (h0 : 0 ≤ a) (hW : 1 ≤ W) (h : a * W ≤ 1125899906842624) : WK .i64 (a * W) = a * W := by
 have : 0 ≤ a * W := Int.mul_nonneg h0 (by omega)
 exact wk_i64 (by omega) (by omega)
theorem div_small {W : Int} (hW : 1 ≤ W) : WK .i64 (Int.tdiv 1125899906842624 W) = 1125899906842624 / W := by
 rw [tdiv_pos (by omega)]
 have h1 : 0 ≤ 1125899906842624 / W := Int.ediv_nonneg (by omega) (by omega)
 have h2 : 1125899906842624 / W ≤ 1125899906842624 := Int.ediv_le_self _ (by omega)
 exact wk_i64 (by omega) (by omega)
theorem end_ok {w W : Int} (h0 : 0 ≤ w) (h1 : w ≤ 1125899906842624) (hW : 1 ≤ W) (hW2 : W ≤ 1125899906842624) : window_End 1000 (w, W) = some (endW w W) := by
 unfold window_End
 dsimp only
 rw [may1, okT_t h0 h1, Option.bind_some, Bool.not_true, condO_false, wk_i64 (by omega) (by omega)]
 unfold window_times
 dsimp only
 rw [may1, okT_t (by omega) hW2, Option.bind_some, condO_true, igt_t (show 0 < W by omega), condO_true, guardO_pos (show nz W by show W ≠ 0; omega), div_small hW]
 unfold endW
 by_cases h : (w + 1) * W ≤ 1125899906842624
 ·rw [ile_t ((le_div hW).2 h), Bool.not_true, condO_false, if_pos h, mul_small (by omega) hW h]; rfl
 ·rw [ile_f (by have := mt (le_div hW).1 h; omega), Bool.not_false, condO_true, if_neg h]; rfl
def closedW (w W t : Int) : Bool := (endW w W).2 && decide ((endW w W).1 ≤ t)
theorem closed_ok {w W t : Int} (h0 : 0 ≤ w) (h1 : w ≤ 1125899906842624) (hW : 1 ≤ W) (hW2 : W ≤ 1125899906842624) (ht : 0 ≤ t) (ht2 : t ≤ 1125899906842624) : window_Closed 1000 (w, W, t) = some (closedW w W t) := by
 unfold window_Closed
 dsimp only
 rw [end_ok h0 h1 hW hW2, Option.bind_some, may1, okT_t ht ht2]
 unfold closedW
 cases (endW w W).2 <;> rfl
def dueW (w W T : Int) : Int × Bool := if (endW w W).2 = true ∧ (endW w W).1 + T ≤ 1125899906842624 then ((endW w W).1 + T, true) else (0, false)
theorem endW_nn {w W : Int} (h0 : 0 ≤ w) (hW : 1 ≤ W) : 0 ≤ (endW w W).1 ∧ (endW w W).1 ≤ 1125899906842624 := by
 unfold endW
 split
 ·exact ⟨Int.mul_nonneg (by omega) (by omega), by assumption⟩
 ·exact ⟨Int.le_refl _, by decide⟩
theorem due_ok {w W T : Int} (h0 : 0 ≤ w) (h1 : w ≤ 1125899906842624) (hW : 1 ≤ W) (hW2 : W ≤ 1125899906842624) (hT : 0 ≤ T) (hT2 : T ≤ 1125899906842624) : window_Due 1000 (w, W, T) = some (dueW w W T) := by
 unfold window_Due
 dsimp only
 obtain ⟨n1, n2⟩ := endW_nn h0 hW
 rw [end_ok h0 h1 hW hW2, Option.bind_some, may1, okT_t hT hT2]
 unfold dueW
 cases (endW w W).2 with
 | false => rfl
 | true =>
   simp only [Option.bind_some, Bool.not_true, condO_false, true_and]
   rw [wk_i64 (by omega) (by omega), may1]
   by_cases h : (endW w W).1 + T ≤ 1125899906842624
   ·rw [okT_t (by omega) h, if_pos h]; rfl
   ·rw [show okT ((endW w W).1 + T) = false by simp [okT]; omega, if_neg h]; rfl
def expW (w W T t : Int) : Bool := (dueW w W T).2 && decide ((dueW w W T).1 ≤ t)
theorem expired_ok {w W T t : Int} (h0 : 0 ≤ w) (h1 : w ≤ 1125899906842624) (hW : 1 ≤ W) (hW2 : W ≤ 1125899906842624) (hT : 0 ≤ T) (hT2 : T ≤ 1125899906842624) (ht : 0 ≤ t) (ht2 : t ≤ 1125899906842624) : window_Expired 1000 (w, W, T, t) = some (expW w W T t) := by
 unfold window_Expired
 dsimp only
 rw [due_ok h0 h1 hW hW2 hT hT2, Option.bind_some, may1, okT_t ht ht2]
 unfold expW
 cases (dueW w W T).2 <;> rfl
theorem of_ok {t W : Int} (ht : 0 ≤ t) (ht2 : t ≤ 1125899906842624) (hW : 1 ≤ W) (hW2 : W ≤ 1125899906842624) : window_Of 1000 (t, W) = some (t / W) := by
 unfold window_Of
 dsimp only
 have h1 : 0 ≤ t / W := Int.ediv_nonneg (by omega) (by omega)
 have h2 : t / W ≤ t := Int.ediv_le_self _ (by omega)
 rw [may2, okT_t ht ht2, okT_t (by omega) hW2, Option.bind_some, ieq_f (by omega), guardO_pos (show nz W by show W ≠ 0; omega), tdiv_pos ht, wk_i64 (by omega) (by omega)]
 rfl
def tickW (c a : Int) : Int × Int := if okT a = true ∧ c ≤ a then (a, 0) else (c, 21)
theorem tick_ok (c a : Int) : window_Tick 1000 (c, a) = some (tickW c a) := by
 unfold window_Tick tickW
 dsimp only
 rw [may1, Option.bind_some]
 cases okT a with
 | false => rfl
 | true =>
   by_cases h : c ≤ a
   ·rw [ige_t h, if_pos ⟨rfl, h⟩]; rfl
   ·rw [ige_f (by omega), if_neg (by rintro ⟨_, h2⟩; exact h h2)]; rfl
theorem phead_ok (key : List UInt8) (hk : key.length ≤ 64) (n : Nat) (hn : n ≤ 4000) (r : Vh) {t : Int} (h0 : 0 ≤ t) (h1 : t ≤ 1125899906842624) :
 seal_Head 1000 (mkB key, (n : Int), r, t, vgl_sha_keys) = some ((n : Int), r, t, macL key (headL n r t)) := by
 unfold seal_Head
 dsimp only
 have a := put_small (x := n) (by omega)
 have b := put_small (x := t.toNat) (by omega)
 have d := put_small (x := 32) (by decide)
 have hl : (headL n r t).length ≤ 100 := by
  unfold headL
  simp only [List.length_append, vb_len, List.length_singleton]
  omega
 have hsay : seal_headSays 1000 ((n : Int), r, t, Vector.replicate 32 0) = some (mkB (headL n r t), 0) := by
  unfold seal_headSays
  dsimp only
  rw [ige_t (show (0 : Int) ≤ (n : Int) by omega), condO_true, ile_t (show (n : Int) ≤ 1099511627776 by omega), Bool.not_true, condO_false, ige_t h0, condO_true, ile_t h1, Bool.not_true, condO_false]
  refine bind_of (put_of (x := (n : Int)) (by omega) (by omega)) ?_
  rw [vb_blen]
  refine bind_of (put_of (x := 32) (by decide) (by decide)) ?_
  refine (guardO_pos (cat_mkB (a := putL 32) (b := vb r) (by rw [vb_len]; omega))).trans ?_
  refine bind_of (put_of h0 h1) ?_
  rw [vb_str, show mkB (putL (32 : Int).toNat) ++ mkB (vb r) = mkB (putL 32 ++ vb r) from mkB_app _ _]
  refine bind_of (a := mkB (headL n r t)) ?_ rfl
  show L_strings_Join 1000 _ = _
  unfold L_strings_Join
  have hj : Lib.join (([⟨#[72]⟩, mkB (putL (n : Int).toNat), mkB (putL 32 ++ vb r), mkB (putL t.toNat)] : List ByteArray).map (·.data.toList)) (str0 : ByteArray).data.toList = headL n r t := by
   simp [Lib.join, headL, mkB]
  have hb : (Lib.join (([⟨#[72]⟩, mkB (putL (n : Int).toNat), mkB (putL 32 ++ vb r), mkB (putL t.toNat)] : List ByteArray).map (·.data.toList)) (str0 : ByteArray).data.toList).length ≤ 140737488355328 := by
   rw [hj]; omega
  refine (guardO_pos ⟨by simp, by simp, hb⟩).trans ?_
  exact congrArg (fun l => some (mkB l)) hj
 refine bind_of hsay ?_
 dsimp only
 rw [ine_f rfl, condO_false]
 have hp := pdL_len hk
 refine bind_of (mpad_ok key hk) (bind_of (begun_ok 54 _ hp) (bind_of (begun_ok 92 _ hp) ?_))
 exact bind_of (msum_ok (headL n r t) _ _ (by omega) (by rw [xorL_len, hp]) (by rw [xorL_len, hp])) rfl
theorem pstone_ok {w c : Int} (h : mayF w c) (r : Vh) {t : Int} (h0 : 0 ≤ t) (h1 : t ≤ 1125899906842624) (key : List UInt8) (hk : key.length ≤ 64) :
 seal_Stone 1000 (mkB key, w, c, r, t, vgl_sha_keys) = some (w, c, r, t, macL key (stoneL w c r t)) := by
 unfold seal_Stone
 dsimp only
 have hl := stoneL_len h r h0 h1
 refine bind_of (psays_ok h r h0 h1 _) ?_
 dsimp only
 rw [ine_f rfl, condO_false]
 have hp := pdL_len hk
 refine bind_of (mpad_ok key hk) (bind_of (begun_ok 54 _ hp) (bind_of (begun_ok 92 _ hp) ?_))
 exact bind_of (msum_ok (stoneL w c r t) _ _ (by omega) (by rw [xorL_len, hp]) (by rw [xorL_len, hp])) rfl
abbrev Stn := Int × Int × Vh × Int × Vh
abbrev Hd := Int × Vh × Int × Vh
structure Sh where
 w : Int
 st : Int
 left : Nat
 sn : Stn
 recs : List Rec
def Sh.lv (s : Sh) : List Vh := s.recs.map lfR
def Sh.fz (s : Sh) : Fz := (s.w, (s.recs.length : Int), rt 40 s.lv)
structure Va where
 W : Int
 T : Int
 key : List UInt8
 t : Int
 shs : List Sh
 log : List Fz
structure Told where
 err : Int
 n : Int
 m : Int
 rc : Rec
 sn : Stn
 hd : Hd
 cf : Fz
 pl : Int
 ch : Hd
 path : List Vh
 cp : List Vh
 cs : List Vh
abbrev zR : Rec := (0, 0, 0, str0)
abbrev zS : Stn := (0, 0, z32, 0, z32)
abbrev zH : Hd := (0, z32, 0, z32)
abbrev zF : Fz := (0, 0, z32)
def fails (e : Int) : Told := ⟨e, 0, 0, zR, zS, zH, zF, 0, zH, [], [], []⟩
def Told.tup (o : Told) {β : Type} (x : β) : Int × Int × Int × Int × Int × Int × ByteArray × Int × Int × Vh × Int × Vh × Int × Vh × Int × Vh × Int × Int × Vh × Int × Int × Vh × Int × Vh × β :=
 (o.err, o.n, o.m, o.rc.1, o.rc.2.1, o.rc.2.2.1, o.rc.2.2.2, o.sn.1, o.sn.2.1, o.sn.2.2.1, o.sn.2.2.2.1, o.sn.2.2.2.2, o.hd.1, o.hd.2.1, o.hd.2.2.1, o.hd.2.2.2, o.cf.1, o.cf.2.1, o.cf.2.2, o.pl, o.ch.1, o.ch.2.1, o.ch.2.2.1, o.ch.2.2.2, x)
structure Ask where
 op : Int
 a : Int
 b : Int
 c : Int
 data : ByteArray
def fnd (l : List Sh) (w : Int) : Option Nat := l.findIdx? fun s => s.w == w
def newSh (w : Int) : Sh := ⟨w, 0, 0, zS, []⟩
def Sh.put (s : Sh) (t : Int) (d : ByteArray) : Sh := { s with left := s.recs.length + 1, recs := s.recs ++ [(s.w, (s.recs.length : Int), t, d)] }
def doAdd (v : Va) (d : ByteArray) : Told × Va :=
 match fnd v.shs (v.t / v.W) with
 | none => if 14 ≤ v.shs.length then (fails 15, v) else if 2000 < d.size then (fails 11, v)
  else ({ fails 0 with n := v.t / v.W, m := 0 }, { v with shs := v.shs ++ [(newSh (v.t / v.W)).put v.t d] })
 | some i => match v.shs[i]? with
   | some s => if s.st ≠ 0 then (fails 13, v) else if 2000 < d.size then (fails 11, v)
    else ({ fails 0 with n := v.t / v.W, m := (s.recs.length : Int) }, { v with shs := v.shs.set i (s.put v.t d) })
   | none => (fails 0, v)
def shAt (v : Va) (w : Int) : Option Sh := (fnd v.shs w).bind fun i => v.shs[i]?
def doRead (v : Va) (w b : Int) : Told :=
 match shAt v w with
 | none => fails 19
 | some s => if b < 0 ∨ (s.recs.length : Int) ≤ b then fails 19 else if s.st = 2 then { fails 20 with sn := s.sn } else { fails 0 with rc := s.recs.getD b.toNat zR }
def pathOf (l : List Vh) (i n : Int) : Int × List Vh :=
 if n < 1 ∨ (l.length : Int) < n ∨ i < 0 ∨ n ≤ i then (19, []) else (0, pth false 40 i.toNat (l.take n.toNat))
def doProve (v : Va) (w b c : Int) : Told :=
 match shAt v w with
 | none => fails 19
 | some s => { fails (pathOf s.lv b c).1 with path := (pathOf s.lv b c).2 }
def Va.lfs (v : Va) : List Vh := v.log.map lfF
def headOf (v : Va) : Hd := ((v.log.length : Int), rt 40 v.lfs, v.t, macL v.key (headL v.log.length (rt 40 v.lfs) v.t))
def doHead (v : Va) : Told := { fails 0 with hd := headOf v }
def closeLast (v : Va) : Va :=
 match v.shs.getLast? with
 | some s => if s.st = 0 ∧ closedW s.w v.W v.t = true then { v with shs := v.shs.set (v.shs.length - 1) { s with st := 1 }, log := v.log ++ [s.fz] } else v
 | none => v
def doTick (v : Va) (a : Int) : Told × Va :=
 if (tickW v.t a).2 ≠ 0 then (fails (tickW v.t a).2, v) else (fails 0, closeLast { v with t := (tickW v.t a).1 })
def old (v : Va) (s : Sh) : Bool := expW s.w v.W v.T v.t && !(decide (s.st = 2) && decide (s.left = 0))
def Sh.give (s : Sh) (key : List UInt8) (t : Int) : Sh :=
 if s.st = 1 then { s with st := 2, sn := (s.w, (s.recs.length : Int), rt 40 s.lv, t, macL key (stoneL s.w (s.recs.length : Int) (rt 40 s.lv) t)) }
 else if s.st = 2 then { s with left := s.left - min 4 s.left } else s
def doCompact (v : Va) : Told × Va :=
 match v.shs.findIdx? (old v) with
 | none => ({ fails 0 with n := -1 }, v)
 | some i => match v.shs[i]? with
   | some s => ({ fails 0 with n := s.w, m := ((s.give v.key v.t).left : Int) }, { v with shs := v.shs.set i (s.give v.key v.t) })
   | none => (fails 0, v)
def placeOf (v : Va) (w : Int) : Nat := (v.log.findIdx? fun f => f.1 == w).getD 0
def doCite (v : Va) (w b : Int) : Told :=
 match shAt v w with
 | none => fails 19
 | some s => if b < 0 ∨ (s.recs.length : Int) ≤ b then fails 19 else if s.st = 0 then fails 13
  else { fails 0 with cf := s.fz, cp := pth false 40 b.toNat s.lv, pl := (placeOf v w : Int), cs := pth false 40 (placeOf v w) v.lfs, ch := headOf v }
def linksOf (l : List Vh) (m n : Int) : Int × List Vh :=
 if n < 1 ∨ (l.length : Int) < n ∨ m < 1 ∨ n < m then (19, []) else (0, lks m.toNat (l.take n.toNat))
def doLinks (v : Va) (m n : Int) : Told := { fails (linksOf v.lfs m n).1 with path := (linksOf v.lfs m n).2 }
def vdo (v : Va) (q : Ask) : Told × Va :=
 if q.op = 1 then doAdd v q.data else if q.op = 2 then (doRead v q.a q.b, v) else if q.op = 3 then (doProve v q.a q.b q.c, v) else if q.op = 4 then (doHead v, v)
 else if q.op = 5 then doTick v q.a else if q.op = 6 then doCompact v else if q.op = 7 then (doCite v q.a q.b, v) else if q.op = 8 then (doLinks v q.a q.b, v) else (fails 1, v)
structure ShOk (v : Va) (s : Sh) : Prop where
 w0 : 0 ≤ s.w
 w1 : s.w ≤ v.t / v.W
 st : s.st = 0 ∨ s.st = 1 ∨ s.st = 2
 le : s.left ≤ s.recs.length
 full : s.st ≠ 2 → s.left = s.recs.length
 may : ∀ r ∈ s.recs, mayR r.1 r.2.1 r.2.2.1 r.2.2.2
 some1 : 1 ≤ s.recs.length
 ix : ∀ (i : Nat) r, s.recs[i]? = some r → r.1 = s.w ∧ r.2.1 = (i : Int)
 cl : s.st ≠ 0 → closedW s.w v.W v.t = true
 op : s.st = 0 → closedW s.w v.W v.t = false
 stn : s.st = 2 → expW s.w v.W v.T v.t = true ∧ ∃ t, 0 ≤ t ∧ t ≤ v.t ∧ s.sn = (s.w, (s.recs.length : Int), rt 40 s.lv, t, macL v.key (stoneL s.w (s.recs.length : Int) (rt 40 s.lv) t))
structure VI (v : Va) (n : Nat) : Prop where
 W0 : 1 ≤ v.W
 W1 : v.W ≤ 1125899906842624
 T0 : 0 ≤ v.T
 T1 : v.T ≤ 1125899906842624
 key : v.key.length ≤ 64
 t0 : 0 ≤ v.t
 t1 : v.t ≤ 1125899906842624
 few : v.shs.length ≤ 14
 asc : ∀ (i j : Nat) a b, i < j → v.shs[i]? = some a → v.shs[j]? = some b → a.w < b.w
 ok : ∀ s ∈ v.shs, ShOk v s
 last : ∀ (i : Nat) s, v.shs[i]? = some s → s.st = 0 → i + 1 = v.shs.length
 log : v.log = (v.shs.filter fun s => decide (s.st ≠ 0)).map Sh.fz
 sz : ∀ s ∈ v.shs, s.recs.length ≤ n
abbrev KT := Int × Int × Int × Int × Vh × Int × Vh × List Vh × List Rec × Int × List Vh
def Sh.kid (s : Sh) (pk : List Vh) : KT := (s.w, s.st, s.sn.1, s.sn.2.1, s.sn.2.2.1, s.sn.2.2.2.1, s.sn.2.2.2.2, s.lv, s.recs.take s.left, (s.recs.length : Int), pk)
structure Kids (ss : List Sh) (xs : List KT) : Prop where
 len : xs.length = ss.length
 g : ∀ (i : Nat) s, ss[i]? = some s → ∃ pk, xs[i]? = some (s.kid pk) ∧ Stk 0 s.recs.length pk.reverse s.lv
theorem lv_len (s : Sh) : s.lv.length = s.recs.length := by simp [Sh.lv]
theorem Kids.get {ss : List Sh} {xs : List KT} (K : Kids ss xs) {i : Nat} {s : Sh} (h : ss[i]? = some s) : ∃ pk, at_ T3 xs (i : Int) = s.kid pk ∧ Stk 0 s.recs.length pk.reverse s.lv := by
 obtain ⟨pk, h1, h2⟩ := K.g i s h
 have hi := (List.getElem?_eq_some_iff.1 h1).1
 refine ⟨pk, ?_, h2⟩
 have := at_nat (t := T3) (l := xs) (n := i) hi
 rw [this]
 rw [List.getElem?_eq_getElem hi] at h1
 exact Option.some.inj h1
theorem Kids.inr {ss : List Sh} {xs : List KT} (K : Kids ss xs) {i : Nat} {s : Sh} (h : ss[i]? = some s) : inR (i : Int) (llen xs) := by
 have := (List.getElem?_eq_some_iff.1 h).1
 exact ⟨by omega, by unfold llen; rw [K.len]; omega⟩
theorem Kids.set {ss : List Sh} {xs : List KT} (K : Kids ss xs) {i : Nat} {s : Sh} {pk : List Vh} (hk : Stk 0 s.recs.length pk.reverse s.lv) : Kids (ss.set i s) (lset xs (i : Int) (s.kid pk)) := by
 refine ⟨by simp [K.len], fun j s' hj => ?_⟩
 by_cases e : i = j
 ·subst e
  have hi : i < ss.length := by have := (List.getElem?_eq_some_iff.1 hj).1; simpa using this
  rw [List.getElem?_set, if_pos rfl, if_pos hi] at hj
  cases hj
  refine ⟨pk, ?_, hk⟩
  show (xs.set (Int.toNat (i : Int)) _)[i]? = _
  rw [Int.toNat_natCast, List.getElem?_set, if_pos rfl, if_pos (by rw [K.len]; exact hi)]
 ·rw [List.getElem?_set, if_neg e] at hj
  obtain ⟨pk', h1, h2⟩ := K.g j s' hj
  refine ⟨pk', ?_, h2⟩
  show (xs.set (Int.toNat (i : Int)) _)[j]? = _
  rw [Int.toNat_natCast, List.getElem?_set, if_neg e]
  exact h1
theorem Kids.snoc {ss : List Sh} {xs : List KT} (K : Kids ss xs) {s : Sh} {pk : List Vh} (hk : Stk 0 s.recs.length pk.reverse s.lv) : Kids (ss ++ [s]) (xs ++ [s.kid pk]) := by
 refine ⟨by simp [K.len], fun j s' hj => ?_⟩
 rcases Nat.lt_or_ge j ss.length with h | h
 ·rw [List.getElem?_append_left h] at hj
  obtain ⟨pk', h1, h2⟩ := K.g j s' hj
  exact ⟨pk', by rw [List.getElem?_append_left (by rw [K.len]; exact h)]; exact h1, h2⟩
 ·rw [List.getElem?_append_right h] at hj
  have : j = ss.length := by
   have := (List.getElem?_eq_some_iff.1 hj).1
   simp at this; omega
  subst this
  simp at hj
  subst hj
  exact ⟨pk, by rw [← K.len]; simp, hk⟩
theorem Kids.nil : Kids [] [] := ⟨rfl, fun i s h => by simp at h⟩
structure PR (v : Va) (xs : List KT) (lv : List Vh) (n : Int) (pk : List Vh) : Prop where
 kids : Kids v.shs xs
 inv : Inv v.log lv n pk
theorem fnd_some {l : List Sh} {w : Int} {i : Nat} (h : fnd l w = some i) : ∃ s, l[i]? = some s ∧ s.w = w := by
 unfold fnd at h
 obtain ⟨hi, h1, _⟩ := List.findIdx?_eq_some_iff_getElem.1 h
 exact ⟨l[i], List.getElem?_eq_getElem hi, by simpa using h1⟩
theorem fnd_none {l : List Sh} {w : Int} (h : fnd l w = none) : ∀ s ∈ l, s.w ≠ w := by
 unfold fnd at h
 intro s hs e
 have := List.findIdx?_eq_none_iff.1 h s hs
 simp [e] at this
theorem index20 {α : Type} {p : α → Bool} (l : List α) (r : Option Nat) (h : l.findIdx? p = r) : (∀ j (hj : j < l.length), (∀ i, r = some i → j < i) → p l[j] = false) ∧ (∀ i, r = some i → ∃ hi : i < l.length, p l[i] = true) := by
 subst h
 constructor
 ·intro j hj hr
  cases hc : l.findIdx? p with
  | none => simpa using List.findIdx?_eq_none_iff.1 hc _ (List.getElem_mem hj)
  | some i =>
    obtain ⟨hi, _, h3⟩ := List.findIdx?_eq_some_iff_getElem.1 hc
    have := h3 j (hr i hc)
    simpa using this
 ·intro i hi
  obtain ⟨h1, h2, _⟩ := List.findIdx?_eq_some_iff_getElem.1 hi
  exact ⟨h1, h2⟩
theorem pindex_ok {ss : List Sh} {xs : List KT} (K : Kids ss xs) (w : Int) (hb : ss.length ≤ 900) : slices_IndexFunc 1000 (xs, w) = some (match fnd ss w with | some i => (i : Int) | none => -1) := by
 obtain ⟨r, hr⟩ : ∃ r, r = fnd ss w := ⟨_, rfl⟩
 obtain ⟨q1, q2⟩ := index20 ss r hr.symm
 rw [← hr]
 unfold slices_IndexFunc
 dsimp only
 refine loop_bind (fun dd h => ∃ i : Nat, h = (i : Int) ∧ i + dd = ss.length ∧ ∀ m, r = some m → i ≤ m) (fun e => (r = none ∧ e = .inr ()) ∨ ∃ m : Nat, r = some m ∧ e = .inl (m : Int)) ss.length (by omega) ⟨0, rfl, by omega, fun m _ => Nat.zero_le _⟩ ?_ ?_
 ·rintro dd _ ⟨i, rfl, hi, ha⟩
  by_cases h1 : i < ss.length
  ·have hs : ss[i]? = some ss[i] := List.getElem?_eq_getElem h1
   obtain ⟨pk, ek, _⟩ := K.get hs
   rw [ilt_t (K.inr hs).2, condO_true, guardO_pos (K.inr hs), guardO_pos (K.inr hs), guardO_pos (K.inr hs), ek]
   unfold vault_Vault_find_1_1 Sh.kid
   dsimp only
   rw [Option.bind_some]
   by_cases hw : ss[i].w = w
   ·rw [ieq_t hw, condO_true]
    have : r = some i := by
     cases hc : r with
     | none =>
       have := q1 i h1 (fun m hm => by rw [hc] at hm; cases hm)
       simp [hw] at this
     | some m =>
       have h2 := ha m hc
       by_cases e : i = m
       ·rw [e]
       ·have := q1 i h1 (fun m' hm => by rw [hc] at hm; cases hm; omega)
        simp [hw] at this
    exact .out (.inr ⟨i, this, rfl⟩)
   ·rw [ieq_f hw, condO_false, wk_i64 (by omega) (by omega)]
    refine .on (dd - 1) (by omega) ⟨i + 1, by omega, by omega, fun m hm => ?_⟩
    have := ha m hm
    obtain ⟨h3, h4⟩ := q2 m hm
    by_cases e : i = m
    ·subst e; simp at h4; exact absurd h4 hw
    ·omega
  ·rw [ilt_f (show llen xs ≤ (i : Int) by unfold llen; rw [K.len]; omega), condO_false]
   refine .out (.inl ⟨?_, rfl⟩)
   cases hc : r with
   | none => rfl
   | some m => have := ha m hc; obtain ⟨h3, _⟩ := q2 m hc; omega
 ·rintro e (⟨h, rfl⟩ | ⟨m, h, rfl⟩)
  ·rw [h]; rfl
  ·rw [h]; rfl
theorem pfind_ok {ss : List Sh} {xs : List KT} (K : Kids ss xs) (w : Int) (hb : ss.length ≤ 900) (a b : Int) (c : ByteArray) (d : Int) (e : List Fz) (f : List Vh) (g : Int) (h : List Vh) :
 vault_Vault_find 1000 (w, a, b, c, d, xs, e, f, g, h) = some (match fnd ss w with | some i => .inr (i : Int) | none => .inl ()) := by
 unfold vault_Vault_find
 dsimp only
 rw [pindex_ok K w hb, Option.bind_some]
 cases hf : fnd ss w with
 | none => rfl
 | some i =>
   obtain ⟨s, h1, _⟩ := fnd_some hf
   have e0 : ilt ((i : Nat) : Int) 0 = false := ilt_f (Int.natCast_nonneg i)
   show condO (ilt ((i : Nat) : Int) 0) _ (guardO _ (guardO _ (some (Sum.inr ((i : Nat) : Int))))) = _
   rw [e0, condO_false, guardO_pos (K.inr h1), guardO_pos (K.inr h1)]
theorem shAt_none {v : Va} {w : Int} (h : fnd v.shs w = none) : shAt v w = none := by unfold shAt; rw [h]; rfl
theorem shAt_some {v : Va} {w : Int} {i : Nat} {s : Sh} (h : fnd v.shs w = some i) (hs : v.shs[i]? = some s) : shAt v w = some s := by unfold shAt; rw [h]; exact hs
section
variable {v : Va} {N : Nat} {xs : List KT} {lv : List Vh} {n : Int} {pk : List Vh}
theorem pread_ok (I : VI v N) (R : PR v xs lv n pk) (op a b c : Int) (d : ByteArray) :
 vault_Vault_read 1000 (op, a, b, c, d, v.W, v.T, mkB v.key, v.t, xs, v.log, lv, n, pk) = some ((doRead v a b).tup ((doRead v a b).path, (doRead v a b).cp, (doRead v a b).cs)) := by
 unfold vault_Vault_read
 dsimp only
 rw [pfind_ok R.kids a (by have := I.few; omega), Option.bind_some]
 unfold doRead
 cases hf : fnd v.shs a with
 | none => rw [shAt_none hf]; rfl
 | some i =>
   obtain ⟨s, h1, _⟩ := fnd_some hf
   rw [shAt_some hf h1]
   have O := I.ok s (List.mem_of_getElem? h1)
   obtain ⟨pk1, ek, hst⟩ := R.kids.get h1
   dsimp only
   rw [caseS_inr, guardO_pos (R.kids.inr h1), ek]
   unfold Sh.kid shard_Shard_Get
   dsimp only
   have hl : llen s.lv = (s.recs.length : Int) := by unfold llen; rw [lv_len]
   by_cases c0 : b < 0
   ·rw [ige_f c0, condO_false, Option.bind_some, if_pos (.inl c0)]
    rfl
   by_cases c1 : (s.recs.length : Int) ≤ b
   ·rw [ige_t (by omega), condO_true, ilt_f (by rw [hl]; exact c1), Bool.not_false, condO_true, Option.bind_some, if_pos (.inr c1)]
    rfl
   rw [ige_t (by omega), condO_true, ilt_t (by rw [hl]; omega), Bool.not_true, condO_false, if_neg (by omega)]
   by_cases c2 : s.st = 2
   ·rw [ieq_t c2, condO_true, Option.bind_some, if_pos c2]
    dsimp only
    rw [ieq_t rfl, condO_true, guardO_pos (R.kids.inr h1)]
    unfold shard_Shard_Stone
    dsimp only
    rw [ine_f c2, condO_false]
    rfl
   ·have hfull := O.full c2
    have hb : b.toNat < s.recs.length := by omega
    have e2 : at_ T2 (s.recs.take s.left) b = s.recs.getD b.toNat zR := by
     obtain ⟨m, rfl⟩ : ∃ m : Nat, b = (m : Int) := ⟨b.toNat, by omega⟩
     rw [hfull, List.take_length]
     have := at_nat (t := T2) (l := s.recs) (n := m) (by omega)
     rw [this, Int.toNat_natCast, List.getD_eq_getElem?_getD, List.getElem?_eq_getElem (by omega)]
     rfl
    rw [ieq_f c2, condO_false, guardO_pos ⟨by omega, by unfold llen; rw [hfull, List.take_length]; omega⟩, Option.bind_some, if_neg c2, e2]
    dsimp only
    rw [ieq_f (by decide), condO_false]
    rfl
theorem ppath_of (s : Sh) (pk1 : List Vh) (i m : Int) (h : s.recs.length ≤ 512) (st : Int) (a b : Int) (c : Vh) (d : Int) (e : Vh) (rows : List Rec) (n : Int) :
 shard_Shard_Path 1000 (i, m, s.w, st, a, b, c, d, e, vgl_sha_keys, s.lv, rows, n, pk1) = some (pathOf s.lv i m) := by
 unfold pathOf
 have hl := lv_len s
 by_cases h1 : m < 1 ∨ (s.lv.length : Int) < m
 ·rw [if_pos (by omega), hpath_out a b c d e h1]
 ·obtain ⟨M, rfl⟩ : ∃ M : Nat, m = (M : Int) := ⟨m.toNat, by omega⟩
  by_cases h2 : i < 0
  ·rw [if_pos (by omega)]
   unfold shard_Shard_Path
   dsimp only
   rw [ilt_f (by omega), condO_false, igt_f (show (M : Int) ≤ llen s.lv by unfold llen; omega), condO_false, guardO_pos ⟨by omega, by omega, by unfold llen; omega, rfl⟩, ppath_bad (.inl h2), Option.bind_some]
   rfl
  ·obtain ⟨I, rfl⟩ : ∃ I : Nat, i = (I : Int) := ⟨i.toNat, by omega⟩
   by_cases h3 : M ≤ I
   ·rw [if_pos (by omega), hpath_no a b c d e h3 (by omega) (by omega)]
   ·rw [if_neg (by omega), hpath_ok a b c d e (by omega) (by omega) (by omega)]
    simp
theorem pprove_ok (I : VI v N) (hN : N ≤ 500) (R : PR v xs lv n pk) (op a b c : Int) (d : ByteArray) :
 vault_Vault_prove 1000 (op, a, b, c, d, v.W, v.T, mkB v.key, v.t, vgl_sha_keys, xs, v.log, lv, n, pk) = some ((doProve v a b c).tup ((doProve v a b c).path, (doProve v a b c).cp, (doProve v a b c).cs)) := by
 unfold vault_Vault_prove
 dsimp only
 rw [pfind_ok R.kids a (by have := I.few; omega), Option.bind_some]
 unfold doProve
 cases hf : fnd v.shs a with
 | none => rw [shAt_none hf]; rfl
 | some i =>
   obtain ⟨s, h1, _⟩ := fnd_some hf
   rw [shAt_some hf h1]
   have hsz := I.sz s (List.mem_of_getElem? h1)
   obtain ⟨pk1, ek, hst⟩ := R.kids.get h1
   dsimp only
   rw [caseS_inr, guardO_pos (R.kids.inr h1), ek]
   unfold Sh.kid
   dsimp only
   rw [ppath_of s pk1 b c (by omega), Option.bind_some]
   rfl
theorem log_len (I : VI v N) : v.log.length ≤ 14 := by
 rw [I.log, List.length_map]
 exact Nat.le_trans (List.length_filter_le ..) I.few
theorem lfs_eq (R : PR v xs lv n pk) : lv = v.lfs := R.inv.lv_eq
theorem headS_ok (I : VI v N) (R : PR v xs lv n pk) {β : Type} (f : Hd → Option β) :
 condO (ieq (llen v.log) 0) ((sha_Of 1000 (([] : List ByteArray), vgl_sha_keys)).bind fun r0 => (seal_Head 1000 (mkB v.key, (llen v.log), r0, v.t, vgl_sha_keys)).bind fun r1 => f r1)
  ((front_Front_Root 1000 (n, vgl_sha_keys, pk)).bind fun r0 => (seal_Head 1000 (mkB v.key, (llen v.log), r0, v.t, vgl_sha_keys)).bind fun r1 => f r1) = f (headOf v) := by
 have hl := log_len I
 have hh := phead_ok v.key I.key v.log.length (by omega) (rt 40 v.lfs) I.t0 I.t1
 by_cases h0 : v.log = []
 ·have e1 : llen v.log = 0 := by rw [h0]; rfl
  have e2 : rt 40 v.lfs = nil0 := by unfold Va.lfs; rw [h0]; rfl
  have hs := sha_of [] (by simp) (by simp)
  rw [ieq_t e1, condO_true]
  refine bind_of (hs.trans (congrArg some e2.symm)) ?_
  exact bind_of hh rfl
 ·have e1 : llen v.log ≠ 0 := by
   unfold llen
   have := List.length_pos_iff.2 h0
   omega
  rw [ieq_f e1, condO_false]
  refine bind_of (froot_ok R.inv h0 (by omega)) ?_
  rw [lfs_eq R]
  exact bind_of hh rfl
theorem phd_ok (I : VI v N) (R : PR v xs lv n pk) (op a b c : Int) (d : ByteArray) :
 vault_Vault_head 1000 (op, a, b, c, d, v.W, v.T, mkB v.key, v.t, vgl_sha_keys, xs, v.log, lv, n, pk) = some ((doHead v).tup ((doHead v).path, (doHead v).cp, (doHead v).cs)) := by
 unfold vault_Vault_head
 dsimp only
 exact headS_ok I R (fun r1 : Hd => some ((0, 0, 0, 0, 0, 0, str0, 0, 0, (Vector.replicate 32 0), 0, (Vector.replicate 32 0), r1.1, r1.2.1, r1.2.2.1, r1.2.2.2, 0, 0, (Vector.replicate 32 0), 0, 0, (Vector.replicate 32 0), 0, (Vector.replicate 32 0), ([] : List (Vector Int 32)), ([] : List (Vector Int 32)), ([] : List (Vector Int 32)))))
theorem plinks_of (R : PR v xs lv n pk) (hl : v.log.length ≤ 512) (m k : Int) : super_Super_Links 1000 (m, k, vgl_sha_keys, v.log, lv, n, pk) = some (linksOf v.lfs m k) := by
 have e := lfs_eq R
 subst e
 have hl2 : v.lfs.length = v.log.length := by simp [Va.lfs]
 unfold linksOf
 by_cases h1 : k < 1 ∨ (v.lfs.length : Int) < k
 ·rw [if_pos (by omega)]
  unfold super_Super_Links
  dsimp only
  rw [first_no v.log _ n pk h1]
  rfl
 ·obtain ⟨K, rfl⟩ : ∃ K : Nat, k = (K : Int) := ⟨k.toNat, by omega⟩
  by_cases h2 : m < 1 ∨ (K : Int) < m
  ·rw [if_pos (by omega)]
   unfold super_Super_Links
   dsimp only
   rw [first_yes v.log _ n pk (by omega) (by omega), Option.bind_some]
   dsimp only
   rw [ine_f rfl, condO_false, (plinks_bad (by rw [List.length_take]; omega)).1, Option.bind_some]
   rfl
  ·obtain ⟨M, rfl⟩ : ∃ M : Nat, m = (M : Int) := ⟨m.toNat, by omega⟩
   rw [if_neg (by omega), slinks_ok v.log _ n pk (by omega) (by omega) (by omega) (by omega)]
   simp
theorem plk_ok (I : VI v N) (R : PR v xs lv n pk) (op a b c : Int) (d : ByteArray) :
 vault_Vault_links 1000 (op, a, b, c, d, v.W, v.T, mkB v.key, v.t, vgl_sha_keys, xs, v.log, lv, n, pk) = some ((doLinks v a b).tup ((doLinks v a b).path, (doLinks v a b).cp, (doLinks v a b).cs)) := by
 unfold vault_Vault_links
 dsimp only
 rw [plinks_of R (by have := log_len I; omega), Option.bind_some]
 rfl
end
theorem Kids.get2 {ss : List Sh} {xs : List KT} (K : Kids ss xs) {i : Nat} {s : Sh} (h : ss[i]? = some s) : ∃ pk, at_ T3 xs (i : Int) = s.kid pk ∧ Stk 0 s.lv.length pk.reverse s.lv := by
 obtain ⟨pk, h1, h2⟩ := K.get h
 exact ⟨pk, h1, by rw [lv_len]; exact h2⟩
theorem stk2 {s : Sh} {pk : List Vh} (h : Stk 0 s.lv.length pk.reverse s.lv) : Stk 0 s.recs.length pk.reverse s.lv := by rw [← lv_len]; exact h
theorem Kids.at_set {xs : List KT} {i : Nat} (h : i < xs.length) (k : KT) : at_ T3 (lset xs (i : Int) k) (i : Int) = k := by
 have e : lset xs (i : Int) k = xs.set i k := by unfold lset; rw [Int.toNat_natCast]
 rw [e]
 have := at_nat (t := T3) (l := xs.set i k) (n := i) (by rw [List.length_set]; exact h)
 rw [this]
 simp
theorem set_same {α : Type} {l : List α} {i : Nat} {s : α} (h : l[i]? = some s) : l.set i s = l := by
 obtain ⟨hi, rfl⟩ := List.getElem?_eq_some_iff.1 h
 exact List.set_getElem_self hi
theorem add_no (t : Int) (d : ByteArray) (w st : Int) (a b : Int) (c : Vh) (e : Int) (f : Vh) (lv : List Vh) (rows : List Rec) (n : Int) (pk : List Vh) (h : st ≠ 0) :
 shard_Shard_Add_2 1000 (t, d, w, st, a, b, c, e, f, vgl_sha_keys, lv, rows, n, pk) = some (0, 13, w, st, a, b, c, e, f, n, lv, rows, pk) := by
 unfold shard_Shard_Add_2
 dsimp only
 rw [ine_t h, condO_true]
theorem add_big {t : Int} {d : ByteArray} {w : Int} (a b : Int) (c : Vh) (e : Int) (f : Vh) (lv : List Vh) (rows : List Rec) (n : Int) (pk : List Vh) (h : 2000 < d.size) (hl : lv.length ≤ 500) (w0 : 0 ≤ w) (w1 : w ≤ 1125899906842624) (t0 : 0 ≤ t) (t1 : t ≤ 1125899906842624) :
 shard_Shard_Add_2 1000 (t, d, w, 0, a, b, c, e, f, vgl_sha_keys, lv, rows, n, pk) = some (0, 11, w, 0, a, b, c, e, f, n, lv, rows, pk) := by
 unfold shard_Shard_Add_2
 dsimp only
 rw [ine_f rfl, condO_false, ige_f (show llen lv < 4000 by unfold llen; omega), condO_false]
 have hc : record_Check 1000 (w, llen lv, t, d) = some 11 := by
  unfold record_Check
  dsimp only
  rw [ige_t w0, condO_true, ile_t w1, Bool.not_true, condO_false, ige_t t0, condO_true, ile_t t1, Bool.not_true, condO_false, ige_t (show 0 ≤ llen lv by unfold llen; omega), condO_true, ile_t (show llen lv ≤ 3999 by unfold llen; omega), Bool.not_true, condO_false, igt_t (show (2000 : Int) < blen d by show (2000 : Int) < ((d.size : Nat) : Int); omega), condO_true]
 refine bind_of hc ?_
 rw [ine_t (by decide), condO_true]
section
variable {v : Va} {N : Nat} {xs : List KT} {lv : List Vh} {n : Int} {pk : List Vh}
theorem w_may (I : VI v N) {s : Sh} (O : ShOk v s) : s.w ≤ 1125899906842624 := by
 have h2 : v.t / v.W ≤ v.t := Int.ediv_le_self _ I.t0
 have := O.w1
 have := I.t1
 omega
theorem tw_may (I : VI v N) : 0 ≤ v.t / v.W ∧ v.t / v.W ≤ 1125899906842624 := by
 have h1 : 0 ≤ v.t / v.W := Int.ediv_nonneg I.t0 (by have := I.W0; omega)
 have h2 : v.t / v.W ≤ v.t := Int.ediv_le_self _ I.t0
 have := I.t1
 omega
theorem add_yes (s : Sh) {pk1 : List Vh} (hst : Stk 0 s.lv.length pk1.reverse s.lv) (h0 : s.st = 0) (hf : s.left = s.recs.length) {t : Int} {d : ByteArray} (hs : d.size ≤ 2000) (hl : s.recs.length ≤ 60) (w0 : 0 ≤ s.w) (w1 : s.w ≤ 1125899906842624) (t0 : 0 ≤ t) (t1 : t ≤ 1125899906842624) :
 ∃ pk', shard_Shard_Add_2 1000 (t, d, s.w, s.st, s.sn.1, s.sn.2.1, s.sn.2.2.1, s.sn.2.2.2.1, s.sn.2.2.2.2, vgl_sha_keys, s.lv, s.recs.take s.left, (s.recs.length : Int), pk1) =
  some ((s.recs.length : Int), 0, s.w, s.st, s.sn.1, s.sn.2.1, s.sn.2.2.1, s.sn.2.2.2.1, s.sn.2.2.2.2, ((s.put t d).recs.length : Int), (s.put t d).lv, (s.put t d).recs.take (s.put t d).left, pk') ∧ Stk 0 (s.put t d).lv.length pk'.reverse (s.put t d).lv := by
 have hll := lv_len s
 have hm : mayR s.w (s.lv.length : Int) t d := ⟨⟨w0, w1⟩, ⟨t0, t1⟩, ⟨by omega, by omega⟩, hs⟩
 obtain ⟨pk', h1, h2⟩ := add17 (rows := s.recs) hm s.sn.1 s.sn.2.1 s.sn.2.2.1 s.sn.2.2.2.1 s.sn.2.2.2.2 hst (by omega) (by omega)
 have e1 : (s.put t d).lv = s.lv ++ [lfR (s.w, (s.lv.length : Int), t, d)] := by simp [Sh.put, Sh.lv]
 have e2 : (s.put t d).recs.take (s.put t d).left = s.recs ++ [(s.w, (s.lv.length : Int), t, d)] := by
  simp only [Sh.put, hll]
  rw [List.take_of_length_le (by simp)]
 have e3 : ((s.put t d).recs.length : Int) = ((s.lv.length + 1 : Nat) : Int) := by simp [Sh.put, hll]
 refine ⟨pk', ?_, by rw [e1, List.length_append]; exact h2⟩
 rw [e1, e2, e3, hf, List.take_length, h0, show ((s.recs.length : Nat) : Int) = (s.lv.length : Int) by omega]
 exact h1
theorem padd_ok (I : VI v N) (hN : N ≤ 59) (R : PR v xs lv n pk) (op a b c : Int) (d : ByteArray) :
 ∃ xs', vault_Vault_add 1000 (op, a, b, c, d, v.W, v.T, mkB v.key, v.t, vgl_sha_keys, xs, v.log, lv, n, pk) = some ((doAdd v d).1.tup (v.W, v.T, mkB v.key, v.t, (doAdd v d).1.path, (doAdd v d).1.cp, (doAdd v d).1.cs, xs')) ∧ Kids (doAdd v d).2.shs xs' := by
 obtain ⟨tw0, tw1⟩ := tw_may I
 unfold vault_Vault_add
 dsimp only
 rw [of_ok I.t0 I.t1 I.W0 I.W1, Option.bind_some, pfind_ok R.kids _ (by have := I.few; omega), Option.bind_some]
 unfold doAdd
 cases hf : fnd v.shs (v.t / v.W) with
 | none =>
   dsimp only
   rw [caseS_inl]
   have hl : llen xs = (v.shs.length : Int) := by unfold llen; rw [R.kids.len]
   by_cases h14 : 14 ≤ v.shs.length
   ·rw [ige_t (by rw [hl]; omega), condO_true, Option.bind_some, if_pos h14]
    exact ⟨xs, rfl, R.kids⟩
   ·rw [ige_f (by rw [hl]; omega), condO_false, ilt_f tw0, condO_false, igt_f tw1, condO_false, Option.bind_some, if_neg h14]
    rw [caseS_inr, caseS_inr]
    by_cases h2 : 2000 < d.size
    ·rw [add_big (lv := []) _ _ _ _ _ _ _ _ h2 (by simp) tw0 tw1 I.t0 I.t1, Option.bind_some, if_pos h2]
     dsimp only
     rw [ine_t (by decide), condO_true]
     exact ⟨xs, rfl, R.kids⟩
    ·obtain ⟨pk', h3, h4⟩ := add_yes (newSh (v.t / v.W)) (pk1 := []) (Stk.zero 0) rfl rfl (t := v.t) (d := d) (by omega) (by simp [newSh]) tw0 tw1 I.t0 I.t1
     rw [if_neg h2]
     refine ⟨xs ++ [((newSh (v.t / v.W)).put v.t d).kid pk'], ?_, R.kids.snoc (stk2 h4)⟩
     refine bind_of h3 ?_
     dsimp only
     rw [ine_f rfl, condO_false, guardO_pos (show cutfOk (llen xs) (llen xs) (llen xs) from ⟨rfl, rfl⟩), guardO_pos (show appcOk _ _ _ from ⟨by have := R.kids.len; simp [oneL]; omega, fun _ => by simp [oneL]⟩)]
     rfl
 | some i =>
   obtain ⟨s, h1, hw⟩ := fnd_some hf
   have O := I.ok s (List.mem_of_getElem? h1)
   have hsz := I.sz s (List.mem_of_getElem? h1)
   obtain ⟨pk1, ek, hst⟩ := R.kids.get2 h1
   have wm := w_may I O
   dsimp only
   rw [caseS_inr, guardO_pos (R.kids.inr h1), ek, h1]
   unfold Sh.kid
   dsimp only
   have same : Kids v.shs (lset xs (i : Int) (s.kid pk1)) := by
    have := R.kids.set (i := i) (stk2 hst)
    rwa [set_same h1] at this
   by_cases h0 : s.st = 0
   ·rw [if_neg (by simp [h0])]
    by_cases h2 : 2000 < d.size
    ·rw [h0, add_big _ _ _ _ _ _ _ _ _ h2 (by rw [lv_len]; omega) O.w0 wm I.t0 I.t1, Option.bind_some, if_pos h2]
     dsimp only
     rw [ine_t (by decide), condO_true]
     refine ⟨lset xs (i : Int) (s.kid pk1), ?_, same⟩
     unfold Sh.kid
     rw [h0]
     rfl
    ·obtain ⟨pk', h3, h4⟩ := add_yes s hst h0 (O.full (by omega)) (t := v.t) (d := d) (by omega) (by omega) O.w0 wm I.t0 I.t1
     rw [if_neg h2]
     refine ⟨lset xs (i : Int) ((s.put v.t d).kid pk'), ?_, R.kids.set (stk2 h4)⟩
     refine bind_of h3 ?_
     dsimp only
     rw [ine_f rfl, condO_false]
     rfl
   ·rw [if_pos h0, add_no _ _ _ _ _ _ _ _ _ _ _ _ _ h0, Option.bind_some]
    dsimp only
    rw [ine_t (by decide), condO_true]
    exact ⟨lset xs (i : Int) (s.kid pk1), rfl, same⟩
theorem mayF_of (I : VI v N) (hN : N ≤ 4000) {s : Sh} (hs : s ∈ v.shs) : mayF s.w (s.recs.length : Int) := by
 have O := I.ok s hs
 have := I.sz s hs
 have := O.some1
 exact ⟨O.w0, w_may I O, by omega, by omega⟩
theorem freeze_no (s : Sh) (pk1 : List Vh) (h : s.st = 0) (rows : List Rec) (n : Int) : shard_Shard_Freeze 1000 (s.w, s.st, s.sn.1, s.sn.2.1, s.sn.2.2.1, s.sn.2.2.2.1, s.sn.2.2.2.2, vgl_sha_keys, s.lv, rows, n, pk1) = some (0, 0, z32, false) := by
 unfold shard_Shard_Freeze
 dsimp only
 rw [ieq_t h, condO_true]
theorem freeze_yes (s : Sh) {pk1 : List Vh} (hst : Stk 0 s.lv.length pk1.reverse s.lv) (hl : s.recs.length ≤ 500) (h : s.st ≠ 0) (rows : List Rec) : shard_Shard_Freeze 1000 (s.w, s.st, s.sn.1, s.sn.2.1, s.sn.2.2.1, s.sn.2.2.2.1, s.sn.2.2.2.2, vgl_sha_keys, s.lv, rows, (s.recs.length : Int), pk1) = some (s.w, (s.recs.length : Int), rt 40 s.lv, true) := by
 unfold shard_Shard_Freeze
 dsimp only
 have := says_ok (w := s.w) (s := s.st) (rows := rows) s.sn.1 s.sn.2.1 s.sn.2.2.1 s.sn.2.2.2.1 s.sn.2.2.2.2 hst (by rw [lv_len]; omega)
 rw [lv_len] at this
 rw [ieq_f h, condO_false, this]
 rfl
theorem place_ok (I : VI v N) {s : Sh} (hs : s ∈ v.shs) (h : s.st ≠ 0) (lv : List Vh) (n : Int) (pk : List Vh) : super_Super_Find 1000 (s.w, v.log, lv, n, pk) = some ((placeOf v s.w : Int), true) ∧ placeOf v s.w < v.log.length ∧ v.log[placeOf v s.w]? = some s.fz := by
 have hl := log_len I
 have hin : s.fz ∈ v.log := by
  rw [I.log]
  exact List.mem_map.2 ⟨s, List.mem_filter.2 ⟨hs, by simpa using h⟩, rfl⟩
 rcases find_ok v.log s.w lv n pk (by omega) with ⟨i, hi, h1, h2, h3⟩ | ⟨_, h1⟩
 ·have e : placeOf v s.w = i := by
   unfold placeOf
   have : v.log.findIdx? (fun f => f.1 == s.w) = some i := List.findIdx?_eq_some_iff_getElem.2 ⟨hi, by simpa using h2, fun j hj => by simpa using h3 j hj⟩
   rw [this]; rfl
  rw [e]
  refine ⟨h1, hi, ?_⟩
  rw [List.getElem?_eq_getElem hi]
  have hmem : v.log[i] ∈ v.log := List.getElem_mem hi
  have hmem2 : v.log[i] ∈ (v.shs.filter fun s => decide (s.st ≠ 0)).map Sh.fz := by rw [← I.log]; exact hmem
  obtain ⟨u, hu, he⟩ := List.mem_map.1 hmem2
  have hu' := (List.mem_filter.1 hu).1
  have hw : u.w = s.w := by rw [← he] at h2; exact h2
  obtain ⟨j, hj⟩ := List.mem_iff_getElem?.1 hu'
  obtain ⟨k, hk⟩ := List.mem_iff_getElem?.1 hs
  have : j = k := by
   rcases Nat.lt_trichotomy j k with h | h | h
   ·have := I.asc j k u s h hj hk; omega
   ·exact h
   ·have := I.asc k j s u h hk hj; omega
  subst this
  rw [hj] at hk
  cases hk
  rw [← he]
 ·exact absurd rfl (h1 _ hin)
theorem pcite_ok (I : VI v N) (hN : N ≤ 500) (R : PR v xs lv n pk) (op a b c : Int) (d : ByteArray) :
 vault_Vault_cite 1000 (op, a, b, c, d, v.W, v.T, mkB v.key, v.t, vgl_sha_keys, xs, v.log, lv, n, pk) = some ((doCite v a b).tup ((doCite v a b).path, (doCite v a b).cp, (doCite v a b).cs)) := by
 unfold vault_Vault_cite
 dsimp only
 rw [pfind_ok R.kids a (by have := I.few; omega), Option.bind_some]
 unfold doCite
 cases hf : fnd v.shs a with
 | none => rw [shAt_none hf]; rfl
 | some i =>
   obtain ⟨s, h1, hw⟩ := fnd_some hf
   subst hw
   rw [shAt_some hf h1]
   have hmem := List.mem_of_getElem? h1
   have hsz := I.sz s hmem
   obtain ⟨pk1, ek, hst⟩ := R.kids.get2 h1
   dsimp only
   rw [caseS_inr]
   have hl : llen s.lv = (s.recs.length : Int) := by unfold llen; rw [lv_len]
   by_cases c0 : b < 0
   ·rw [ilt_t c0, condO_true, if_pos (.inl c0)]; rfl
   rw [ilt_f (by omega), condO_false, guardO_pos (R.kids.inr h1), ek]
   unfold Sh.kid
   dsimp only
   by_cases c1 : (s.recs.length : Int) ≤ b
   ·rw [ige_t (by rw [hl]; exact c1), condO_true, if_pos (.inr c1)]; rfl
   rw [ige_f (by rw [hl]; omega), condO_false, guardO_pos (R.kids.inr h1), if_neg (by omega)]
   by_cases c2 : s.st = 0
   ·rw [freeze_no s _ c2, Option.bind_some, if_pos c2]; rfl
   ·obtain ⟨p1, p2, p3⟩ := place_ok I hmem c2 lv n pk
    have elv := lfs_eq R
    subst elv
    have hlf : v.lfs.length = v.log.length := by simp [Va.lfs]
    have hll := log_len I
    rw [freeze_yes s hst (by omega) c2, Option.bind_some, if_neg c2]
    dsimp only
    rw [Bool.not_true, condO_false, guardO_pos (R.kids.inr h1), guardO_pos (R.kids.inr h1), hl, ppath_of s pk1 b (s.recs.length : Int) (by omega), Option.bind_some, p1, Option.bind_some]
    dsimp only
    rw [show llen v.log = (v.log.length : Int) from rfl, spath_ok v.log v.lfs n pk p2 (by omega) (by omega), Option.bind_some]
    have e2 : pathOf s.lv b (s.recs.length : Int) = (0, pth false 40 b.toNat s.lv) := by
     unfold pathOf
     rw [lv_len, if_neg (by omega), Int.toNat_natCast, List.take_of_length_le (by rw [lv_len]; exact Nat.le_refl _)]
    have e3 : v.lfs.take v.log.length = v.lfs := List.take_of_length_le (by omega)
    rw [e2, e3]
    exact headS_ok I R (fun r6 : Hd => some ((0, 0, 0, 0, 0, 0, str0, 0, 0, (Vector.replicate 32 0), 0, (Vector.replicate 32 0), 0, (Vector.replicate 32 0), 0, (Vector.replicate 32 0), s.w, (s.recs.length : Int), rt 40 s.lv, (placeOf v s.w : Int), r6.1, r6.2.1, r6.2.2.1, r6.2.2.2, ([] : List (Vector Int 32)), pth false 40 b.toNat s.lv, pth false 40 (placeOf v s.w) v.lfs)))
end
section
variable {v : Va} {N : Nat} {xs : List KT} {lv : List Vh} {n : Int} {pk : List Vh}
theorem lastW_lt (I : VI v N) {s : Sh} (hs : v.shs[v.shs.length - 1]? = some s) (h0 : s.st = 0) : lastW v.log < s.w := by
 have O := I.ok s (List.mem_of_getElem? hs)
 unfold lastW
 cases hl : v.log.getLast? with
 | none => simp; have := O.w0; omega
 | some f =>
   have hf : f ∈ v.log := List.mem_of_getLast? hl
   have hf2 : f ∈ (v.shs.filter fun s => decide (s.st ≠ 0)).map Sh.fz := by rw [← I.log]; exact hf
   obtain ⟨u, hu, rfl⟩ := List.mem_map.1 hf2
   obtain ⟨hu1, hu2⟩ := List.mem_filter.1 hu
   obtain ⟨j, hj⟩ := List.mem_iff_getElem?.1 hu1
   have hjl := (List.getElem?_eq_some_iff.1 hj).1
   have hne : j ≠ v.shs.length - 1 := fun e => by
    rw [e, hs] at hj; cases hj
    simp [h0] at hu2
   have := I.asc j (v.shs.length - 1) u s (by omega) hj hs
   simpa [Sh.fz] using this
theorem ptick_ok (I : VI v N) (hN : N ≤ 500) (R : PR v xs lv n pk) (op a b c : Int) (d : ByteArray) :
 ∃ xs' lv' n' pk', vault_Vault_tick 1000 (op, a, b, c, d, v.W, v.T, mkB v.key, v.t, vgl_sha_keys, xs, v.log, lv, n, pk) = some ((doTick v a).1.tup (v.W, v.T, mkB v.key, (doTick v a).2.t, n', (doTick v a).1.path, (doTick v a).1.cp, (doTick v a).1.cs, xs', (doTick v a).2.log, lv', pk')) ∧ PR (doTick v a).2 xs' lv' n' pk' := by
 unfold vault_Vault_tick
 dsimp only
 rw [tick_ok, Option.bind_some]
 unfold doTick
 by_cases he : (tickW v.t a).2 ≠ 0
 ·rw [ine_t he, condO_true, if_pos he]
  exact ⟨xs, lv, n, pk, rfl, R⟩
 rw [ine_f (by omega), condO_false, if_neg he]
 have htw : tickW v.t a = (a, 0) ∧ okT a = true ∧ v.t ≤ a := by
  unfold tickW at he ⊢
  split at he
  ·rename_i h; rw [if_pos h]; exact ⟨rfl, h⟩
  ·exact absurd (show (21 : Int) ≠ 0 by decide) he
 obtain ⟨e1, hok, hle⟩ := htw
 obtain ⟨a0, a1⟩ := okT_iff.1 hok
 rw [e1]
 dsimp only
 have hl : llen xs = (v.shs.length : Int) := by unfold llen; rw [R.kids.len]
 have keep : ∀ v', v' = ({ v with t := a } : Va) → PR v' xs lv n pk := fun v' h => by subst h; exact ⟨R.kids, R.inv⟩
 by_cases h0 : v.shs.length = 0
 ·have hg : closeLast ({ v with t := a } : Va) = { v with t := a } := by
   unfold closeLast
   have : v.shs = [] := List.eq_nil_of_length_eq_zero h0
   simp [this]
  rw [igt_f (by rw [hl]; omega), condO_false, Option.bind_some, hg]
  exact ⟨xs, lv, n, pk, rfl, keep _ rfl⟩
 ·have e2 : WK .i64 (llen xs - 1) = ((v.shs.length - 1 : Nat) : Int) := by
   have := I.few
   rw [wk_i64 (by omega) (by omega)]; omega
  obtain ⟨s, hs⟩ : ∃ s, v.shs[v.shs.length - 1]? = some s := ⟨_, List.getElem?_eq_getElem (by omega)⟩
  have hmem := List.mem_of_getElem? hs
  have O := I.ok s hmem
  have hsz := I.sz s hmem
  have wm := w_may I O
  obtain ⟨pk1, ek, hst⟩ := R.kids.get2 hs
  have hr := R.kids.inr hs
  have hg : closeLast ({ v with t := a } : Va) = if s.st = 0 ∧ closedW s.w v.W a = true then { v with t := a, shs := v.shs.set (v.shs.length - 1) { s with st := 1 }, log := v.log ++ [s.fz] } else { v with t := a } := by
   unfold closeLast
   dsimp only
   rw [List.getLast?_eq_getElem?, hs]
  rw [igt_t (by rw [hl]; omega), condO_true, e2, guardO_pos hr, guardO_pos hr, guardO_pos hr, ek, hg]
  unfold Sh.kid
  dsimp only
  by_cases c0 : s.st = 0
  ·rw [ieq_t c0, condO_true, guardO_pos hr, guardO_pos hr, guardO_pos hr, closed_ok O.w0 wm I.W0 I.W1 a0 a1, Option.bind_some]
   cases hc : closedW s.w v.W a with
   | false =>
     rw [condO_false, Option.bind_some, if_neg (by simp)]
     exact ⟨xs, lv, n, pk, rfl, keep _ rfl⟩
   | true =>
     have hcl := close_ok (w := s.w) (rows := s.recs.take s.left) s.sn.1 s.sn.2.1 s.sn.2.2.1 s.sn.2.2.2.1 s.sn.2.2.2.2 hst (by rw [lv_len]; omega) (by rw [lv_len]; exact O.some1)
     rw [lv_len] at hcl
     obtain ⟨lv', n', pk', h1, h2⟩ := anchor_go (rt 40 s.lv) (mayF_of I (by omega) hmem) R.inv (by have := log_len I; omega) (lastW_lt I hs c0)
     have hst1 : Stk 0 ({ s with st := 1 } : Sh).recs.length pk1.reverse ({ s with st := 1 } : Sh).lv := stk2 hst
     rw [condO_true, guardO_pos hr, guardO_pos hr, guardO_pos hr, c0, hcl, Option.bind_some]
     dsimp only
     rw [ieq_t rfl, condO_true, h1, Option.bind_some, if_pos ⟨rfl, rfl⟩]
     exact ⟨lset xs ((v.shs.length - 1 : Nat) : Int) (({ s with st := 1 } : Sh).kid pk1), lv', n', pk', rfl, ⟨R.kids.set hst1, h2⟩⟩
  ·rw [ieq_f c0, condO_false, Option.bind_some, if_neg (by rintro ⟨h, _⟩; exact c0 h)]
   exact ⟨xs, lv, n, pk, rfl, keep _ rfl⟩
theorem prune_no (fw fc : Int) (fr : Vh) (t : Int) (m : Vh) (w st : Int) (a b : Int) (c : Vh) (d : Int) (e : Vh) (lv : List Vh) (rows : List Rec) (n : Int) (pk : List Vh) (h : st ≠ 1) :
 shard_Shard_Prune 1000 (fw, fc, fr, t, m, w, st, a, b, c, d, e, vgl_sha_keys, lv, rows, n, pk) = some (13, w, st, a, b, c, d, e, lv, rows) := by
 unfold shard_Shard_Prune
 dsimp only
 rw [ine_t h, condO_true]
theorem old_ok (I : VI v N) (R : PR v xs lv n pk) {j : Nat} {s : Sh} (hj : v.shs[j]? = some s) :
 (guardO (inR (j : Int) (llen xs)) ((window_Expired 1000 (s.w, v.W, v.T, v.t)).bind fun r1 => condO (!r1) (some (.inl ())) (guardO (inR (j : Int) (llen xs)) (condO (ieq s.st 2) (guardO (inR (j : Int) (llen xs)) (condO (ieq (llen (s.recs.take s.left)) 0) (some (.inl ())) (some (.inr ())))) (some (.inr ()))))) : Option (Unit ⊕ Unit)) = some (if old v s = true then .inr () else .inl ()) := by
 have hr := R.kids.inr hj
 have O := I.ok s (List.mem_of_getElem? hj)
 rw [guardO_pos hr, expired_ok O.w0 (w_may I O) I.W0 I.W1 I.T0 I.T1 I.t0 I.t1, Option.bind_some]
 unfold old
 cases expW s.w v.W v.T v.t with
 | false => rfl
 | true =>
   rw [Bool.not_true, condO_false, guardO_pos hr]
   have hlen : llen (s.recs.take s.left) = (s.left : Int) := by unfold llen; rw [List.length_take]; have := O.le; omega
   rw [hlen]
   by_cases h2 : s.st = 2
   ·rw [ieq_t h2, condO_true, guardO_pos hr]
    by_cases h3 : s.left = 0
    ·rw [ieq_t (by omega), condO_true]; simp [h2, h3]
    ·rw [ieq_f (by omega), condO_false]; simp [h2, h3]
   ·rw [ieq_f h2, condO_false]; simp [h2]
theorem give_left (s : Sh) (key : List UInt8) (t : Int) (h : s.left ≤ s.recs.length) : (s.give key t).left ≤ (s.give key t).recs.length ∧ (s.give key t).recs = s.recs ∧ (s.give key t).w = s.w := by
 unfold Sh.give
 split
 ·exact ⟨h, rfl, rfl⟩
 ·split
  ·exact ⟨Nat.le_trans (Nat.sub_le _ _) h, rfl, rfl⟩
  ·exact ⟨h, rfl, rfl⟩
theorem pcompact_ok (I : VI v N) (hN : N ≤ 500) (R : PR v xs lv n pk) (op a b c : Int) (d : ByteArray) :
 ∃ xs', vault_Vault_compact 1000 (op, a, b, c, d, v.W, v.T, mkB v.key, v.t, vgl_sha_keys, xs, v.log, lv, n, pk) = some ((doCompact v).1.tup (xs', (doCompact v).1.path, (doCompact v).1.cp, (doCompact v).1.cs)) ∧ Kids (doCompact v).2.shs xs' := by
 have hl : llen xs = (v.shs.length : Int) := by unfold llen; rw [R.kids.len]
 have hfew := I.few
 unfold vault_Vault_compact
 dsimp only
 obtain ⟨r, hr⟩ : ∃ r, r = v.shs.findIdx? (old v) := ⟨_, rfl⟩
 obtain ⟨q1, q2⟩ := index20 v.shs r hr.symm
 unfold doCompact
 rw [← hr]
 cases r with
 | none =>
   refine ⟨xs, bind_of (loopK_run (fun i : Nat => (i : Int)) v.shs.length (xs, 0, (-1), 0, 0, 0, 0, str0, 0, 0, z32, 0, z32, 0, z32, 0, z32, 0, 0, z32, 0, 0, z32, 0, z32, ([] : List Vh), ([] : List Vh), ([] : List Vh)) 1000 (fun i hi => ?_) ?_ (by omega)) rfl, R.kids⟩
   ·have hs : v.shs[i]? = some v.shs[i] := List.getElem?_eq_getElem hi
    have hrr := R.kids.inr hs
    obtain ⟨pk1, ek, hst⟩ := R.kids.get2 hs
    have hold := q1 i hi (fun m hm => by cases hm)
    rw [ilt_t hrr.2, condO_true, guardO_pos hrr, guardO_pos hrr, ek]
    refine bind_of (old_ok I R hs) ?_
    rw [hold, if_neg (by decide), caseS_inl, wk_i64 (by omega) (by omega)]
    rfl
   ·rw [ilt_f (show llen xs ≤ (v.shs.length : Int) by omega), condO_false]
 | some m =>
   obtain ⟨hm, hold⟩ := q2 m rfl
   have hs : v.shs[m]? = some v.shs[m] := List.getElem?_eq_getElem hm
   obtain ⟨s, hse⟩ : ∃ s, s = v.shs[m] := ⟨_, rfl⟩
   rw [← hse] at hs hold
   have hmem := List.mem_of_getElem? hs
   have O := I.ok s hmem
   have hsz := I.sz s hmem
   have hrr := R.kids.inr hs
   have hmx : m < xs.length := by rw [R.kids.len]; exact hm
   obtain ⟨pk1, ek, hst⟩ := R.kids.get2 hs
   have hg := give_left s v.key v.t O.le
   have hst' : Stk 0 (s.give v.key v.t).recs.length pk1.reverse (s.give v.key v.t).lv := by
    have e : (s.give v.key v.t).lv = s.lv := by unfold Sh.lv; rw [hg.2.1]
    rw [e, hg.2.1]; exact stk2 hst
   dsimp only
   rw [hs]
   dsimp only
   refine ⟨lset xs (m : Int) ((s.give v.key v.t).kid pk1), bind_of (loopK_run (fun i : Nat => (i : Int)) m (lset xs (m : Int) ((s.give v.key v.t).kid pk1), 0, s.w, ((s.give v.key v.t).left : Int), 0, 0, 0, str0, 0, 0, z32, 0, z32, 0, z32, 0, z32, 0, 0, z32, 0, 0, z32, 0, z32, ([] : List Vh), ([] : List Vh), ([] : List Vh)) 1000 (fun i hi => ?_) ?_ (by omega)) rfl, R.kids.set hst'⟩
   ·have hi' : i < v.shs.length := by omega
    have hs : v.shs[i]? = some v.shs[i] := List.getElem?_eq_getElem hi'
    have hrr := R.kids.inr hs
    obtain ⟨pk1, ek, hst⟩ := R.kids.get2 hs
    have hold := q1 i hi' (fun m' hm' => by cases hm'; exact hi)
    rw [ilt_t hrr.2, condO_true, guardO_pos hrr, guardO_pos hrr, ek]
    refine bind_of (old_ok I R hs) ?_
    rw [hold, if_neg (by decide), caseS_inl, wk_i64 (by omega) (by omega)]
    rfl
   ·rw [ilt_t hrr.2, condO_true, guardO_pos hrr, guardO_pos hrr, ek]
    refine bind_of (old_ok I R hs) ?_
    rw [hold, if_pos rfl, caseS_inr, guardO_pos hrr]
    -- what comes last
    have last : ∀ k : KT, k.1 = s.w → llen k.2.2.2.2.2.2.2.2.1 = ((s.give v.key v.t).left : Int) → k = (s.give v.key v.t).kid pk1 →
     (guardO (inR (m : Int) (llen (lset xs (m : Int) k))) (guardO (inR (m : Int) (llen (lset xs (m : Int) k))) (some (.inr ((lset xs (m : Int) k), 0, (at_ T3 (lset xs (m : Int) k) (m : Int)).1, (llen (at_ T3 (lset xs (m : Int) k) (m : Int)).2.2.2.2.2.2.2.2.1), 0, 0, 0, str0, 0, 0, z32, 0, z32, 0, z32, 0, z32, 0, 0, z32, 0, 0, z32, 0, z32, ([] : List Vh), ([] : List Vh), ([] : List Vh)))))) =
     (some (Sum.inr (lset xs (m : Int) ((s.give v.key v.t).kid pk1), (0 : Int), s.w, ((s.give v.key v.t).left : Int), (0 : Int), (0 : Int), (0 : Int), str0, (0 : Int), (0 : Int), z32, (0 : Int), z32, (0 : Int), z32, (0 : Int), z32, (0 : Int), (0 : Int), z32, (0 : Int), (0 : Int), z32, (0 : Int), z32, ([] : List Vh), ([] : List Vh), ([] : List Vh))) : Option (Int ⊕ _)) := fun k k1 k2 k3 => by
     have hin : inR (m : Int) (llen (lset xs (m : Int) k)) := ⟨by omega, by unfold llen lset; rw [List.length_set]; omega⟩
     rw [guardO_pos hin, guardO_pos hin, Kids.at_set hmx, k1, k2, ← k3]
    have hlg : ∀ u : Sh, u = s.give v.key v.t → llen (u.recs.take u.left) = ((s.give v.key v.t).left : Int) := fun u hu => by
     subst hu
     unfold llen
     rw [List.length_take]
     have := hg.1; omega
    have hlive : llen (lset xs (m : Int) (s.kid pk1)) = llen xs := by unfold llen lset; rw [List.length_set]
    rcases O.st with h | h | h
    ·-- open: nothing
     have eg : s.give v.key v.t = s := by unfold Sh.give; rw [if_neg (by omega), if_neg (by omega)]
     have exs : lset xs (m : Int) (s.kid pk1) = xs := by
      unfold lset
      rw [Int.toNat_natCast]
      refine set_same ?_
      have := at_nat (t := T3) (l := xs) (n := m) hmx
      rw [ek] at this
      rw [List.getElem?_eq_getElem hmx, ← this]
     refine bind_of (freeze_no s pk1 h (s.recs.take s.left) (s.recs.length : Int)) ?_
     dsimp only
     rw [condO_false, Option.bind_some]
     have := last (s.kid pk1) rfl (hlg s eg.symm) (by rw [eg])
     rw [exs] at this
     exact this
    ·-- frozen: it is pruned
     have eg : s.give v.key v.t = { s with st := 2, sn := (s.w, (s.recs.length : Int), rt 40 s.lv, v.t, macL v.key (stoneL s.w (s.recs.length : Int) (rt 40 s.lv) v.t)) } := by unfold Sh.give; rw [if_pos h]
     refine bind_of (freeze_yes s hst (by omega) (by omega) (s.recs.take s.left)) ?_
     dsimp only
     have hF := mayF_of I (by omega) hmem
     rw [condO_true, pstone_ok hF (rt 40 s.lv) I.t0 I.t1 v.key I.key, Option.bind_some, guardO_pos hrr]
     have hp := prune_ok (w := s.w) (t := v.t) (m := macL v.key (stoneL s.w (s.recs.length : Int) (rt 40 s.lv) v.t)) (rows := s.recs.take s.left) s.sn.1 s.sn.2.1 s.sn.2.2.1 s.sn.2.2.2.1 s.sn.2.2.2.2 hst (by rw [lv_len]; omega) (by rw [lv_len]; exact hF) I.t0 I.t1
     rw [lv_len] at hp
     unfold Sh.kid
     dsimp only
     rw [h, hp, Option.bind_some]
     dsimp only
     rw [ine_f rfl, condO_false, Option.bind_some]
     exact last (({ s with st := 2, sn := (s.w, (s.recs.length : Int), rt 40 s.lv, v.t, macL v.key (stoneL s.w (s.recs.length : Int) (rt 40 s.lv) v.t)) } : Sh).kid pk1) rfl (hlg _ eg.symm) (by rw [eg])
    ·-- pruned: it is stripped
     have eg : s.give v.key v.t = { s with left := s.left - min 4 s.left } := by unfold Sh.give; rw [if_neg (by omega), if_pos h]
     refine bind_of (freeze_yes s hst (by omega) (by omega) (s.recs.take s.left)) ?_
     dsimp only
     have hF := mayF_of I (by omega) hmem
     rw [condO_true, pstone_ok hF (rt 40 s.lv) I.t0 I.t1 v.key I.key, Option.bind_some, guardO_pos hrr, prune_no _ _ _ _ _ _ _ _ _ _ _ _ _ _ _ _ (show (s.kid pk1).2.1 ≠ 1 by show s.st ≠ 1; omega), Option.bind_some]
     dsimp only
     have exs : lset xs (m : Int) (s.kid pk1) = xs := by
      unfold lset
      rw [Int.toNat_natCast]
      refine set_same ?_
      have := at_nat (t := T3) (l := xs) (n := m) hmx
      rw [ek] at this
      rw [List.getElem?_eq_getElem hmx, ← this]
     rw [ine_t (by decide), condO_true]
     have ex2 : lset xs (m : Int) ((s.kid pk1).1, (s.kid pk1).2.1, (s.kid pk1).2.2.1, (s.kid pk1).2.2.2.1, (s.kid pk1).2.2.2.2.1, (s.kid pk1).2.2.2.2.2.1, (s.kid pk1).2.2.2.2.2.2.1, (s.kid pk1).2.2.2.2.2.2.2.1, (s.kid pk1).2.2.2.2.2.2.2.2.1, (s.kid pk1).2.2.2.2.2.2.2.2.2.1, (s.kid pk1).2.2.2.2.2.2.2.2.2.2) = xs := exs
     rw [ex2, guardO_pos hrr, ek]
     have hlt : (s.recs.take s.left).length = s.left := by rw [List.length_take]; have := O.le; omega
     have hsp := strip_pruned (k := 4) (w := s.w) (lv := s.lv) (pk := pk1) (rows := s.recs.take s.left) (n := (s.recs.length : Int)) s.sn.1 s.sn.2.1 s.sn.2.2.1 s.sn.2.2.2.1 s.sn.2.2.2.2 (by rw [hlt]; have := O.le; omega)
     rw [hlt] at hsp
     have hcut : cutN 4 s.left = min 4 s.left := rfl
     rw [hcut, List.take_take, Nat.min_eq_left (Nat.sub_le _ _)] at hsp
     unfold Sh.kid
     dsimp only
     rw [h, hsp, Option.bind_some]
     dsimp only
     rw [Option.bind_some]
     have eg2 : s.give v.key v.t = { s with st := 2, left := s.left - min 4 s.left } := by rw [eg]; simp [h]
     exact last (({ s with st := 2, left := s.left - min 4 s.left } : Sh).kid pk1) rfl (hlg _ eg2.symm) (by rw [eg2])
end
theorem add_keeps (v : Va) (d : ByteArray) : (doAdd v d).2.log = v.log ∧ (doAdd v d).2.t = v.t ∧ (doAdd v d).2.W = v.W ∧ (doAdd v d).2.T = v.T ∧ (doAdd v d).2.key = v.key := by
 unfold doAdd
 split
 ·split
  ·exact ⟨rfl, rfl, rfl, rfl, rfl⟩
  ·split <;> exact ⟨rfl, rfl, rfl, rfl, rfl⟩
 ·split
  ·split
   ·exact ⟨rfl, rfl, rfl, rfl, rfl⟩
   ·split <;> exact ⟨rfl, rfl, rfl, rfl, rfl⟩
  ·exact ⟨rfl, rfl, rfl, rfl, rfl⟩
theorem compact_keeps (v : Va) : (doCompact v).2.log = v.log ∧ (doCompact v).2.t = v.t ∧ (doCompact v).2.W = v.W ∧ (doCompact v).2.T = v.T ∧ (doCompact v).2.key = v.key := by
 unfold doCompact
 split
 ·exact ⟨rfl, rfl, rfl, rfl, rfl⟩
 ·split <;> exact ⟨rfl, rfl, rfl, rfl, rfl⟩
theorem tick_keeps (v : Va) (a : Int) : (doTick v a).2.W = v.W ∧ (doTick v a).2.T = v.T ∧ (doTick v a).2.key = v.key := by
 unfold doTick
 split
 ·exact ⟨rfl, rfl, rfl⟩
 ·unfold closeLast
  split
  ·split <;> exact ⟨rfl, rfl, rfl⟩
  ·exact ⟨rfl, rfl, rfl⟩
theorem vdo_keeps (v : Va) (q : Ask) : (vdo v q).2.W = v.W ∧ (vdo v q).2.T = v.T ∧ (vdo v q).2.key = v.key := by
 unfold vdo
 split
 ·exact ⟨(add_keeps v _).2.2.1, (add_keeps v _).2.2.2.1, (add_keeps v _).2.2.2.2⟩
 repeat' (split; exact ⟨rfl, rfl, rfl⟩)
 split
 ·exact tick_keeps v _
 split
 ·exact ⟨(compact_keeps v).2.2.1, (compact_keeps v).2.2.2.1, (compact_keeps v).2.2.2.2⟩
 repeat' (split; exact ⟨rfl, rfl, rfl⟩)
 exact ⟨rfl, rfl, rfl⟩
section
variable {v : Va} {N : Nat} {xs : List KT} {lv : List Vh} {n : Int} {pk : List Vh}
theorem pdo_any (I : VI v N) (hN : N ≤ 500) (R : PR v xs lv n pk) (q : Ask) (hN1 : q.op = 1 → N ≤ 59) :
 ∃ xs' lv' n' pk', vault_Vault_Do 1000 (q.op, q.a, q.b, q.c, q.data, v.W, v.T, mkB v.key, v.t, vgl_sha_keys, xs, v.log, lv, n, pk) =
  some ((vdo v q).1.tup (v.W, v.T, mkB v.key, (vdo v q).2.t, n', (vdo v q).1.path, (vdo v q).1.cp, (vdo v q).1.cs, xs', (vdo v q).2.log, lv', pk')) ∧ PR (vdo v q).2 xs' lv' n' pk' := by
 obtain ⟨op, a, b, c, d⟩ := q
 unfold vault_Vault_Do vdo
 dsimp only
 by_cases h1 : op = 1
 ·rw [ieq_t h1, condO_true, Option.bind_some, if_pos h1, caseS_inl]
  obtain ⟨xs', q1, q2⟩ := padd_ok I (hN1 h1) R op a b c d
  obtain ⟨k1, k2, _⟩ := add_keeps v d
  refine ⟨xs', lv, n, pk, bind_of q1 (by rw [k1, k2]; rfl), ⟨q2, by rw [k1]; exact R.inv⟩⟩
 rw [ieq_f h1, condO_false, if_neg h1]
 by_cases h2 : op = 2
 ·rw [ieq_t h2, condO_true, Option.bind_some, if_pos h2, caseS_inr, caseS_inl]
  exact ⟨xs, lv, n, pk, bind_of (pread_ok I R op a b c d) rfl, R⟩
 rw [ieq_f h2, condO_false, if_neg h2]
 by_cases h3 : op = 3
 ·rw [ieq_t h3, condO_true, Option.bind_some, if_pos h3, caseS_inr, caseS_inr, caseS_inl]
  exact ⟨xs, lv, n, pk, bind_of (pprove_ok I (by omega) R op a b c d) rfl, R⟩
 rw [ieq_f h3, condO_false, if_neg h3]
 by_cases h4 : op = 4
 ·rw [ieq_t h4, condO_true, Option.bind_some, if_pos h4, caseS_inr, caseS_inr, caseS_inr, caseS_inl]
  exact ⟨xs, lv, n, pk, bind_of (phd_ok I R op a b c d) rfl, R⟩
 rw [ieq_f h4, condO_false, if_neg h4]
 by_cases h5 : op = 5
 ·rw [ieq_t h5, condO_true, Option.bind_some, if_pos h5, caseS_inr, caseS_inr, caseS_inr, caseS_inr, caseS_inl]
  obtain ⟨xs', lv', n', pk', q1, q2⟩ := ptick_ok I (by omega) R op a b c d
  exact ⟨xs', lv', n', pk', bind_of q1 rfl, q2⟩
 rw [ieq_f h5, condO_false, if_neg h5]
 by_cases h6 : op = 6
 ·rw [ieq_t h6, condO_true, Option.bind_some, if_pos h6, caseS_inr, caseS_inr, caseS_inr, caseS_inr, caseS_inr, caseS_inl]
  obtain ⟨xs', q1, q2⟩ := pcompact_ok I (by omega) R op a b c d
  obtain ⟨k1, k2, _⟩ := compact_keeps v
  refine ⟨xs', lv, n, pk, bind_of q1 (by rw [k1, k2]; rfl), ⟨q2, by rw [k1]; exact R.inv⟩⟩
 rw [ieq_f h6, condO_false, if_neg h6]
 by_cases h7 : op = 7
 ·rw [ieq_t h7, condO_true, Option.bind_some, if_pos h7, caseS_inr, caseS_inr, caseS_inr, caseS_inr, caseS_inr, caseS_inr, caseS_inl]
  exact ⟨xs, lv, n, pk, bind_of (pcite_ok I (by omega) R op a b c d) rfl, R⟩
 rw [ieq_f h7, condO_false, if_neg h7]
 by_cases h8 : op = 8
 ·rw [ieq_t h8, condO_true, Option.bind_some, if_pos h8, caseS_inr, caseS_inr, caseS_inr, caseS_inr, caseS_inr, caseS_inr, caseS_inr, caseS_inl]
  exact ⟨xs, lv, n, pk, bind_of (plk_ok I R op a b c d) rfl, R⟩
 rw [ieq_f h8, condO_false, if_neg h8, Option.bind_some, caseS_inr, caseS_inr, caseS_inr, caseS_inr, caseS_inr, caseS_inr, caseS_inr, caseS_inr]
 exact ⟨xs, lv, n, pk, rfl, R⟩
theorem pdo_ok (I : VI v N) (hN : N ≤ 59) (R : PR v xs lv n pk) (q : Ask) :
 ∃ xs' lv' n' pk', vault_Vault_Do 1000 (q.op, q.a, q.b, q.c, q.data, v.W, v.T, mkB v.key, v.t, vgl_sha_keys, xs, v.log, lv, n, pk) =
  some ((vdo v q).1.tup (v.W, v.T, mkB v.key, (vdo v q).2.t, n', (vdo v q).1.path, (vdo v q).1.cp, (vdo v q).1.cs, xs', (vdo v q).2.log, lv', pk')) ∧ PR (vdo v q).2 xs' lv' n' pk' :=
 pdo_any I (by omega) R q fun _ => hN
end
theorem filter_set {α β : Type} (p : α → Bool) (f : α → β) : ∀ (l : List α) (i : Nat) (s s' : α), l[i]? = some s → p s' = p s → (p s = true → f s' = f s) → ((l.set i s').filter p).map f = (l.filter p).map f
 | [], i, s, s', h, _, _ => by simp at h
 | x :: l, 0, s, s', h, h1, h2 => by
   simp only [List.getElem?_cons_zero, Option.some.injEq] at h
   subst h
   simp only [List.set_cons_zero, List.filter_cons, h1]
   split
   ·rename_i hp; simp [h2 hp]
   ·rfl
 | x :: l, i + 1, s, s', h, h1, h2 => by
   have := filter_set p f l i s s' (by simpa using h) h1 h2
   simp only [List.set_cons_succ, List.filter_cons]
   split
   ·simp [this]
   ·exact this
theorem not_closed {w W t : Int} (hW : 1 ≤ W) (ht : 0 ≤ t) (ht1 : t ≤ 1125899906842624) (h : closedW w W t = false) : t / W ≤ w := by
 have key : t < (w + 1) * W := by
  unfold closedW endW at h
  split at h
  ·simp at h; omega
  ·rename_i hn
   omega
 have := Int.ediv_lt_of_lt_mul (by omega) key
 omega
theorem is_closed {w W t : Int} (hW : 1 ≤ W) (h : closedW w W t = true) : w < t / W := by
 unfold closedW endW at h
 split at h
 ·simp at h
  have h2 : w + 1 ≤ t / W := (Int.le_ediv_iff_mul_le (by omega)).2 (by omega)
  omega
 ·simp at h
theorem closed_mono {w W t t' : Int} (h : closedW w W t = true) (ht : t ≤ t') : closedW w W t' = true := by
 unfold closedW at h ⊢
 simp only [Bool.and_eq_true, decide_eq_true_eq] at h ⊢
 exact ⟨h.1, by omega⟩
theorem exp_mono {w W T t t' : Int} (h : expW w W T t = true) (ht : t ≤ t') : expW w W T t' = true := by
 unfold expW at h ⊢
 simp only [Bool.and_eq_true, decide_eq_true_eq] at h ⊢
 exact ⟨h.1, by omega⟩
theorem exp_closed {w W T t : Int} (hT : 0 ≤ T) (h : expW w W T t = true) : closedW w W t = true := by
 unfold expW dueW at h
 unfold closedW
 simp only [Bool.and_eq_true, decide_eq_true_eq] at h ⊢
 split at h
 ·rename_i hc
  exact ⟨hc.1, by have := h.2; simp only at this; omega⟩
 ·exact absurd h.1 (by decide)
theorem ShOk.later {v v' : Va} {s : Sh} (O : ShOk v s) (hW : v'.W = v.W) (hT : v'.T = v.T) (hk : v'.key = v.key) (ht : v.t ≤ v'.t) (hW0 : 1 ≤ v.W) (hop : s.st = 0 → closedW s.w v.W v'.t = false) : ShOk v' s := by
 refine ⟨O.w0, ?_, O.st, O.le, O.full, O.may, O.some1, O.ix, fun h => ?_, fun h => by rw [hW]; exact hop h, fun h => ?_⟩
 ·rw [hW]
  exact Int.le_trans O.w1 (Int.ediv_le_ediv (by omega) ht)
 ·rw [hW]; exact closed_mono (O.cl h) ht
 ·obtain ⟨h1, t, h2, h3, h4⟩ := O.stn h
  exact ⟨by rw [hW, hT]; exact exp_mono h1 ht, t, h2, by omega, by rw [hk]; exact h4⟩
section
variable {v : Va} {N : Nat}
theorem VI.more (I : VI v N) {M : Nat} (h : N ≤ M) : VI v M := ⟨I.W0, I.W1, I.T0, I.T1, I.key, I.t0, I.t1, I.few, I.asc, I.ok, I.last, I.log, fun s hs => Nat.le_trans (I.sz s hs) h⟩
theorem VI.set (I : VI v N) {i : Nat} {s s' : Sh} {M : Nat} (hi : v.shs[i]? = some s) (hw : s'.w = s.w) (ho : ShOk v s') (hz : (s'.st = 0) ↔ (s.st = 0)) (hf : s.st ≠ 0 → s'.fz = s.fz) (hM : N ≤ M) (hl : s'.recs.length ≤ M) : VI { v with shs := v.shs.set i s' } M := by
 have get : ∀ {j : Nat} {a : Sh}, (v.shs.set i s')[j]? = some a → (j = i ∧ a = s') ∨ (j ≠ i ∧ v.shs[j]? = some a) := fun {j a} h => by
  rw [List.getElem?_set] at h
  by_cases e : i = j
  ·subst e
   rw [if_pos rfl] at h
   split at h
   ·cases h; exact .inl ⟨rfl, rfl⟩
   ·cases h
  ·rw [if_neg e] at h; exact .inr ⟨fun h => e h.symm, h⟩
 have wOf : ∀ {j : Nat} {a : Sh}, (v.shs.set i s')[j]? = some a → ∃ a0, v.shs[j]? = some a0 ∧ a0.w = a.w := fun {j a} h => by
  rcases get h with ⟨rfl, rfl⟩ | ⟨_, h⟩
  ·exact ⟨s, hi, hw.symm⟩
  ·exact ⟨a, h, rfl⟩
 refine ⟨I.W0, I.W1, I.T0, I.T1, I.key, I.t0, I.t1, by simpa using I.few, fun j k a b hjk ha hb => ?_, fun u hu => ?_, fun j u hj h0 => ?_, ?_, fun u hu => ?_⟩
 ·obtain ⟨a0, h1, h2⟩ := wOf ha
  obtain ⟨b0, h3, h4⟩ := wOf hb
  have := I.asc j k a0 b0 hjk h1 h3
  omega
 ·obtain ⟨j, hj⟩ := List.mem_iff_getElem?.1 hu
  rcases get hj with ⟨_, rfl⟩ | ⟨_, h⟩
  ·exact ⟨ho.w0, ho.w1, ho.st, ho.le, ho.full, ho.may, ho.some1, ho.ix, ho.cl, ho.op, ho.stn⟩
  ·have := I.ok u (List.mem_of_getElem? h)
   exact ⟨this.w0, this.w1, this.st, this.le, this.full, this.may, this.some1, this.ix, this.cl, this.op, this.stn⟩
 ·show j + 1 = (v.shs.set i s').length
  rw [List.length_set]
  rcases get hj with ⟨rfl, rfl⟩ | ⟨_, h⟩
  ·exact I.last _ s hi (hz.1 h0)
  ·exact I.last j u h h0
 ·show v.log = _
  rw [I.log]
  refine (filter_set _ _ _ _ s s' hi ?_ ?_).symm
  ·by_cases h : s.st = 0
   ·have := hz.2 h; simp [h, this]
   ·have := mt hz.1 h; simp [h, this]
  ·intro h; exact hf (by simpa using h)
 ·obtain ⟨j, hj⟩ := List.mem_iff_getElem?.1 hu
  rcases get hj with ⟨_, rfl⟩ | ⟨_, h⟩
  ·exact hl
  ·exact Nat.le_trans (I.sz u (List.mem_of_getElem? h)) hM
theorem shput_ok {s : Sh} (I : VI v N) (O : ShOk v s) (h0 : s.st = 0) {d : ByteArray} (hd : d.size ≤ 2000) (hl : s.recs.length ≤ 3999) : ShOk v (s.put v.t d) := by
 refine ⟨O.w0, O.w1, O.st, by simp [Sh.put], fun _ => by simp [Sh.put], fun r hr => ?_, by simp [Sh.put], fun i r hr => ?_, fun h => absurd h0 h, O.op, fun h => by have : s.st = 2 := h; omega⟩
 ·rcases List.mem_append.1 hr with hr | hr
  ·exact O.may r hr
  ·rw [List.mem_singleton] at hr
   subst hr
   exact ⟨⟨O.w0, w_may I O⟩, ⟨I.t0, I.t1⟩, ⟨(show (0 : Int) ≤ (s.recs.length : Int) by omega), (show (s.recs.length : Int) ≤ 3999 by omega)⟩, hd⟩
 ·rcases Nat.lt_or_ge i s.recs.length with h | h
  ·have hr' : s.recs[i]? = some r := by
    have : (s.recs ++ [(s.w, (s.recs.length : Int), v.t, d)])[i]? = some r := hr
    rwa [List.getElem?_append_left h] at this
   exact O.ix i r hr'
  ·have hr' : (s.recs ++ [(s.w, (s.recs.length : Int), v.t, d)])[i]? = some r := hr
   rw [List.getElem?_append_right h] at hr'
   have hi : i = s.recs.length := by
    have := (List.getElem?_eq_some_iff.1 hr').1
    simp at this; omega
   subst hi
   simp at hr'
   subst hr'
   exact ⟨rfl, rfl⟩
theorem new_ok (I : VI v N) {d : ByteArray} (hd : d.size ≤ 2000) (hc : closedW (v.t / v.W) v.W v.t = false) : ShOk v ((newSh (v.t / v.W)).put v.t d) := by
 obtain ⟨tw0, tw1⟩ := tw_may I
 refine ⟨tw0, Int.le_refl _, .inl rfl, by simp [Sh.put, newSh], fun _ => by simp [Sh.put, newSh], fun r hr => ?_, by simp [Sh.put, newSh], fun i r hr => ?_, fun h => absurd rfl h, fun _ => hc, fun h => by have : (0 : Int) = 2 := h; omega⟩
 ·have : r = (v.t / v.W, 0, v.t, d) := by simpa [Sh.put, newSh] using hr
  subst this
  exact ⟨⟨tw0, tw1⟩, ⟨I.t0, I.t1⟩, ⟨Int.le_refl 0, show (0 : Int) ≤ 3999 by decide⟩, hd⟩
 ·have h1 : ([(v.t / v.W, (0 : Int), v.t, d)] : List Rec)[i]? = some r := by simpa [Sh.put, newSh] using hr
  have hi : i = 0 := by
   have := (List.getElem?_eq_some_iff.1 h1).1
   simp at this; omega
  subst hi
  simp at h1
  subst h1
  exact ⟨rfl, rfl⟩
theorem here_open (I : VI v N) : closedW (v.t / v.W) v.W v.t = false := by
 cases h : closedW (v.t / v.W) v.W v.t with
 | false => rfl
 | true => have := is_closed I.W0 h; omega
theorem add_VI (I : VI v N) (hN : N ≤ 3000) (d : ByteArray) : VI (doAdd v d).2 (N + 1) := by
 unfold doAdd
 have stay : VI v (N + 1) := I.more (by omega)
 split
 ·rename_i hf
  split
  ·exact stay
  ·rename_i h14
   split
   ·exact stay
   ·rename_i hd
    have hop := here_open I
    have O := new_ok I (d := d) (by omega) hop
    have lt : ∀ s ∈ v.shs, s.w < v.t / v.W := fun s hs => by
     have h1 := (I.ok s hs).w1
     have h2 := fnd_none hf s hs
     omega
    have noopen : ∀ s ∈ v.shs, s.st ≠ 0 := fun s hs h0 => by
     have h1 := not_closed I.W0 I.t0 I.t1 ((I.ok s hs).op h0)
     have := lt s hs
     omega
    have get : ∀ {j : Nat} {a : Sh}, (v.shs ++ [(newSh (v.t / v.W)).put v.t d])[j]? = some a → (j < v.shs.length ∧ v.shs[j]? = some a) ∨ (j = v.shs.length ∧ a = (newSh (v.t / v.W)).put v.t d) := fun {j a} h => by
     rcases Nat.lt_or_ge j v.shs.length with hl | hl
     ·rw [List.getElem?_append_left hl] at h; exact .inl ⟨hl, h⟩
     ·rw [List.getElem?_append_right hl] at h
      have hj : j = v.shs.length := by
       have := (List.getElem?_eq_some_iff.1 h).1
       simp at this; omega
      subst hj
      simp at h
      exact .inr ⟨rfl, h.symm⟩
    refine ⟨I.W0, I.W1, I.T0, I.T1, I.key, I.t0, I.t1, by simp; omega, fun j k a b hjk ha hb => ?_, fun u hu => ?_, fun j u hj h0 => ?_, ?_, fun u hu => ?_⟩
    ·rcases get ha with ⟨h1, h2⟩ | ⟨h1, h2⟩
     ·rcases get hb with ⟨h3, h4⟩ | ⟨h3, h4⟩
      ·exact I.asc j k a b hjk h2 h4
      ·subst h4; exact lt a (List.mem_of_getElem? h2)
     ·rcases get hb with ⟨h3, h4⟩ | ⟨h3, h4⟩ <;> omega
    ·rcases List.mem_append.1 hu with hu | hu
     ·have := I.ok u hu
      exact ⟨this.w0, this.w1, this.st, this.le, this.full, this.may, this.some1, this.ix, this.cl, this.op, this.stn⟩
     ·rw [List.mem_singleton] at hu
      subst hu
      exact ⟨O.w0, O.w1, O.st, O.le, O.full, O.may, O.some1, O.ix, O.cl, O.op, O.stn⟩
    ·show j + 1 = (v.shs ++ [(newSh (v.t / v.W)).put v.t d]).length
     rcases get hj with ⟨h1, h2⟩ | ⟨h1, h2⟩
     ·exact absurd h0 (noopen u (List.mem_of_getElem? h2))
     ·simp [h1]
    ·show v.log = _
     rw [I.log, List.filter_append, List.map_append]
     simp [Sh.put, newSh]
    ·rcases List.mem_append.1 hu with hu | hu
     ·exact Nat.le_trans (I.sz u hu) (by omega)
     ·rw [List.mem_singleton] at hu
      subst hu
      simp [Sh.put, newSh]
 ·rename_i i hf
  split
  ·rename_i s hs
   split
   ·exact stay
   ·rename_i h0
    have h0 : s.st = 0 := Classical.byContradiction h0
    split
    ·exact stay
    ·rename_i hd
     have hmem := List.mem_of_getElem? hs
     have hsz := I.sz s hmem
     exact I.set hs rfl (shput_ok I (I.ok s hmem) h0 (by omega) (by omega)) Iff.rfl (fun h => absurd h0 h) (by omega) (by simp [Sh.put]; omega)
  ·exact stay
theorem compact_VI (I : VI v N) : VI (doCompact v).2 N := by
 unfold doCompact
 split
 ·exact I
 ·rename_i m hm
  split
  ·rename_i s hs
   have hmem := List.mem_of_getElem? hs
   have O := I.ok s hmem
   have hold : old v s = true := by
    obtain ⟨h1, h2, _⟩ := List.findIdx?_eq_some_iff_getElem.1 hm
    rw [List.getElem?_eq_getElem h1] at hs
    cases hs
    exact h2
   have hexp : expW s.w v.W v.T v.t = true := by
    unfold old at hold
    simp only [Bool.and_eq_true] at hold
    exact hold.1
   have hn0 : s.st ≠ 0 := fun h => by
    have := O.op h
    rw [exp_closed I.T0 hexp] at this
    cases this
   obtain ⟨g1, g2, g3⟩ := give_left s v.key v.t O.le
   have glv : (s.give v.key v.t).lv = s.lv := by unfold Sh.lv; rw [g2]
   have gst : (s.give v.key v.t).st = 2 := by
    unfold Sh.give
    split
    ·rfl
    ·split
     ·rename_i h; exact h
     ·rcases O.st with h | h | h <;> omega
   refine I.set hs g3 ⟨by rw [g3]; exact O.w0, by rw [g3]; exact O.w1, .inr (.inr gst), g1, fun h => absurd gst h, by rw [g2]; exact O.may, by rw [g2]; exact O.some1, by rw [g2, g3]; exact O.ix, fun _ => by rw [g3]; exact O.cl hn0, fun h => by rw [gst] at h; exact absurd h (by decide), fun _ => ?_⟩ ⟨fun h => by rw [gst] at h; exact absurd h (by decide), fun h => absurd h hn0⟩ (fun _ => by unfold Sh.fz; rw [g3, g2, glv]) (Nat.le_refl _) (by rw [g2]; exact I.sz s hmem)
   rw [g3]
   refine ⟨hexp, ?_⟩
   by_cases h1 : s.st = 1
   ·refine ⟨v.t, I.t0, Int.le_refl _, ?_⟩
    rw [g2, glv]
    unfold Sh.give
    rw [if_pos h1]
   ·have h2 : s.st = 2 := by rcases O.st with h | h | h <;> omega
    obtain ⟨_, t, k1, k2, k3⟩ := O.stn h2
    refine ⟨t, k1, k2, ?_⟩
    rw [g2, glv]
    unfold Sh.give
    rw [if_neg h1, if_pos h2]
    exact k3
  ·exact I
theorem tick_VI (I : VI v N) (a : Int) : VI (doTick v a).2 N := by
 unfold doTick
 by_cases he : (tickW v.t a).2 ≠ 0
 ·rw [if_pos he]; exact I
 rw [if_neg he]
 have htw : tickW v.t a = (a, 0) ∧ okT a = true ∧ v.t ≤ a := by
  unfold tickW at he ⊢
  split at he
  ·rename_i h; rw [if_pos h]; exact ⟨rfl, h⟩
  ·exact absurd (show (21 : Int) ≠ 0 by decide) he
 obtain ⟨e1, hok, hle⟩ := htw
 obtain ⟨a0, a1⟩ := okT_iff.1 hok
 rw [e1]
 dsimp only
 have base : (∀ s ∈ v.shs, s.st = 0 → closedW s.w v.W a = false) → VI { v with t := a } N := fun hop =>
  ⟨I.W0, I.W1, I.T0, I.T1, I.key, a0, a1, I.few, I.asc, fun s hs => (I.ok s hs).later rfl rfl rfl hle I.W0 (hop s hs), I.last, I.log, I.sz⟩
 unfold closeLast
 dsimp only
 cases hl : v.shs.getLast? with
 | none =>
   have : v.shs = [] := by simpa using hl
   exact base (fun s hs => by rw [this] at hs; cases hs)
 | some s =>
   dsimp only
   rw [List.getLast?_eq_getElem?] at hl
   have hlen := (List.getElem?_eq_some_iff.1 hl).1
   have onlyLast : ∀ u ∈ v.shs, u.st = 0 → u = s := fun u hu h0 => by
    obtain ⟨j, hj⟩ := List.mem_iff_getElem?.1 hu
    have := I.last j u hj h0
    have e : j = v.shs.length - 1 := by omega
    rw [e, hl] at hj
    cases hj; rfl
   by_cases hc : s.st = 0 ∧ closedW s.w v.W a = true
   ·rw [if_pos hc]
    have hmem := List.mem_of_getElem? hl
    have O := I.ok s hmem
    -- a list whose last one is another one
    obtain ⟨l, hlq⟩ : ∃ l, v.shs = l ++ [s] := by
     refine ⟨v.shs.take (v.shs.length - 1), ?_⟩
     have h1 := List.drop_eq_getElem_cons hlen
     have h2 : v.shs.drop (v.shs.length - 1 + 1) = [] := List.drop_eq_nil_of_le (by omega)
     rw [h2] at h1
     rw [List.getElem?_eq_getElem hlen] at hl
     cases hl
     rw [← h1, List.take_append_drop]
    have hset : v.shs.set (v.shs.length - 1) { s with st := 1 } = l ++ [{ s with st := 1 }] := by
     rw [hlq]
     simp
    have lno : ∀ u ∈ l, u.st ≠ 0 := fun u hu h0 => by
     obtain ⟨j, hj⟩ := List.mem_iff_getElem?.1 hu
     have hjl := (List.getElem?_eq_some_iff.1 hj).1
     have hj2 : v.shs[j]? = some u := by rw [hlq, List.getElem?_append_left hjl]; exact hj
     have := I.last j u hj2 h0
     rw [hlq] at this
     simp at this
     omega
    have get : ∀ {j : Nat} {b : Sh}, (l ++ [({ s with st := 1 } : Sh)])[j]? = some b → ∃ b0, v.shs[j]? = some b0 ∧ b0.w = b.w ∧ b0.recs = b.recs := fun {j b} h => by
     rcases Nat.lt_or_ge j l.length with h1 | h1
     ·rw [List.getElem?_append_left h1] at h
      exact ⟨b, by rw [hlq, List.getElem?_append_left h1]; exact h, rfl, rfl⟩
     ·rw [List.getElem?_append_right h1] at h
      have hj : j = l.length := by
       have := (List.getElem?_eq_some_iff.1 h).1
       simp at this; omega
      subst hj
      simp at h
      subst h
      exact ⟨s, by rw [hlq]; simp, rfl, rfl⟩
    rw [hset]
    refine ⟨I.W0, I.W1, I.T0, I.T1, I.key, a0, a1, ?_, fun j k x y hjk hx hy => ?_, fun u hu => ?_, fun j u hj h0 => ?_, ?_, fun u hu => ?_⟩
    ·have := I.few; rw [hlq] at this; simpa using this
    ·obtain ⟨x0, h1, h2, _⟩ := get hx
     obtain ⟨y0, h3, h4, _⟩ := get hy
     have := I.asc j k x0 y0 hjk h1 h3
     omega
    ·rcases List.mem_append.1 hu with hu | hu
     ·exact (I.ok u (by rw [hlq]; exact List.mem_append_left _ hu)).later rfl rfl rfl hle I.W0 (fun h => absurd h (lno u hu))
     ·rw [List.mem_singleton] at hu
      subst hu
      refine ⟨O.w0, ?_, .inr (.inl rfl), O.le, fun _ => O.full (by omega), O.may, O.some1, O.ix, fun _ => hc.2, fun h => by have : (1 : Int) = 0 := h; omega, fun h => by have : (1 : Int) = 2 := h; omega⟩
      exact Int.le_trans O.w1 (Int.ediv_le_ediv (by have := I.W0; omega) hle)
    ·rcases List.mem_append.1 (List.mem_of_getElem? hj) with hu | hu
     ·exact absurd h0 (lno u hu)
     ·rw [List.mem_singleton] at hu
      subst hu
      have : (1 : Int) = 0 := h0
      omega
    ·show v.log ++ [s.fz] = _
     rw [I.log, hlq, List.filter_append, List.filter_append, List.map_append, List.map_append]
     have h1 : ([s].filter fun s => decide (s.st ≠ 0)) = [] := by simp [hc.1]
     have h2 : ([({ s with st := 1 } : Sh)].filter fun s => decide (s.st ≠ 0)) = [({ s with st := 1 } : Sh)] := by simp
     rw [h1, h2]
     simp [Sh.fz, Sh.lv]
    ·obtain ⟨j, hj⟩ := List.mem_iff_getElem?.1 hu
     obtain ⟨b0, h1, _, h3⟩ := get hj
     rw [← h3]
     exact I.sz b0 (List.mem_of_getElem? h1)
   ·rw [if_neg hc]
    refine base (fun u hu h0 => ?_)
    have := onlyLast u hu h0
    subst this
    cases h : closedW u.w v.W a with
    | false => rfl
    | true => exact absurd ⟨h0, h⟩ hc
theorem vdo_VI (I : VI v N) (hN : N ≤ 3000) (q : Ask) : VI (vdo v q).2 (N + 1) := by
 have stay : VI v (N + 1) := I.more (by omega)
 unfold vdo
 split
 ·exact add_VI I hN _
 repeat' (split; exact stay)
 split
 ·exact (tick_VI I _).more (by omega)
 split
 ·exact (compact_VI I).more (by omega)
 repeat' (split; exact stay)
 exact stay
end
structure ShLater (s s' : Sh) : Prop where
 w : s'.w = s.w
 recs : ∃ r, s'.recs = s.recs ++ r
 cl : s.st ≠ 0 → s'.recs = s.recs ∧ s'.st ≠ 0
 pr : s.st = 2 → s'.st = 2
theorem ShLater.refl (s : Sh) : ShLater s s := ⟨rfl, ⟨[], by simp⟩, fun h => ⟨rfl, h⟩, id⟩
theorem ShLater.trans {a b c : Sh} (h : ShLater a b) (k : ShLater b c) : ShLater a c := by
 obtain ⟨r, h1⟩ := h.recs
 obtain ⟨q, k1⟩ := k.recs
 refine ⟨k.w.trans h.w, ⟨r ++ q, by rw [k1, h1, List.append_assoc]⟩, fun h0 => ?_, fun h0 => k.pr (h.pr h0)⟩
 obtain ⟨a1, a2⟩ := h.cl h0
 obtain ⟨b1, b2⟩ := k.cl a2
 exact ⟨b1.trans a1, b2⟩
structure Later (v v' : Va) : Prop where
 W : v'.W = v.W
 T : v'.T = v.T
 key : v'.key = v.key
 t : v.t ≤ v'.t
 log : ∃ e, v'.log = v.log ++ e
 shs : ∀ (i : Nat) s, v.shs[i]? = some s → ∃ s', v'.shs[i]? = some s' ∧ ShLater s s'
theorem Later.refl (v : Va) : Later v v := ⟨rfl, rfl, rfl, Int.le_refl _, ⟨[], by simp⟩, fun i s h => ⟨s, h, .refl s⟩⟩
theorem Later.trans {a b c : Va} (h : Later a b) (k : Later b c) : Later a c := by
 obtain ⟨r, h1⟩ := h.log
 obtain ⟨q, k1⟩ := k.log
 refine ⟨k.W.trans h.W, k.T.trans h.T, k.key.trans h.key, Int.le_trans h.t k.t, ⟨r ++ q, by rw [k1, h1, List.append_assoc]⟩, fun i s hs => ?_⟩
 obtain ⟨s1, h2, h3⟩ := h.shs i s hs
 obtain ⟨s2, h4, h5⟩ := k.shs i s1 h2
 exact ⟨s2, h4, h3.trans h5⟩
theorem later_set {v : Va} {i : Nat} {s s' : Sh} (hi : v.shs[i]? = some s) (h : ShLater s s') : Later v { v with shs := v.shs.set i s' } := by
 refine ⟨rfl, rfl, rfl, Int.le_refl _, ⟨[], by simp⟩, fun j u hj => ?_⟩
 by_cases e : i = j
 ·subst e
  rw [hi] at hj; cases hj
  exact ⟨s', by show (v.shs.set i s')[i]? = _; rw [List.getElem?_set, if_pos rfl, if_pos (List.getElem?_eq_some_iff.1 hi).1], h⟩
 ·exact ⟨u, by show (v.shs.set i s')[j]? = _; rw [List.getElem?_set, if_neg e]; exact hj, .refl u⟩
theorem vdo_later {v : Va} {N : Nat} (I : VI v N) (q : Ask) : Later v (vdo v q).2 := by
 unfold vdo
 split
 ·unfold doAdd
  split
  ·split
   ·exact .refl v
   ·split
    ·exact .refl v
    ·refine ⟨rfl, rfl, rfl, Int.le_refl _, ⟨[], by simp⟩, fun j u hj => ⟨u, ?_, .refl u⟩⟩
     show (v.shs ++ [_])[j]? = _
     rw [List.getElem?_append_left (List.getElem?_eq_some_iff.1 hj).1]
     exact hj
  ·split
   ·rename_i s hs
    split
    ·exact .refl v
    ·rename_i h0
     have h0 : s.st = 0 := Classical.byContradiction h0
     split
     ·exact .refl v
     ·exact later_set hs ⟨rfl, ⟨_, rfl⟩, fun h => absurd h0 h, fun h => by rw [h0] at h; exact absurd h (by decide)⟩
   ·exact .refl v
 repeat' (split; exact .refl v)
 split
 ·unfold doTick
  split
  ·exact .refl v
  ·rename_i he
   have hle : v.t ≤ (tickW v.t q.a).1 := by
    unfold tickW at he ⊢
    split
    ·rename_i h; exact h.2
    ·exact Int.le_refl _
   have base : Later v { v with t := (tickW v.t q.a).1 } := ⟨rfl, rfl, rfl, hle, ⟨[], by simp⟩, fun i s h => ⟨s, h, .refl s⟩⟩
   unfold closeLast
   split
   ·rename_i s hs
    split
    ·rename_i hc
     rw [List.getLast?_eq_getElem?] at hs
     have := later_set (s' := { s with st := 1 }) hs ⟨rfl, ⟨[], by simp⟩, fun h => absurd hc.1 h, fun h => by rw [hc.1] at h; exact absurd h (by decide)⟩
     exact ⟨rfl, rfl, rfl, hle, ⟨[s.fz], rfl⟩, this.shs⟩
    ·exact base
   ·exact base
 split
 ·unfold doCompact
  split
  ·exact .refl v
  ·split
   ·rename_i m hm s hs
    have O := I.ok s (List.mem_of_getElem? hs)
    obtain ⟨g1, g2, g3⟩ := give_left s v.key v.t O.le
    refine later_set hs ⟨g3, ⟨[], by rw [g2]; simp⟩, fun h => ⟨g2, ?_⟩, fun h => ?_⟩
    ·unfold Sh.give
     split
     ·exact (by decide : (2 : Int) ≠ 0)
     ·split <;> exact h
    ·unfold Sh.give
     split
     ·rfl
     ·first | exact h | (rw [if_pos h]; exact h) | (split <;> first | exact h | rfl)
   ·exact .refl v
 repeat' (split; exact .refl v)
 exact .refl v
theorem short600 (p : ByteArray) : ∃ q, law20_short 1000 (p, 600) = some q ∧ q.size ≤ 600 := by
 unfold law20_short
 dsimp only
 by_cases c : 600 < p.size
 ·rw [igt_t (show (600 : Int) < blen p by show (600 : Int) < ((p.size : Nat) : Int); omega), condO_true, guardO_pos (show cutOk 0 600 (blen p) from ⟨by omega, by omega, by show (600 : Int) ≤ ((p.size : Nat) : Int); omega⟩)]
  refine ⟨_, rfl, ?_⟩
  unfold scut
  simp [ByteArray.size_extract]
  omega
 ·rw [igt_f (show blen p ≤ 600 by show ((p.size : Nat) : Int) ≤ 600; omega), condO_false]
  exact ⟨_, rfl, by omega⟩
theorem ask_ok (op a b c : Int) (d : ByteArray) (l : Int) (on : Bool) (t : Int) : ∃ q : Ask, law20_Step_ask 1000 (op, a, b, c, d, l, on, t) = some (q.op, q.a, q.b, q.c, q.data) := by
 obtain ⟨r, hr, hs⟩ := short600 d
 obtain ⟨m0, m1⟩ : 0 ≤ andK .i64 l 3 ∧ andK .i64 l 3 ≤ 3 := and_bound l 3 (by omega)
 unfold law20_Step_ask
 dsimp only
 rw [hr, Option.bind_some]
 obtain ⟨y, hy, z, hz⟩ : ∃ y, (loopK (H := Int × Int × Int × Int × Int × ByteArray) (E := Int × Int × Int × Int × ByteArray) 1000 (fun h1 => condO (ilt h1.1 (andK .i64 l 3)) (guardO ((catOk h1.2.2.2.2.2 r)) (some (.inl (((WK .i64 (h1.1 + 1)), h1.2.1, h1.2.2.1, h1.2.2.2.1, h1.2.2.2.2.1, (h1.2.2.2.2.2 ++ r)))))) (some (.inr ((h1.2.1, h1.2.2.1, h1.2.2.2.1, h1.2.2.2.2.1, h1.2.2.2.2.2))))) ((0, op, a, b, c, r))) = some y ∧ ∃ z, y = (op, a, b, c, z) := by
  refine loopK_inv (fun dd h => ∃ (i : Nat) (z : ByteArray), h = ((i : Int), op, a, b, c, z) ∧ i + dd = 3 ∧ z.size ≤ 600 * (i + 1)) (fun e => ∃ z, e = (op, a, b, c, z)) (fun dd h ⟨i, z, he, hi, hz⟩ => ?_) 3 _ ⟨0, r, rfl, rfl, by omega⟩ 1000 (by omega)
  subst he
  dsimp only
  by_cases c1 : (i : Int) < andK .i64 l 3
  ·left
   rw [ilt_t c1, condO_true, guardO_pos (show catOk z r by unfold catOk; omega), wk_i64 (by omega) (by omega)]
   exact ⟨_, dd - 1, rfl, by omega, i + 1, z ++ r, rfl, by omega, by rw [size_app]; omega⟩
  ·right
   rw [ilt_f (by omega), condO_false]
   exact ⟨_, rfl, z, rfl⟩
 subst hz
 refine Exists.imp (fun q (hq : _ = _) => bind_of hy hq) ?_
 dsimp only
 cases on with
 | false =>
   rw [condO_false, Option.bind_some]
   exact ⟨⟨op, a, b, c, z⟩, rfl⟩
 | true =>
   rw [condO_true]
   by_cases h5 : op = 5
   ·rw [ieq_t h5, condO_true, Option.bind_some]
    exact ⟨⟨op, _, b, c, z⟩, rfl⟩
   ·rw [ieq_f h5, condO_false, Option.bind_some]
    exact ⟨⟨op, a, b, c, z⟩, rfl⟩
theorem run_ok (l : List (T11).den) {v : Va} {N : Nat} {xs : List KT} {lv : List Vh} {n : Int} {pk : List Vh} (I : VI v N) (hN : N ≤ 30) (R : PR v xs lv n pk) :
 ∃ v' xs' lv' n' pk', loopK (H := Int × Int × Int × ByteArray × Int × Int × (List (Int × (Int × (Int × (Int × ((Vector Int 32) × (Int × ((Vector Int 32) × ((List (Vector Int 32)) × ((List (Int × (Int × (Int × ByteArray)))) × (Int × (List (Vector Int 32))))))))))))) × (List (Int × (Int × (Vector Int 32)))) × (List (Vector Int 32)) × (List (Vector Int 32))) (E := Int × Int × ByteArray × Int × Int × (List (Int × (Int × (Int × (Int × ((Vector Int 32) × (Int × ((Vector Int 32) × ((List (Vector Int 32)) × ((List (Int × (Int × (Int × ByteArray)))) × (Int × (List (Vector Int 32))))))))))))) × (List (Int × (Int × (Vector Int 32)))) × (List (Vector Int 32)) × (List (Vector Int 32))) 1000
  (fun h3 => condO (ilt h3.1 (llen l)) (condO (ilt h3.1 30) (guardO ((inR h3.1 (llen l))) ((law20_Step_ask 1000 ((at_ T11 l h3.1).1.1, (at_ T11 l h3.1).1.2.1, (at_ T11 l h3.1).1.2.2.1, (at_ T11 l h3.1).1.2.2.2.1, (at_ T11 l h3.1).1.2.2.2.2, (at_ T11 l h3.1).2.1, (at_ T11 l h3.1).2.2, h3.2.2.2.2.1)).bind fun r4 => (vault_Vault_Do 1000 (r4.1, r4.2.1, r4.2.2.1, r4.2.2.2.1, r4.2.2.2.2, h3.2.1, h3.2.2.1, h3.2.2.2.1, h3.2.2.2.2.1, vgl_sha_keys, h3.2.2.2.2.2.2.1, h3.2.2.2.2.2.2.2.1, h3.2.2.2.2.2.2.2.2.1, h3.2.2.2.2.2.1, h3.2.2.2.2.2.2.2.2.2)).bind fun r5 => some (.inl (((WK .i64 (h3.1 + 1)), r5.2.2.2.2.2.2.2.2.2.2.2.2.2.2.2.2.2.2.2.2.2.2.2.2.1, r5.2.2.2.2.2.2.2.2.2.2.2.2.2.2.2.2.2.2.2.2.2.2.2.2.2.1, r5.2.2.2.2.2.2.2.2.2.2.2.2.2.2.2.2.2.2.2.2.2.2.2.2.2.2.1, r5.2.2.2.2.2.2.2.2.2.2.2.2.2.2.2.2.2.2.2.2.2.2.2.2.2.2.2.1, r5.2.2.2.2.2.2.2.2.2.2.2.2.2.2.2.2.2.2.2.2.2.2.2.2.2.2.2.2.1, r5.2.2.2.2.2.2.2.2.2.2.2.2.2.2.2.2.2.2.2.2.2.2.2.2.2.2.2.2.2.2.2.2.1, r5.2.2.2.2.2.2.2.2.2.2.2.2.2.2.2.2.2.2.2.2.2.2.2.2.2.2.2.2.2.2.2.2.2.1, r5.2.2.2.2.2.2.2.2.2.2.2.2.2.2.2.2.2.2.2.2.2.2.2.2.2.2.2.2.2.2.2.2.2.2.1, r5.2.2.2.2.2.2.2.2.2.2.2.2.2.2.2.2.2.2.2.2.2.2.2.2.2.2.2.2.2.2.2.2.2.2.2))))) (some (.inr ((h3.2.1, h3.2.2.1, h3.2.2.2.1, h3.2.2.2.2.1, h3.2.2.2.2.2.1, h3.2.2.2.2.2.2.1, h3.2.2.2.2.2.2.2.1, h3.2.2.2.2.2.2.2.2.1, h3.2.2.2.2.2.2.2.2.2))))) (some (.inr ((h3.2.1, h3.2.2.1, h3.2.2.2.1, h3.2.2.2.2.1, h3.2.2.2.2.2.1, h3.2.2.2.2.2.2.1, h3.2.2.2.2.2.2.2.1, h3.2.2.2.2.2.2.2.2.1, h3.2.2.2.2.2.2.2.2.2)))))
  (0, v.W, v.T, mkB v.key, v.t, n, xs, v.log, lv, pk) = some (v'.W, v'.T, mkB v'.key, v'.t, n', xs', v'.log, lv', pk') ∧ VI v' (N + 30) ∧ PR v' xs' lv' n' pk' ∧ Later v v' := by
 refine Exists.elim (loopK_inv (step := (fun h3 => condO (ilt h3.1 (llen l)) (condO (ilt h3.1 30) (guardO ((inR h3.1 (llen l))) ((law20_Step_ask 1000 ((at_ T11 l h3.1).1.1, (at_ T11 l h3.1).1.2.1, (at_ T11 l h3.1).1.2.2.1, (at_ T11 l h3.1).1.2.2.2.1, (at_ T11 l h3.1).1.2.2.2.2, (at_ T11 l h3.1).2.1, (at_ T11 l h3.1).2.2, h3.2.2.2.2.1)).bind fun r4 => (vault_Vault_Do 1000 (r4.1, r4.2.1, r4.2.2.1, r4.2.2.2.1, r4.2.2.2.2, h3.2.1, h3.2.2.1, h3.2.2.2.1, h3.2.2.2.2.1, vgl_sha_keys, h3.2.2.2.2.2.2.1, h3.2.2.2.2.2.2.2.1, h3.2.2.2.2.2.2.2.2.1, h3.2.2.2.2.2.1, h3.2.2.2.2.2.2.2.2.2)).bind fun r5 => some (.inl (((WK .i64 (h3.1 + 1)), r5.2.2.2.2.2.2.2.2.2.2.2.2.2.2.2.2.2.2.2.2.2.2.2.2.1, r5.2.2.2.2.2.2.2.2.2.2.2.2.2.2.2.2.2.2.2.2.2.2.2.2.2.1, r5.2.2.2.2.2.2.2.2.2.2.2.2.2.2.2.2.2.2.2.2.2.2.2.2.2.2.1, r5.2.2.2.2.2.2.2.2.2.2.2.2.2.2.2.2.2.2.2.2.2.2.2.2.2.2.2.1, r5.2.2.2.2.2.2.2.2.2.2.2.2.2.2.2.2.2.2.2.2.2.2.2.2.2.2.2.2.1, r5.2.2.2.2.2.2.2.2.2.2.2.2.2.2.2.2.2.2.2.2.2.2.2.2.2.2.2.2.2.2.2.2.1, r5.2.2.2.2.2.2.2.2.2.2.2.2.2.2.2.2.2.2.2.2.2.2.2.2.2.2.2.2.2.2.2.2.2.1, r5.2.2.2.2.2.2.2.2.2.2.2.2.2.2.2.2.2.2.2.2.2.2.2.2.2.2.2.2.2.2.2.2.2.2.1, r5.2.2.2.2.2.2.2.2.2.2.2.2.2.2.2.2.2.2.2.2.2.2.2.2.2.2.2.2.2.2.2.2.2.2.2))))) (some (.inr ((h3.2.1, h3.2.2.1, h3.2.2.2.1, h3.2.2.2.2.1, h3.2.2.2.2.2.1, h3.2.2.2.2.2.2.1, h3.2.2.2.2.2.2.2.1, h3.2.2.2.2.2.2.2.2.1, h3.2.2.2.2.2.2.2.2.2))))) (some (.inr ((h3.2.1, h3.2.2.1, h3.2.2.2.1, h3.2.2.2.2.1, h3.2.2.2.2.2.1, h3.2.2.2.2.2.2.1, h3.2.2.2.2.2.2.2.1, h3.2.2.2.2.2.2.2.2.1, h3.2.2.2.2.2.2.2.2.2)))))) (fun dd h => ∃ (i : Nat) (v' : Va) (xs' : List KT) (lv' : List Vh) (n' : Int) (pk' : List Vh), h = ((i : Int), v'.W, v'.T, mkB v'.key, v'.t, n', xs', v'.log, lv', pk') ∧ i + dd = 30 ∧ VI v' (N + i) ∧ PR v' xs' lv' n' pk' ∧ Later v v')
  (fun e => ∃ (v' : Va) (xs' : List KT) (lv' : List Vh) (n' : Int) (pk' : List Vh), e = (v'.W, v'.T, mkB v'.key, v'.t, n', xs', v'.log, lv', pk') ∧ VI v' (N + 30) ∧ PR v' xs' lv' n' pk' ∧ Later v v') (fun dd h hh => ?_) 30 _ ⟨0, v, xs, lv, n, pk, rfl, rfl, I, R, .refl v⟩ 1000 (by omega)) (fun e hz => ?_)
 ·obtain ⟨i, v', xs', lv', n', pk', rfl, hi, I', R', L⟩ := hh
  have out : ∃ e, (some (Sum.inr (v'.W, v'.T, mkB v'.key, v'.t, n', xs', v'.log, lv', pk')) : Option ((Int × Int × Int × ByteArray × Int × Int × List KT × List Fz × List Vh × List Vh) ⊕ (Int × Int × ByteArray × Int × Int × List KT × List Fz × List Vh × List Vh))) = some (.inr e) ∧ ∃ (v' : Va) (xs' : List KT) (lv' : List Vh) (n' : Int) (pk' : List Vh), e = (v'.W, v'.T, mkB v'.key, v'.t, n', xs', v'.log, lv', pk') ∧ VI v' (N + 30) ∧ PR v' xs' lv' n' pk' ∧ Later v v' :=
   ⟨_, rfl, v', xs', lv', n', pk', rfl, I'.more (by omega), R', L⟩
  dsimp only
  by_cases c1 : (i : Int) < llen l
  ·by_cases c2 : i < 30
   ·left
    rw [ilt_t c1, condO_true, ilt_t (show (i : Int) < 30 by omega), condO_true, guardO_pos ⟨by omega, c1⟩]
    obtain ⟨o, ho⟩ : ∃ o, o = at_ T11 l (i : Int) := ⟨_, rfl⟩
    rw [← ho]
    obtain ⟨q, hq⟩ := ask_ok o.1.1 o.1.2.1 o.1.2.2.1 o.1.2.2.2.1 o.1.2.2.2.2 o.2.1 o.2.2 v'.t
    obtain ⟨xs2, lv2, n2, pk2, h1, h2⟩ := pdo_ok I' (by omega) R' q
    have hk := vdo_keeps v' q
    have I2 := vdo_VI I' (by omega) q
    rw [hq, Option.bind_some]
    dsimp only
    rw [h1, Option.bind_some, wk_i64 (by omega) (by omega)]
    refine ⟨_, dd - 1, rfl, by omega, i + 1, (vdo v' q).2, xs2, lv2, n2, pk2, ?_, by omega, I2, h2, L.trans (vdo_later I' q)⟩
    rw [hk.1, hk.2.1, hk.2.2]
    rfl
   ·right
    rw [ilt_t c1, condO_true, ilt_f (show (30 : Int) ≤ (i : Int) by omega), condO_false]
    exact out
  ·right
   rw [ilt_f (show llen l ≤ (i : Int) by omega), condO_false]
   exact out
 ·obtain ⟨he, v', xs', lv', n', pk', rfl, h1, h2, h3⟩ := hz
  exact ⟨v', xs', lv', n', pk', he, h1, h2, h3⟩
def newVa (W T : Int) (key : List UInt8) : Va := ⟨W, T, key, 0, [], []⟩
theorem new_VI {W T : Int} {key : List UInt8} (hW : 1 ≤ W) (hW1 : W ≤ 1125899906842624) (hT : 0 ≤ T) (hT1 : T ≤ 1125899906842624) (hk : key.length ≤ 64) : VI (newVa W T key) 0 :=
 ⟨hW, hW1, hT, hT1, hk, Int.le_refl _, (show (0 : Int) ≤ 1125899906842624 by decide), Nat.zero_le _, fun i j a b _ h => by simp [newVa] at h, fun s hs => by simp [newVa] at hs, fun i s h => by simp [newVa] at h, rfl, fun s hs => by simp [newVa] at hs⟩
theorem new_PR (W T : Int) (key : List UInt8) : PR (newVa W T key) [] [] 0 [] := ⟨Kids.nil, inv_nil⟩
theorem pnew_ok {W T : Int} {key : List UInt8} (hW : 1 ≤ W) (hW1 : W ≤ 1125899906842624) (hT : 0 ≤ T) (hT1 : T ≤ 1125899906842624) (hk : key.length ≤ 64) : vault_New 1000 (W, T, mkB key) = some (.inr (W, T, mkB key, 0, [], [], [], 0, [])) := by
 unfold vault_New
 dsimp only
 rw [ilt_f hW, condO_false, igt_f hW1, condO_false, ilt_f hT, condO_false, igt_f hT1, condO_false, igt_f (show blen (mkB key) ≤ 64 by rw [blen_mkB']; omega), condO_false]
abbrev kKey : List UInt8 := [107, 101, 121]
theorem play_ok (q : Vector Int 2) (l : List (T11).den) : ∃ v xs lv n pk, law20_play 1000 (q, l, vgl_sha_keys) = some (.inr (v.W, v.T, mkB v.key, v.t, xs, v.log, lv, n, pk)) ∧ VI v 30 ∧ PR v xs lv n pk ∧ Later (newVa (1 + andK .i64 (vAt 0 q 0) 63) (andK .i64 (vAt 0 q 1) 127) kKey) v := by
 obtain ⟨a0, a1⟩ : 0 ≤ andK .i64 (vAt 0 q 0) 63 ∧ andK .i64 (vAt 0 q 0) 63 ≤ 63 := and_bound (vAt 0 q 0) 63 (by omega)
 obtain ⟨b0, b1⟩ : 0 ≤ andK .i64 (vAt 0 q 1) 127 ∧ andK .i64 (vAt 0 q 1) 127 ≤ 127 := and_bound (vAt 0 q 1) 127 (by omega)
 obtain ⟨w, hw⟩ : ∃ w, w = andK .i64 (vAt 0 q 0) 63 := ⟨_, rfl⟩
 obtain ⟨T, hT⟩ : ∃ T, T = andK .i64 (vAt 0 q 1) 127 := ⟨_, rfl⟩
 rw [← hw] at a0 a1 ⊢
 rw [← hT] at b0 b1 ⊢
 have I0 : VI (newVa (1 + w) T kKey) 0 := new_VI (by omega) (by omega) (by omega) (by omega) (by decide)
 obtain ⟨v', xs', lv', n', pk', h1, h2, h3, h4⟩ := run_ok l I0 (by omega) (new_PR _ _ _)
 refine ⟨v', xs', lv', n', pk', ?_, h2, h3, h4⟩
 unfold law20_play
 dsimp only
 rw [guardO_pos ⟨by omega, by omega⟩, guardO_pos ⟨by omega, by omega⟩, ← hw, ← hT, wk_i64 (by omega) (by omega)]
 refine bind_of (pnew_ok (W := 1 + w) (T := T) (key := kKey) (by omega) (by omega) b0 (by omega) (by decide)) ?_
 rw [caseS_inr]
 dsimp only
 exact bind_of h1 rfl
theorem awake_ok : law20_awake 1000 vgl_sha_keys = some true := by
 obtain ⟨v0, e0⟩ : ∃ v, v = newVa 10 5 [107] := ⟨_, rfl⟩
 have I0 : VI v0 0 := by rw [e0]; exact new_VI (by decide) (by decide) (by decide) (by decide) (by decide)
 have R0 : PR v0 [] [] 0 [] := by rw [e0]; exact new_PR _ _ _
 obtain ⟨x1, l1, n1, p1, h1, R1⟩ := pdo_ok I0 (by decide) R0 ⟨1, 0, 0, 0, ⟨#[97]⟩⟩
 have I1 := vdo_VI I0 (by decide) ⟨1, 0, 0, 0, ⟨#[97]⟩⟩
 have k1 := vdo_keeps v0 ⟨1, 0, 0, 0, ⟨#[97]⟩⟩
 obtain ⟨a1, f1⟩ : ∃ r, r = vdo v0 ⟨1, 0, 0, 0, ⟨#[97]⟩⟩ := ⟨_, rfl⟩
 rw [← f1] at h1 R1 I1 k1
 obtain ⟨x2, l2, n2, p2, h2, R2⟩ := pdo_ok I1 (by decide) R1 ⟨5, 10, 0, 0, str0⟩
 have I2 := vdo_VI I1 (by decide) ⟨5, 10, 0, 0, str0⟩
 have k2 := vdo_keeps a1.2 ⟨5, 10, 0, 0, str0⟩
 obtain ⟨a2, f2⟩ : ∃ r, r = vdo a1.2 ⟨5, 10, 0, 0, str0⟩ := ⟨_, rfl⟩
 rw [← f2] at h2 R2 I2 k2
 obtain ⟨x3, l3, n3, p3, h3, R3⟩ := pdo_ok I2 (by decide) R2 ⟨4, 0, 0, 0, str0⟩
 have I3 := vdo_VI I2 (by decide) ⟨4, 0, 0, 0, str0⟩
 have k3 := vdo_keeps a2.2 ⟨4, 0, 0, 0, str0⟩
 obtain ⟨a3, f3⟩ : ∃ r, r = vdo a2.2 ⟨4, 0, 0, 0, str0⟩ := ⟨_, rfl⟩
 rw [← f3] at h3 R3 I3 k3
 obtain ⟨x4, l4, n4, p4, h4, R4⟩ := pdo_ok I3 (by decide) R3 ⟨5, 15, 0, 0, str0⟩
 have I4 := vdo_VI I3 (by decide) ⟨5, 15, 0, 0, str0⟩
 have k4 := vdo_keeps a3.2 ⟨5, 15, 0, 0, str0⟩
 obtain ⟨a4, f4⟩ : ∃ r, r = vdo a3.2 ⟨5, 15, 0, 0, str0⟩ := ⟨_, rfl⟩
 rw [← f4] at h4 R4 I4 k4
 obtain ⟨x5, l5, n5, p5, h5, R5⟩ := pdo_ok I4 (by decide) R4 ⟨6, 0, 0, 0, str0⟩
 have I5 := vdo_VI I4 (by decide) ⟨6, 0, 0, 0, str0⟩
 have k5 := vdo_keeps a4.2 ⟨6, 0, 0, 0, str0⟩
 obtain ⟨a5, f5⟩ : ∃ r, r = vdo a4.2 ⟨6, 0, 0, 0, str0⟩ := ⟨_, rfl⟩
 rw [← f5] at h5 R5 I5 k5
 obtain ⟨x6, l6, n6, p6, h6, R6⟩ := pdo_ok I5 (by decide) R5 ⟨2, 0, 0, 0, str0⟩
 obtain ⟨a6, f6⟩ : ∃ r, r = vdo a5.2 ⟨2, 0, 0, 0, str0⟩ := ⟨_, rfl⟩
 rw [← f6] at h6
 have g1 : a1.1.err = 0 ∧ a1.1.n = 0 ∧ a1.1.m = 0 := by rw [f1, e0]; decide
 have g2 : a2.1.err = 0 := by rw [f2, f1, e0]; decide
 have g3 : a3.1.hd.1 = 1 := by rw [f3, f2, f1, e0]; decide
 have g4 : a4.1.err = 0 := by rw [f4, f3, f2, f1, e0]; decide
 have g5 : a5.1.n = 0 ∧ a5.1.m = 1 := by rw [f5, f4, f3, f2, f1, e0]; decide
 have g6 : a6.1.err = 20 := by rw [f6, f5, f4, f3, f2, f1, e0]; decide
 have z0 : v0.W = 10 ∧ v0.T = 5 ∧ v0.key = [107] ∧ v0.t = 0 ∧ v0.log = [] := by rw [e0]; exact ⟨rfl, rfl, rfl, rfl, rfl⟩
 rw [z0.1, z0.2.1, z0.2.2.1, z0.2.2.2.1, z0.2.2.2.2] at h1
 unfold law20_awake
 refine bind_of (pnew_ok (W := 10) (T := 5) (key := [107]) (by decide) (by decide) (by decide) (by decide) (by decide)) ?_
 rw [caseS_inr]
 dsimp only
 refine bind_of h1 ?_
 dsimp only [Told.tup]
 rw [k1.1, k1.2.1, k1.2.2, z0.1, z0.2.1, z0.2.2.1] at h2
 refine bind_of h2 ?_
 dsimp only [Told.tup]
 rw [k2.1, k2.2.1, k2.2.2, k1.1, k1.2.1, k1.2.2, z0.1, z0.2.1, z0.2.2.1] at h3
 refine bind_of h3 ?_
 dsimp only [Told.tup]
 rw [k3.1, k3.2.1, k3.2.2, k2.1, k2.2.1, k2.2.2, k1.1, k1.2.1, k1.2.2, z0.1, z0.2.1, z0.2.2.1] at h4
 refine bind_of h4 ?_
 dsimp only [Told.tup]
 rw [k4.1, k4.2.1, k4.2.2, k3.1, k3.2.1, k3.2.2, k2.1, k2.2.1, k2.2.2, k1.1, k1.2.1, k1.2.2, z0.1, z0.2.1, z0.2.2.1] at h5
 refine bind_of h5 ?_
 dsimp only [Told.tup]
 rw [k5.1, k5.2.1, k5.2.2, k4.1, k4.2.1, k4.2.2, k3.1, k3.2.1, k3.2.2, k2.1, k2.2.1, k2.2.2, k1.1, k1.2.1, k1.2.2, z0.1, z0.2.1, z0.2.2.1] at h6
 refine bind_of h6 ?_
 dsimp only [Told.tup]
 rw [g1.1, g1.2.1, g1.2.2, g2, g3, g4, g5.1, g5.2, g6]
 rfl
theorem pdo2 {v : Va} {N : Nat} {xs : List KT} {lv : List Vh} {n : Int} {pk : List Vh} (I : VI v N) (hN : N ≤ 500) (R : PR v xs lv n pk) (q : Ask) (hN1 : q.op = 1 → N ≤ 59) :
 ∃ xs' lv' n' pk', vault_Vault_Do 1000 (q.op, q.a, q.b, q.c, q.data, v.W, v.T, mkB v.key, v.t, vgl_sha_keys, xs, v.log, lv, n, pk) =
  some ((vdo v q).1.tup ((vdo v q).2.W, (vdo v q).2.T, mkB (vdo v q).2.key, (vdo v q).2.t, n', (vdo v q).1.path, (vdo v q).1.cp, (vdo v q).1.cs, xs', (vdo v q).2.log, lv', pk')) ∧ PR (vdo v q).2 xs' lv' n' pk' := by
 obtain ⟨a, b, c, d, h, r⟩ := pdo_any I hN R q hN1
 obtain ⟨k1, k2, k3⟩ := vdo_keeps v q
 exact ⟨a, b, c, d, by rw [k1, k2, k3]; exact h, r⟩
theorem headL_len {n : Nat} (hn : n ≤ 4000) (r : Vh) {t : Int} (h0 : 0 ≤ t) (h1 : t ≤ 1125899906842624) : (headL n r t).length ≤ 100 := by
 have a := put_small (x := n) (by omega)
 have b := put_small (x := t.toNat) (by omega)
 have d := put_small (x := 32) (by decide)
 unfold headL
 simp only [List.length_append, vb_len, List.length_singleton]
 omega
theorem rhsays_ok {n : Nat} (hn : n ≤ 4000) (r : Vh) {t : Int} (h0 : 0 ≤ t) (h1 : t ≤ 1125899906842624) (m : Vh) : ref16_headSays 1000 ((n : Int), r, t, m) = some (mkB (headL n r t), true) := by
 have a := put_small (x := n) (by omega)
 have b := put_small (x := t.toNat) (by omega)
 have d := put_small (x := 32) (by decide)
 unfold ref16_headSays
 dsimp only
 rw [ilt_f (show (0 : Int) ≤ (n : Int) by omega), condO_false, igt_f (show (n : Int) ≤ 1099511627776 by omega), condO_false, ilt_f h0, condO_false, igt_f h1, condO_false]
 refine bind_of (rput_of (x := (n : Int)) (by omega) (by omega)) ?_
 refine (guardO_pos (cat_mkB (a := [72]) (b := putL (n : Int).toNat) (by simp; omega))).trans ?_
 rw [show (⟨#[72]⟩ : ByteArray) ++ mkB (putL (n : Int).toNat) = mkB ([72] ++ putL n) from mkB_app [72] _, vb_blen]
 refine bind_of (rput_of (x := 32) (by decide) (by decide)) ?_
 refine (guardO_pos (cat_mkB (a := putL 32) (b := vb r) (by rw [vb_len]; omega))).trans ?_
 rw [vb_str, show mkB (putL (32 : Int).toNat) ++ mkB (vb r) = mkB (putL 32 ++ vb r) from mkB_app _ _]
 refine (guardO_pos (cat_mkB (by simp [vb_len]; omega))).trans ?_
 rw [mkB_app]
 refine bind_of (rput_of h0 h1) ?_
 refine (guardO_pos (cat_mkB (by simp [vb_len]; omega))).trans ?_
 rw [mkB_app]
 rfl
theorem rhead_right {n : Nat} (hn : n ≤ 4000) (r : Vh) {t : Int} (h0 : 0 ≤ t) (h1 : t ≤ 1125899906842624) {key : List UInt8} (hk : key.length ≤ 64) : ref16_HeadRight 1000 (mkB key, (n : Int), r, t, macL key (headL n r t)) = some true := by
 have := headL_len hn r h0 h1
 unfold ref16_HeadRight
 refine bind_of (rhsays_ok hn r h0 h1 _) ?_
 refine (condO_true _ _).trans ?_
 refine bind_of (rmac_ok key _ hk (by omega)) ?_
 exact congrArg some (sameI_self _ _ _)
theorem head_right {v : Va} {N : Nat} (I : VI v N) : ref16_HeadRight 1000 (mkB v.key, (headOf v).1, (headOf v).2.1, (headOf v).2.2.1, (headOf v).2.2.2) = some true :=
 rhead_right (by have := log_len I; omega) _ I.t0 I.t1 I.key
def VaultHeadsPure : Prop := ∀ (z0 : Ty.den (.arr 2 (.int .i64))) (z1 : Ty.den (.sl 31 (.pair (.pair (.int .i64) (.pair (.int .i64) (.pair (.int .i64) (.pair (.int .i64) .str)))) (.pair (.int .i64) .bool)))) (z2 : Ty.den (.sl 31 (.pair (.pair (.int .i64) (.pair (.int .i64) (.pair (.int .i64) (.pair (.int .i64) .str)))) (.pair (.int .i64) .bool)))), wfT (.arr 2 (.int .i64)) z0 → wfT (.sl 31 (.pair (.pair (.int .i64) (.pair (.int .i64) (.pair (.int .i64) (.pair (.int .i64) .str)))) (.pair (.int .i64) .bool))) z1 → wfT (.sl 31 (.pair (.pair (.int .i64) (.pair (.int .i64) (.pair (.int .i64) (.pair (.int .i64) .str)))) (.pair (.int .i64) .bool))) z2 → ∃ k, law20_VaultHeads k (z0, z1, z2, vgl_sha_keys) = some true
theorem vaultHeads_law : VaultHeadsPure := by
 intro z0 z1 z2 _ _ _
 refine ⟨1000, ?_⟩
 obtain ⟨v, xs, lv, n, pk, h, I, R, L⟩ := play_ok z0 z1
 have hk : v.key = kKey := L.key
 obtain ⟨x1, l1, n1, p1, h1, R1⟩ := pdo2 I (by decide) R ⟨4, 0, 0, 0, str0⟩ (fun h => absurd h (by decide))
 rw [show vdo v ⟨4, 0, 0, 0, str0⟩ = (doHead v, v) from rfl] at h1 R1
 obtain ⟨v2, x2, l2, n2, p2, h2, I2, R2, L2⟩ := run_ok z2 I (by decide) R1
 have hk2 : v2.key = kKey := L2.key.trans hk
 obtain ⟨x3, l3, n3, p3, h3, R3⟩ := pdo2 I2 (by decide) R2 ⟨4, 0, 0, 0, str0⟩ (fun h => absurd h (by decide))
 rw [show vdo v2 ⟨4, 0, 0, 0, str0⟩ = (doHead v2, v2) from rfl] at h3 R3
 obtain ⟨x4, l4, n4, p4, h4, R4⟩ := pdo2 I2 (by decide) R3 ⟨8, (headOf v).1, (headOf v2).1, 0, str0⟩ (fun h => absurd h (show ¬ (8 : Int) = 1 by decide))
 rw [show vdo v2 ⟨8, (headOf v).1, (headOf v2).1, 0, str0⟩ = (doLinks v2 (headOf v).1 (headOf v2).1, v2) from rfl] at h4 R4
 unfold law20_VaultHeads
 refine bind_of awake_ok (bind_of h ?_)
 rw [caseS_inr]
 refine bind_of h1 (bind_of h2 (bind_of h3 ?_))
 refine bind_of (a := true) (by have := head_right I; rw [hk] at this; exact this) ?_
 refine bind_of (a := true) (by have := head_right I2; rw [hk2] at this; exact this) ?_
 have ll := log_len I2
 obtain ⟨e, he⟩ := L2.log
 have hlen : v.log.length ≤ v2.log.length := by rw [he, List.length_append]; omega
 have hlf : v.lfs = v2.lfs.take v.log.length := by
  unfold Va.lfs
  rw [he, List.map_append, List.take_left' (by rw [List.length_map])]
 have hl2 : v2.lfs.length = v2.log.length := by unfold Va.lfs; rw [List.length_map]
 refine (condO_false _ _).trans ((condO_false _ _).trans ?_)
 show condO (igt (headOf v).1 (headOf v2).1) _ _ = _
 rw [igt_f (show (headOf v).1 ≤ (headOf v2).1 from Int.ofNat_le.2 hlen), condO_false]
 show condO (igt (headOf v).2.2.1 (headOf v2).2.2.1) _ _ = _
 rw [igt_f (show (headOf v).2.2.1 ≤ (headOf v2).2.2.1 from L2.t), condO_false]
 refine bind_of h4 ?_
 show condO (ieq (headOf v).1 0) (condO true (some (ieq (linksOf v2.lfs (headOf v).1 (headOf v2).1).1 19)) (some false)) (condO true (condO (ieq (linksOf v2.lfs (headOf v).1 (headOf v2).1).1 0) ((ref12_Goes 1000 ((headOf v).2.1, (headOf v).1, (headOf v2).2.1, (headOf v2).1, (linksOf v2.lfs (headOf v).1 (headOf v2).1).2)).bind fun r => some r) (some false)) (some false)) = _
 by_cases c : v.log.length = 0
 ·rw [ieq_t (show (headOf v).1 = 0 by show ((v.log.length : Nat) : Int) = 0; omega), condO_true, condO_true]
  unfold linksOf
  rw [if_pos (Or.inr (Or.inr (Or.inl (show (headOf v).1 < 1 by show ((v.log.length : Nat) : Int) < 1; omega))))]
  rfl
 ·rw [ieq_f (show (headOf v).1 ≠ 0 by show ((v.log.length : Nat) : Int) ≠ 0; omega), condO_false, condO_true]
  have hlo : linksOf v2.lfs (headOf v).1 (headOf v2).1 = (0, lks v.log.length v2.lfs) := by
   unfold linksOf headOf
   dsimp only
   rw [if_neg (by omega), Int.toNat_natCast, Int.toNat_natCast, ← hl2, List.take_length]
  rw [hlo, ieq_t rfl, condO_true]
  have g := goes_ok (m := v.log.length) (l := v2.lfs) (by omega) (by omega) (by omega)
  rw [← hlf, hl2] at g
  exact bind_of g rfl
end Go.Proofs.YtlepjakmadlkjaaGreatDoor
