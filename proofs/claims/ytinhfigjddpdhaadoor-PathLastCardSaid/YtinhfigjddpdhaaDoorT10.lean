/- Texts of the proof, put together: part 10. No condition. -/
import Derived.Test.YtinhfigjddpdhaaDoorT9
/- Paths in trees: the program's is the document's. No condition. -/
set_option linter.unusedVariables false
set_option linter.unusedSimpArgs false
namespace Go.Proofs.YtinhfigjddpdhaaDoor
open Go
theorem reverse_ok (l : List Vh) (hl : l.length ≤ 900) : slices_Reverse 1000 l = some l.reverse := by
  unfold slices_Reverse
  refine loop_bind (fun d h => ∃ (t : Nat) (L : List Vh), h = ((t : Int), (l.length : Int) - 1 - (t : Int), L) ∧ d = l.length - t ∧ t ≤ l.length ∧ L.length = l.length ∧ ∀ j, j < l.length → L[j]? = if j < t ∨ l.length - t ≤ j then l[l.length - 1 - j]? else l[j]?) (fun e => e = l.reverse) l.length (by omega)
    ⟨0, l, by rw [wk_i64 (by unfold llen; omega) (by unfold llen; omega)]; unfold llen; simp, by omega, by omega, rfl, fun j hj => by rw [if_neg (by omega)]⟩ ?_ (fun e he => by rw [he])
  rintro d _ ⟨t, L, rfl, hd, ht, hL, hj⟩
  dsimp only
  by_cases a : (t : Int) < (l.length : Int) - 1 - (t : Int)
  · have e0 : (l.length : Int) - 1 - (t : Int) = ((l.length - 1 - t : Nat) : Int) := by omega
    rw [ilt_t a, condO_true, e0]
    rw [guardO_pos ⟨by omega, by unfold llen; omega⟩, guardO_pos ⟨by omega, by unfold llen; omega⟩, guardO_pos ⟨by omega, by unfold llen; omega⟩, guardO_pos ⟨by omega, by unfold llen; rw [List.length_set]; omega⟩]
    have e1 : WK .i64 ((t : Int) + 1) = ((t + 1 : Nat) : Int) := by rw [wk_i64 (by omega) (by omega)]; omega
    have e2 : WK .i64 (((l.length - 1 - t : Nat) : Int) - 1) = (l.length : Int) - 1 - ((t + 1 : Nat) : Int) := by rw [wk_i64 (by omega) (by omega)]; omega
    have e3 : at_ T3 L ((l.length - 1 - t : Nat) : Int) = L[l.length - 1 - t] := at_nat (t := T3) (by omega)
    have e4 : at_ T3 L (t : Int) = L[t] := at_nat (t := T3) (by omega)
    rw [e1, e2, e3, e4]
    unfold lset
    rw [Int.toNat_natCast, Int.toNat_natCast]
    refine .on (l.length - (t + 1)) (by omega) ⟨t + 1, _, rfl, rfl, by omega, by simp [hL], fun j hjl => ?_⟩
    have g1 := hj t (by omega)
    have g2 := hj (l.length - 1 - t) (by omega)
    rw [if_neg (by omega), List.getElem?_eq_getElem (by omega)] at g1 g2
    rw [List.getElem?_set, List.getElem?_set]
    simp only [List.length_set]
    by_cases b1 : l.length - 1 - t = j
    · rw [if_pos b1, if_pos (by omega), if_pos (by omega), g1]
      congr 1; omega
    · rw [if_neg b1]
      by_cases b2 : t = j
      · rw [if_pos b2, if_pos (by omega), if_pos (by omega), g2]
        congr 1; omega
      · rw [if_neg b2, hj j hjl]
        by_cases b3 : j < t ∨ l.length - t ≤ j
        · rw [if_pos b3, if_pos (by omega)]
        · rw [if_neg b3, if_neg (by omega)]
  · rw [ilt_f (by omega), condO_false]
    refine .out ?_
    apply List.ext_getElem?
    intro j
    by_cases b : j < l.length
    · rw [hj j b, List.getElem?_reverse b]
      split
      · rfl
      · congr 1; omega
    · rw [List.getElem?_eq_none (by omega), List.getElem?_eq_none (by simp; omega)]
theorem root40 (l : List Vh) (h : l.length ≤ 512) : leaf_Root 1000 (l, vgl_sha_keys) = some (rt 40 l) := by
  rw [root_ok (d := 9) l (by simpa using h) (by omega), rt_deep 9 l (by simpa using h) 40 (by omega)]
theorem rroot40 (l : List Vh) (h : l.length ≤ 512) : ref09_Root 1000 l = some (rt 40 l) := by
  rw [rroot_ok (d := 9) l (by simpa using h) (by omega), rt_deep 9 l (by simpa using h) 40 (by omega)]
theorem rt40_big {l : List Vh} (h1 : 2 ≤ l.length) (h : l.length ≤ 512) : rt 40 l = node (rt 40 (l.take (sp l.length))) (rt 40 (l.drop (sp l.length))) := by
  have a1 : (l.take (sp l.length)).length ≤ 2 ^ 9 := by rw [List.length_take]; omega
  have a2 : (l.drop (sp l.length)).length ≤ 2 ^ 9 := by rw [List.length_drop]; omega
  rw [rt_big (d := 39) h1, rt_deep 9 _ a1 39 (by omega), rt_deep 9 _ a2 39 (by omega), rt_deep 9 _ a1 40 (by omega), rt_deep 9 _ a2 40 (by omega)]
/-- What stands beside the way down, the last one first. -/
def pth (w : Bool) : Nat → Nat → List Vh → List Vh
  | 0, _, _ => []
  | d + 1, m, l => if l.length < 2 ∨ (w = true ∧ m = l.length) then [] else
    if m < sp l.length ∨ (w = true ∧ m = sp l.length) then pth w d m (l.take (sp l.length)) ++ [rt 40 (l.drop (sp l.length))] else pth w d (m - sp l.length) (l.drop (sp l.length)) ++ [rt 40 (l.take (sp l.length))]
theorem pth_nil {w : Bool} {m : Nat} {l : List Vh} (h : l.length < 2 ∨ (w = true ∧ m = l.length)) (d : Nat) : pth w d m l = [] := by
  cases d with
  | zero => rfl
  | succ d => rw [pth, if_pos h]
theorem pth_left {w : Bool} {d m : Nat} {l : List Vh} (a : ¬ (l.length < 2 ∨ (w = true ∧ m = l.length))) (b : m < sp l.length ∨ (w = true ∧ m = sp l.length)) : pth w (d + 1) m l = pth w d m (l.take (sp l.length)) ++ [rt 40 (l.drop (sp l.length))] := by
  rw [pth, if_neg a, if_pos b]
theorem pth_right {w : Bool} {d m : Nat} {l : List Vh} (a : ¬ (l.length < 2 ∨ (w = true ∧ m = l.length))) (b : ¬ (m < sp l.length ∨ (w = true ∧ m = sp l.length))) : pth w (d + 1) m l = pth w d (m - sp l.length) (l.drop (sp l.length)) ++ [rt 40 (l.take (sp l.length))] := by
  rw [pth, if_neg a, if_neg b]
theorem len_take (l : List Vh) (h : 2 ≤ l.length) : (l.take (sp l.length)).length = sp l.length := by
  have := sp_spec h
  rw [List.length_take]; omega
theorem pth_len (w : Bool) : ∀ d m (l : List Vh), (pth w d m l).length = (stp w d m l.length).length
  | 0, _, _ => rfl
  | d + 1, m, l => by
    by_cases a : l.length < 2 ∨ (w = true ∧ m = l.length)
    · rw [pth_nil a, stp_nil a]; rfl
    · by_cases b : m < sp l.length ∨ (w = true ∧ m = sp l.length)
      · rw [pth_left a b, stp_left a b, List.length_append, pth_len w d, len_take l (by omega)]; rfl
      · rw [pth_right a b, stp_right a b, List.length_append, pth_len w d, List.length_drop]; rfl
theorem beside_ok (w : Bool) (m : Nat) (l : List Vh) (hl : l.length ≤ 512) : path_beside 1000 (l, (stp w 40 m l.length).map cst3, vgl_sha_keys) = some (pth w 40 m l) := by
  obtain ⟨S, hS⟩ : ∃ S, S = (stp w 40 m l.length).map cst3 := ⟨_, rfl⟩
  have hSl : S.length ≤ 40 := by rw [hS, List.length_map]; exact stp_len ..
  have hP := pth_len w 40 m l
  have hP2 : (pth w 40 m l).length ≤ 40 := by rw [hP]; exact stp_len ..
  obtain ⟨R, hR⟩ : ∃ R, R = pth w 40 m l := ⟨_, rfl⟩
  rw [← hR] at hP2
  rw [← hS, ← hR]
  unfold path_beside
  dsimp only
  refine loop_bind (fun e h => ∃ (i d m' : Nat) (l' out : List Vh), h = ((i : Int), l', out) ∧ i + e = S.length ∧ S.drop i = (stp w d m' l'.length).map cst3 ∧ l'.length ≤ 512 ∧ out ++ (pth w d m' l').reverse = R.reverse) (fun e => e = R.reverse) S.length (by omega) ⟨0, 40, m, l, [], rfl, by omega, by simp [hS], hl, by simp [hR]⟩ ?_ ?_
  · clear hP hS hR
    rintro e _ ⟨i, d, m', l', out, rfl, hi, hd, hl', ho⟩
    dsimp only
    by_cases a : i < S.length
    · have hne : stp w d m' l'.length ≠ [] := by
        intro h
        rw [h, List.map_nil] at hd
        have := congrArg List.length hd
        rw [List.length_drop] at this
        simp at this; omega
      have h1 : ¬ (l'.length < 2 ∨ (w = true ∧ m' = l'.length)) := fun h => hne (stp_nil h d)
      obtain ⟨d, rfl⟩ : ∃ d', d = d' + 1 := by
        cases d with
        | zero => exact absurd rfl hne
        | succ d => exact ⟨d, rfl⟩
      have h2 : 2 ≤ l'.length := by omega
      obtain ⟨s1, s2, s3⟩ := sp_spec h2
      have hdr : S.drop i = S[i] :: S.drop (i + 1) := List.drop_eq_getElem_cons a
      have hat : at_ T4 S (i : Int) = S[i] := at_nat (t := T4) a
      have hlen : (pth w (d + 1) m' l').length + out.length ≤ 40 := by
        have := congrArg List.length ho
        simp at this; omega
      rw [ilt_t (show (i : Int) < llen S by unfold llen; omega), condO_true, guardO_pos ⟨by omega, by unfold llen; omega⟩, hat]
      have ei : WK .i64 ((i : Int) + 1) = ((i + 1 : Nat) : Int) := wk_i64 (by omega) (by omega)
      have ap : ∀ x : Vh, appOk out [x] 32 := fun x => by unfold appOk; simp; omega
      by_cases b : m' < sp l'.length ∨ (w = true ∧ m' = sp l'.length)
      · rw [stp_left h1 b, hdr, List.map_cons, List.cons.injEq] at hd
        obtain ⟨hd1, hd2⟩ := hd
        rw [pth_left h1 b] at ho
        rw [hd1]
        dsimp only
        rw [condO_false, ltake_nat, ldrop_nat]
        rw [guardO_pos ⟨by omega, by unfold llen; omega, by omega, by omega⟩, root40 _ (by rw [List.length_drop]; omega), Option.bind_some, guardO_pos (ap _), guardO_pos ⟨by omega, by omega, by unfold llen; omega, by omega⟩, ei]
        refine .on (e - 1) (by omega) ⟨i + 1, d, m', l'.take (sp l'.length), _, rfl, by omega, by rw [len_take l' h2]; exact hd2, by rw [List.length_take]; omega, ?_⟩
        simpa using ho
      · rw [stp_right h1 b, hdr, List.map_cons, List.cons.injEq] at hd
        obtain ⟨hd1, hd2⟩ := hd
        rw [pth_right h1 b] at ho
        rw [hd1]
        dsimp only
        have ek : WK .i64 (llen l' - ((l'.length - sp l'.length : Nat) : Int)) = ((sp l'.length : Nat) : Int) := by rw [wk_i64 (by unfold llen; omega) (by unfold llen; omega)]; unfold llen; omega
        rw [condO_true, ek, ltake_nat, ldrop_nat]
        rw [guardO_pos ⟨by omega, by omega, by unfold llen; omega, by omega⟩, root40 _ (by rw [List.length_take]; omega), Option.bind_some, guardO_pos (ap _), guardO_pos ⟨by omega, by unfold llen; omega, by omega, by omega⟩, ei]
        refine .on (e - 1) (by omega) ⟨i + 1, d, m' - sp l'.length, l'.drop (sp l'.length), _, rfl, by omega, by rw [List.length_drop]; exact hd2, by rw [List.length_drop]; omega, ?_⟩
        simpa using ho
    · rw [ilt_f (show llen S ≤ (i : Int) by unfold llen; omega), condO_false]
      refine .out ?_
      have hd0 : stp w d m' l'.length = [] := by
        rw [List.drop_eq_nil_of_le (by omega)] at hd
        simpa using hd.symm
      have hp0 : pth w d m' l' = [] := List.eq_nil_of_length_eq_zero (by rw [pth_len, hd0]; rfl)
      rw [hp0] at ho
      simpa using ho
  · intro e he
    rw [he]
    refine bind_of (reverse_ok _ (by simp; omega)) ?_
    simp
theorem path_ok {m : Nat} {l : List Vh} (hm : m < l.length) (hl : l.length ≤ 512) : path_Path 1000 ((m : Int), l, vgl_sha_keys) = some (true, pth false 40 m l) := by
  unfold path_Path
  dsimp only
  rw [ilt_f (by omega), condO_false, ige_f (show (m : Int) < llen l by unfold llen; omega), condO_false]
  refine bind_of (down_ok (w := false) (show plc false m l.length by simpa [plc] using hm) (by omega)) (bind_of (beside_ok false m l hl) rfl)
theorem path_bad {a : Int} {l : List Vh} (h : a < 0 ∨ (l.length : Int) ≤ a) : path_Path 1000 (a, l, vgl_sha_keys) = some (false, []) ∧ ref10_Path 1000 (a, l) = some (false, []) := by
  constructor
  · unfold path_Path
    dsimp only
    by_cases h0 : a < 0
    · rw [ilt_t h0, condO_true]
    · rw [ilt_f (by omega), condO_false, ige_t (show llen l ≤ a by unfold llen; omega), condO_true]
  · unfold ref10_Path
    dsimp only
    by_cases h0 : a < 0
    · rw [ilt_t h0, condO_true]
    · rw [ilt_f (by omega), condO_false, ige_t (show llen l ≤ a by unfold llen; omega), condO_true]
theorem rsplit {l : List Vh} (h : 2 ≤ l.length) (hl : l.length ≤ 512) : ref09_Split 1000 (llen l) = some ((sp l.length : Nat) : Int) := by
  have := split_ok (n := l.length) (by omega)
  rw [if_neg (by omega)] at this
  exact this
theorem rpath_rec : ∀ (d r m : Nat) (l : List Vh), l.length ≤ 2 ^ d → m < l.length → l.length ≤ 512 → d < r → r ≤ 1000 → recN ref10_path_B r 1000 ((m : Int), l) = some (pth false d m l)
  | d, 0, m, l, _, _, _, h, _ => by omega
  | d, r + 1, m, l, h, hm, hb, hr, hr2 => by
    show ref10_path_B (recN ref10_path_B r) 1000 ((m : Int), l) = _
    unfold ref10_path_B
    dsimp only
    by_cases h1 : l.length = 1
    · refine (congrArg (condO · _ _) (ieq_t (by unfold llen; omega))).trans ((condO_true _ _).trans ?_)
      rw [pth_nil (.inl (by omega))]
    · refine (congrArg (condO · _ _) (ieq_f (by unfold llen; omega))).trans ((condO_false _ _).trans ?_)
      have h2 : 2 ≤ l.length := by omega
      obtain ⟨d, rfl⟩ := pow_le_two h2 h
      obtain ⟨a1, a2, a3⟩ := sp_spec h2
      have a4 := sp_le h2 h
      have a : ¬ (l.length < 2 ∨ (false = true ∧ m = l.length)) := by simp; omega
      have hlen := pth_len false d
      refine bind_of (rsplit h2 hb) ?_
      rw [ltake_nat, ldrop_nat]
      by_cases b : m < sp l.length
      · refine (congrArg (condO · _ _) (ilt_t (by omega))).trans ((condO_true _ _).trans ?_)
        repeat refine (guardO_pos ⟨by first | omega | (unfold llen; omega), by first | omega | (unfold llen; omega), by first | omega | (unfold llen; omega), by first | omega | (unfold llen; omega)⟩).trans ?_
        refine bind_of (rpath_rec d r m (l.take (sp l.length)) (by rw [List.length_take]; omega) (by rw [List.length_take]; omega) (by rw [List.length_take]; omega) (by omega) (by omega)) ?_
        refine bind_of (rroot40 _ (by rw [List.length_drop]; omega)) ?_
        have hle := hlen m (l.take (sp l.length))
        have hle2 := stp_len false d m (l.take (sp l.length)).length
        rw [pth_left a (.inl b)]
        exact guardO_pos (show appOk _ _ _ from by unfold appOk; simp; omega)
      · refine (congrArg (condO · _ _) (ilt_f (by omega))).trans ((condO_false _ _).trans ?_)
        repeat refine (guardO_pos ⟨by first | omega | (unfold llen; omega), by first | omega | (unfold llen; omega), by first | omega | (unfold llen; omega), by first | omega | (unfold llen; omega)⟩).trans ?_
        have e1 : WK .i64 ((m : Int) - ((sp l.length : Nat) : Int)) = ((m - sp l.length : Nat) : Int) := by rw [wk_i64 (by omega) (by omega)]; omega
        rw [e1]
        refine bind_of (rpath_rec d r (m - sp l.length) (l.drop (sp l.length)) (by rw [List.length_drop]; omega) (by rw [List.length_drop]; omega) (by rw [List.length_drop]; omega) (by omega) (by omega)) ?_
        refine bind_of (rroot40 _ (by rw [List.length_take]; omega)) ?_
        have hle := hlen (m - sp l.length) (l.drop (sp l.length))
        have hle2 := stp_len false d (m - sp l.length) (l.drop (sp l.length)).length
        rw [pth_right a (by simp; omega)]
        exact guardO_pos (show appOk _ _ _ from by unfold appOk; simp; omega)
theorem rpath_ok {m : Nat} {l : List Vh} (hm : m < l.length) (hl : l.length ≤ 512) : ref10_Path 1000 ((m : Int), l) = some (true, pth false 40 m l) := by
  unfold ref10_Path
  dsimp only
  rw [ilt_f (by omega), condO_false, ige_f (show (m : Int) < llen l by unfold llen; omega), condO_false]
  exact bind_of (rpath_rec 40 1000 m l (by omega) hm hl (by omega) (by omega)) rfl
theorem sameI_self (n : Nat) (v : Vector Int n) : ∀ l : List Nat, sameI n v v l = true
  | [] => rfl
  | i :: l => by rw [sameI, sameI_self n v l]; simp
end Go.Proofs.YtinhfigjddpdhaaDoor
/- The plain law of PathLast. No condition. -/
set_option linter.unusedVariables false
set_option linter.unusedSimpArgs false
namespace Go.Proofs.YtinhfigjddpdhaaDoor
open Go
def PathLastPure : Prop := ∀ (z0 : Ty.den (.sl 31 (.arr 32 (.int .u8)))), wfT (.sl 31 (.arr 32 (.int .u8))) z0 → ∃ k, law10_PathLast k (z0, vgl_sha_keys) = some true
theorem last_pth : ∀ (d : Nat) (l : List Vh), 2 ≤ l.length → l.length ≤ 2 ^ (d + 1) → pth false (d + 1) (l.length - 1) l = pth false d ((l.drop (sp l.length)).length - 1) (l.drop (sp l.length)) ++ [rt 40 (l.take (sp l.length))] := by
  intro d l h2 h
  obtain ⟨a1, a2, a3⟩ := sp_spec h2
  rw [pth_right (show ¬ (l.length < 2 ∨ (false = true ∧ l.length - 1 = l.length)) by simp; omega) (by simp; omega), List.length_drop, show l.length - 1 - sp l.length = l.length - sp l.length - 1 by omega]
theorem last_body (r : List Vh) (hr : r.length ≤ 20) : (condO (ilt (llen r) 2) (some (true)) ((path_Path 1000 ((WK .i64 ((llen r) - 1)), r, vgl_sha_keys)).bind fun r1 => (loopK (H := Int × Int × (List (Vector Int 32))) (E := (List (Vector Int 32))) 1000 (fun h2 => condO (igt h2.2.1 1) ((ref09_Split 1000 h2.2.1).bind fun r3 => guardO ((cutOk4 h2.1 (WK .i64 (h2.1 + r3)) (llen r) (WK .i64 (h2.1 + r3)))) ((ref09_Root 1000 (ldrop h2.1 (ltake (WK .i64 (h2.1 + r3)) r))).bind fun r4 => guardO ((appOk h2.2.2 ([r4] : List (Vector Int 32)) 32)) (some (.inl (((WK .i64 (h2.1 + r3)), (WK .i64 (h2.2.1 - r3)), (h2.2.2 ++ ([r4] : List (Vector Int 32))))))))) (some (.inr (h2.2.2)))) ((0, (llen r), ([] : List (Vector Int 32))))).bind fun r2 => condO (!r1.1) (some (false)) (condO (ine (llen r1.2) (llen r2)) (some (false)) ((loopK (H := Int) (E := (Bool) ⊕ (Unit)) 1000 (fun h3 => condO (ilt h3 (llen r1.2)) (guardO ((inR h3 (llen r1.2))) (guardO ((inR (WK .i64 ((WK .i64 ((llen r2) - 1)) - h3)) (llen r2))) (condO (!(sameI 32 (at_ T3 r1.2 h3) (at_ T3 r2 (WK .i64 ((WK .i64 ((llen r2) - 1)) - h3))) (List.range 32))) (some (.inr (.inl false))) (some (.inl ((WK .i64 (h3 + 1)))))))) (some (.inr (.inr (()))))) (0)).bind fun r3 => caseS r3 (fun r3 => some (r3)) (fun r3 => some (true)))))) = some true := by
  by_cases h0 : r.length < 2
  · exact (congrArg (condO · _ _) (ilt_t (show llen r < 2 by unfold llen; omega))).trans (condO_true _ _)
  · refine (congrArg (condO · _ _) (ilt_f (show 2 ≤ llen r by unfold llen; omega))).trans ((condO_false _ _).trans ?_)
    have e0 : WK .i64 (llen r - 1) = ((r.length - 1 : Nat) : Int) := by rw [wk_i64 (by unfold llen; omega) (by unfold llen; omega)]; unfold llen; omega
    rw [e0]
    refine bind_of (path_ok (m := r.length - 1) (by omega) (by omega)) ?_
    dsimp only
    have hpl := pth_len false 40 (r.length - 1) r
    obtain ⟨P, hP⟩ : ∃ P, P = pth false 40 (r.length - 1) r := ⟨_, rfl⟩
    have hPl : P.length ≤ 40 := by rw [hP, hpl]; exact stp_len ..
    rw [← hP]
    refine loop_bind (fun d h => ∃ (at' n : Nat) (want : List Vh), h = ((at' : Int), (n : Int), want) ∧ at' + n = r.length ∧ 1 ≤ n ∧ n ≤ 2 ^ d ∧ d ≤ 40 ∧ want.length + d ≤ 40 ∧ want ++ (pth false d (n - 1) (r.drop at')).reverse = P.reverse) (fun e => e = P.reverse) 40 (by omega) ⟨0, r.length, [], rfl, by omega, by omega, by omega, by omega, by simp, by simp [hP]⟩ ?_ ?_
    · rintro d _ ⟨at', n, want, rfl, h1, h2, h3, h4, h5, h6⟩
      dsimp only
      have hdl : (r.drop at').length = n := by rw [List.length_drop]; omega
      by_cases a : 1 < n
      · obtain ⟨d, rfl⟩ := pow_le_two (show 2 ≤ n by omega) h3
        obtain ⟨s1, s2, s3⟩ := sp_spec (n := n) (by omega)
        have hs : ref09_Split 1000 (n : Int) = some ((sp n : Nat) : Int) := by
          have := split_ok (n := n) (by omega)
          rw [if_neg (by omega)] at this
          exact this
        have s4 := sp_le (n := n) (d := d) (by omega) h3
        have e1 : WK .i64 ((at' : Int) + (sp n : Nat)) = ((at' + sp n : Nat) : Int) := by rw [wk_i64 (by omega) (by omega)]; omega
        have e2 : WK .i64 ((n : Int) - (sp n : Nat)) = ((n - sp n : Nat) : Int) := by rw [wk_i64 (by omega) (by omega)]; omega
        rw [igt_t (by omega), condO_true, hs, Option.bind_some, e1, e2, guardO_pos ⟨by omega, by omega, by unfold llen; omega, by omega⟩, ltake_nat, ldrop_nat]
        have e3 : (r.take (at' + sp n)).drop at' = (r.drop at').take (sp n) := by rw [List.drop_take]; congr 1; omega
        rw [e3, rroot40 _ (by rw [List.length_take]; omega), Option.bind_some, guardO_pos (show appOk _ _ _ from by unfold appOk; simp; omega)]
        have hl := last_pth d (r.drop at') (by omega) (by rw [hdl]; exact h3)
        rw [hdl, List.drop_drop, List.length_drop, show r.length - (at' + sp n) - 1 = n - sp n - 1 by omega] at hl
        rw [hl] at h6
        exact .on d (by omega) ⟨at' + sp n, n - sp n, _, rfl, by omega, by omega, by omega, by omega, by simp; omega, by simpa using h6⟩
      · rw [igt_f (by omega), condO_false]
        refine .out ?_
        rw [pth_nil (.inl (by omega))] at h6
        simpa using h6
    · intro e he
      have hel : e.length = P.length := by rw [he, List.length_reverse]
      rw [Bool.not_true, condO_false, ine_f (show llen P = llen e by unfold llen; omega), condO_false]
      refine bind_of (a := (Sum.inr () : Bool ⊕ Unit)) ?_ rfl
      refine loopK_run (fun i : Nat => (i : Int)) P.length _ 1000 (fun i hi => ?_) ?_ (by omega)
      · have hi' : (i : Int) < llen P := by unfold llen; omega
        have e1 : WK .i64 (llen e - 1) = ((P.length - 1 : Nat) : Int) := by rw [wk_i64 (by unfold llen; omega) (by unfold llen; omega)]; unfold llen; omega
        have e2 : WK .i64 (((P.length - 1 : Nat) : Int) - (i : Int)) = ((P.length - 1 - i : Nat) : Int) := by rw [wk_i64 (by omega) (by omega)]; omega
        have e3 : at_ T3 P (i : Int) = P[i] := at_nat (t := T3) hi
        have e4 : at_ T3 e ((P.length - 1 - i : Nat) : Int) = P[i] := by
          rw [at_nat (t := T3) (by omega)]
          have : e[P.length - 1 - i]? = some P[i] := by
            rw [he, List.getElem?_reverse (by omega), List.getElem?_eq_getElem (by omega)]
            congr 2; omega
          exact Option.some.inj ((List.getElem?_eq_getElem (by omega)).symm.trans this)
        rw [e1, e2, e3, e4, sameI_self, ilt_t hi', condO_true, guardO_pos ⟨by omega, hi'⟩, guardO_pos ⟨by omega, by unfold llen; omega⟩, wk_i64 (by omega) (by omega)]
        rfl
      · rw [ilt_f (show llen P ≤ (P.length : Int) by unfold llen; omega), condO_false]
theorem pathLast_law : PathLastPure := by
  intro l _
  refine ⟨1000, ?_⟩
  unfold law10_PathLast
  refine bind_of awake_ok ?_
  dsimp only
  refine condO_eq (fun h => ?_) (fun h => ?_)
  · have h20 : (20 : Int) < (l.length : Int) := by simpa [llen] using h
    refine (guardO_pos ⟨by omega, by omega, by unfold llen; omega, by omega⟩).trans ?_
    have hr : (ltake 20 l).length ≤ 20 := by unfold ltake; rw [List.length_take]; omega
    generalize ltake 20 l = r at hr ⊢
    exact last_body r hr
  · have hr : (l.length : Int) ≤ 20 := by simpa [llen] using h
    have hr : l.length ≤ 20 := by omega
    exact last_body l hr
end Go.Proofs.YtinhfigjddpdhaaDoor
