/- Texts of the proof, put together: part 10. No condition. -/
import Derived.Test.YtinhfigjddpdhaaDoorT9
/- Paths in trees: the program's is the document's. No condition. -/
set_option linter.unusedVariables false
set_option linter.unusedSimpArgs false
namespace Go.Proofs.YtinhfigjddpdhaaDoor
open Go
theorem reverse_ok (l : List Vh) (hl : l.length ≤ 900) : slices_Reverse 1000 l = some l.reverse := by
  unfold slices_Reverse
  refine loop_bind (fun d h => ∃ (t : Nat) (L : List Vh), h = ((t : Int), (l.length : Int) - 1 - (t : Int), L) ∧ d = l.length - t ∧ t ≤ l.length ∧ L.length = l.length ∧ ∀ j, j < l.length → L[j]? = if j < t ∨ l.length - t ≤ j then l[l.length - 1 - j]? else l[j]?) (fun e => e = l.reverse) l.length (by omega)
    ⟨0, l, by rw [wk_i64 (by unfold llen; omega) (by unfold llen; omega)]; unfold llen; simp, by omega, by omega, rfl, fun j hj => by rw [if_neg (by omega)]⟩ ?_ (fun e he => by rw [he])
  rintro d _ ⟨t, L, rfl, hd, ht, hL, hj⟩
  dsimp only
  by_cases a : (t : Int) < (l.length : Int) - 1 - (t : Int)
  · have e0 : (l.length : Int) - 1 - (t : Int) = ((l.length - 1 - t : Nat) : Int) := by omega
    rw [ilt_t a, condO_true, e0]
    rw [guardO_pos ⟨by omega, by unfold llen; omega⟩, guardO_pos ⟨by omega, by unfold llen; omega⟩, guardO_pos ⟨by omega, by unfold llen; omega⟩, guardO_pos ⟨by omega, by unfold llen; rw [List.length_set]; omega⟩]
    have e1 : WK .i64 ((t : Int) + 1) = ((t + 1 : Nat) : Int) := by rw [wk_i64 (by omega) (by omega)]; omega
    have e2 : WK .i64 (((l.length - 1 - t : Nat) : Int) - 1) = (l.length : Int) - 1 - ((t + 1 : Nat) : Int) := by rw [wk_i64 (by omega) (by omega)]; omega
    have e3 : at_ T3 L ((l.length - 1 - t : Nat) : Int) = L[l.length - 1 - t] := at_nat (t := T3) (by omega)
    have e4 : at_ T3 L (t : Int) = L[t] := at_nat (t := T3) (by omega)
    rw [e1, e2, e3, e4]
    unfold lset
    rw [Int.toNat_natCast, Int.toNat_natCast]
    refine .on (l.length - (t + 1)) (by omega) ⟨t + 1, _, rfl, rfl, by omega, by simp [hL], fun j hjl => ?_⟩
    have g1 := hj t (by omega)
    have g2 := hj (l.length - 1 - t) (by omega)
    rw [if_neg (by omega), List.getElem?_eq_getElem (by omega)] at g1 g2
    rw [List.getElem?_set, List.getElem?_set]
    simp only [List.length_set]
    by_cases b1 : l.length - 1 - t = j
    · rw [if_pos b1, if_pos (by omega), if_pos (by omega), g1]
      congr 1; omega
    · rw [if_neg b1]
      by_cases b2 : t = j
      · rw [if_pos b2, if_pos (by omega), if_pos (by omega), g2]
        congr 1; omega
      · rw [if_neg b2, hj j hjl]
        by_cases b3 : j < t ∨ l.length - t ≤ j
        · rw [if_pos b3, if_pos (by omega)]
        · rw [if_neg b3, if_neg (by omega)]
  · rw [ilt_f (by omega), condO_false]
    refine .out ?_
    apply List.ext_getElem?
    intro j
    by_cases b : j < l.length
    · rw [hj j b, List.getElem?_reverse b]
      split
      · rfl
      · congr 1; omega
    · rw [List.getElem?_eq_none (by omega), List.getElem?_eq_none (by simp; omega)]
theorem root40 (l : List Vh) (h : l.length ≤ 512) : leaf_Root 1000 (l, vgl_sha_keys) = some (rt 40 l) := by
  rw [root_ok (d := 9) l (by simpa using h) (by omega), rt_deep 9 l (by simpa using h) 40 (by omega)]
theorem rroot40 (l : List Vh) (h : l.length ≤ 512) : ref09_Root 1000 l = some (rt 40 l) := by
  rw [rroot_ok (d := 9) l (by simpa using h) (by omega), rt_deep 9 l (by simpa using h) 40 (by omega)]
theorem rt40_big {l : List Vh} (h1 : 2 ≤ l.length) (h : l.length ≤ 512) : rt 40 l = node (rt 40 (l.take (sp l.length))) (rt 40 (l.drop (sp l.length))) := by
  have a1 : (l.take (sp l.length)).length ≤ 2 ^ 9 := by rw [List.length_take]; omega
  have a2 : (l.drop (sp l.length)).length ≤ 2 ^ 9 := by rw [List.length_drop]; omega
  rw [rt_big (d := 39) h1, rt_deep 9 _ a1 39 (by omega), rt_deep 9 _ a2 39 (by omega), rt_deep 9 _ a1 40 (by omega), rt_deep 9 _ a2 40 (by omega)]
/-- What stands beside the way down, the last one first. -/
def pth (w : Bool) : Nat → Nat → List Vh → List Vh
  | 0, _, _ => []
  | d + 1, m, l => if l.length < 2 ∨ (w = true ∧ m = l.length) then [] else
    if m < sp l.length ∨ (w = true ∧ m = sp l.length) then pth w d m (l.take (sp l.length)) ++ [rt 40 (l.drop (sp l.length))] else pth w d (m - sp l.length) (l.drop (sp l.length)) ++ [rt 40 (l.take (sp l.length))]
theorem pth_nil {w : Bool} {m : Nat} {l : List Vh} (h : l.length < 2 ∨ (w = true ∧ m = l.length)) (d : Nat) : pth w d m l = [] := by
  cases d with
  | zero => rfl
  | succ d => rw [pth, if_pos h]
theorem pth_left {w : Bool} {d m : Nat} {l : List Vh} (a : ¬ (l.length < 2 ∨ (w = true ∧ m = l.length))) (b : m < sp l.length ∨ (w = true ∧ m = sp l.length)) : pth w (d + 1) m l = pth w d m (l.take (sp l.length)) ++ [rt 40 (l.drop (sp l.length))] := by
  rw [pth, if_neg a, if_pos b]
theorem pth_right {w : Bool} {d m : Nat} {l : List Vh} (a : ¬ (l.length < 2 ∨ (w = true ∧ m = l.length))) (b : ¬ (m < sp l.length ∨ (w = true ∧ m = sp l.length))) : pth w (d + 1) m l = pth w d (m - sp l.length) (l.drop (sp l.length)) ++ [rt 40 (l.take (sp l.length))] := by
  rw [pth, if_neg a, if_neg b]
theorem len_take (l : List Vh) (h : 2 ≤ l.length) : (l.take (sp l.length)).length = sp l.length := by
  have := sp_spec h
  rw [List.length_take]; omega
theorem pth_len (w : Bool) : ∀ d m (l : List Vh), (pth w d m l).length = (stp w d m l.length).length
  | 0, _, _ => rfl
  | d + 1, m, l => by
    by_cases a : l.length < 2 ∨ (w = true ∧ m = l.length)
    · rw [pth_nil a, stp_nil a]; rfl
    · by_cases b : m < sp l.length ∨ (w = true ∧ m = sp l.length)
      · rw [pth_left a b, stp_left a b, List.length_append, pth_len w d, len_take l (by omega)]; rfl
      · rw [pth_right a b, stp_right a b, List.length_append, pth_len w d, List.length_drop]; rfl
theorem beside_ok (w : Bool) (m : Nat) (l : List Vh) (hl : l.length ≤ 512) : path_beside 1000 (l, (stp w 40 m l.length).map cst3, vgl_sha_keys) = some (pth w 40 m l) := by
  obtain ⟨S, hS⟩ : ∃ S, S = (stp w 40 m l.length).map cst3 := ⟨_, rfl⟩
  have hSl : S.length ≤ 40 := by rw [hS, List.length_map]; exact stp_len ..
  have hP := pth_len w 40 m l
  have hP2 : (pth w 40 m l).length ≤ 40 := by rw [hP]; exact stp_len ..
  obtain ⟨R, hR⟩ : ∃ R, R = pth w 40 m l := ⟨_, rfl⟩
  rw [← hR] at hP2
  rw [← hS, ← hR]
  unfold path_beside
  dsimp only
  refine loop_bind (fun e h => ∃ (i d m' : Nat) (l' out : List Vh), h = ((i : Int), l', out) ∧ i + e = S.length ∧ S.drop i = (stp w d m' l'.length).map cst3 ∧ l'.length ≤ 512 ∧ out ++ (pth w d m' l').reverse = R.reverse) (fun e => e = R.reverse) S.length (by omega) ⟨0, 40, m, l, [], rfl, by omega, by simp [hS], hl, by simp [hR]⟩ ?_ ?_
  · clear hP hS hR
    rintro e _ ⟨i, d, m', l', out, rfl, hi, hd, hl', ho⟩
    dsimp only
    by_cases a : i < S.length
    · have hne : stp w d m' l'.length ≠ [] := by
        intro h
        rw [h, List.map_nil] at hd
        have := congrArg List.length hd
        rw [List.length_drop] at this
        simp at this; omega
      have h1 : ¬ (l'.length < 2 ∨ (w = true ∧ m' = l'.length)) := fun h => hne (stp_nil h d)
      obtain ⟨d, rfl⟩ : ∃ d', d = d' + 1 := by
        cases d with
        | zero => exact absurd rfl hne
        | succ d => exact ⟨d, rfl⟩
      have h2 : 2 ≤ l'.length := by omega
      obtain ⟨s1, s2, s3⟩ := sp_spec h2
      have hdr : S.drop i = S[i] :: S.drop (i + 1) := List.drop_eq_getElem_cons a
      have hat : at_ T4 S (i : Int) = S[i] := at_nat (t := T4) a
      have hlen : (pth w (d + 1) m' l').length + out.length ≤ 40 := by
        have := congrArg List.length ho
        simp at this; omega
      rw [ilt_t (show (i : Int) < llen S by unfold llen; omega), condO_true, guardO_pos ⟨by omega, by unfold llen; omega⟩, hat]
      have ei : WK .i64 ((i : Int) + 1) = ((i + 1 : Nat) : Int) := wk_i64 (by omega) (by omega)
      have ap : ∀ x : Vh, appOk out [x] 32 := fun x => by unfold appOk; simp; omega
      by_cases b : m' < sp l'.length ∨ (w = true ∧ m' = sp l'.length)
      · rw [stp_left h1 b, hdr, List.map_cons, List.cons.injEq] at hd
        obtain ⟨hd1, hd2⟩ := hd
        rw [pth_left h1 b] at ho
        rw [hd1]
        dsimp only
        rw [condO_false, ltake_nat, ldrop_nat]
        rw [guardO_pos ⟨by omega, by unfold llen; omega, by omega, by omega⟩, root40 _ (by rw [List.length_drop]; omega), Option.bind_some, guardO_pos (ap _), guardO_pos ⟨by omega, by omega, by unfold llen; omega, by omega⟩, ei]
        refine .on (e - 1) (by omega) ⟨i + 1, d, m', l'.take (sp l'.length), _, rfl, by omega, by rw [len_take l' h2]; exact hd2, by rw [List.length_take]; omega, ?_⟩
        simpa using ho
      · rw [stp_right h1 b, hdr, List.map_cons, List.cons.injEq] at hd
        obtain ⟨hd1, hd2⟩ := hd
        rw [pth_right h1 b] at ho
        rw [hd1]
        dsimp only
        have ek : WK .i64 (llen l' - ((l'.length - sp l'.length : Nat) : Int)) = ((sp l'.length : Nat) : Int) := by rw [wk_i64 (by unfold llen; omega) (by unfold llen; omega)]; unfold llen; omega
        rw [condO_true, ek, ltake_nat, ldrop_nat]
        rw [guardO_pos ⟨by omega, by omega, by unfold llen; omega, by omega⟩, root40 _ (by rw [List.length_take]; omega), Option.bind_some, guardO_pos (ap _), guardO_pos ⟨by omega, by unfold llen; omega, by omega, by omega⟩, ei]
        refine .on (e - 1) (by omega) ⟨i + 1, d, m' - sp l'.length, l'.drop (sp l'.length), _, rfl, by omega, by rw [List.length_drop]; exact hd2, by rw [List.length_drop]; omega, ?_⟩
        simpa using ho
    · rw [ilt_f (show llen S ≤ (i : Int) by unfold llen; omega), condO_false]
      refine .out ?_
      have hd0 : stp w d m' l'.length = [] := by
        rw [List.drop_eq_nil_of_le (by omega)] at hd
        simpa using hd.symm
      have hp0 : pth w d m' l' = [] := List.eq_nil_of_length_eq_zero (by rw [pth_len, hd0]; rfl)
      rw [hp0] at ho
      simpa using ho
  · intro e he
    rw [he]
    refine bind_of (reverse_ok _ (by simp; omega)) ?_
    simp
theorem path_ok {m : Nat} {l : List Vh} (hm : m < l.length) (hl : l.length ≤ 512) : path_Path 1000 ((m : Int), l, vgl_sha_keys) = some (true, pth false 40 m l) := by
  unfold path_Path
  dsimp only
  rw [ilt_f (by omega), condO_false, ige_f (show (m : Int) < llen l by unfold llen; omega), condO_false]
  refine bind_of (down_ok (w := false) (show plc false m l.length by simpa [plc] using hm) (by omega)) (bind_of (beside_ok false m l hl) rfl)
theorem path_bad {a : Int} {l : List Vh} (h : a < 0 ∨ (l.length : Int) ≤ a) : path_Path 1000 (a, l, vgl_sha_keys) = some (false, []) ∧ ref10_Path 1000 (a, l) = some (false, []) := by
  constructor
  · unfold path_Path
    dsimp only
    by_cases h0 : a < 0
    · rw [ilt_t h0, condO_true]
    · rw [ilt_f (by omega), condO_false, ige_t (show llen l ≤ a by unfold llen; omega), condO_true]
  · unfold ref10_Path
    dsimp only
    by_cases h0 : a < 0
    · rw [ilt_t h0, condO_true]
    · rw [ilt_f (by omega), condO_false, ige_t (show llen l ≤ a by unfold llen; omega), condO_true]
theorem rsplit {l : List Vh} (h : 2 ≤ l.length) (hl : l.length ≤ 512) : ref09_Split 1000 (llen l) = some ((sp l.length : Nat) : Int) := by
  have := split_ok (n := l.length) (by omega)
  rw [if_neg (by omega)] at this
  exact this
theorem rpath_rec : ∀ (d r m : Nat) (l : List Vh), l.length ≤ 2 ^ d → m < l.length → l.length ≤ 512 → d < r → r ≤ 1000 → recN ref10_path_B r 1000 ((m : Int), l) = some (pth false d m l)
  | d, 0, m, l, _, _, _, h, _ => by omega
  | d, r + 1, m, l, h, hm, hb, hr, hr2 => by
    show ref10_path_B (recN ref10_path_B r) 1000 ((m : Int), l) = _
    unfold ref10_path_B
    dsimp only
    by_cases h1 : l.length = 1
    · refine (congrArg (condO · _ _) (ieq_t (by unfold llen; omega))).trans ((condO_true _ _).trans ?_)
      rw [pth_nil (.inl (by omega))]
    · refine (congrArg (condO · _ _) (ieq_f (by unfold llen; omega))).trans ((condO_false _ _).trans ?_)
      have h2 : 2 ≤ l.length := by omega
      obtain ⟨d, rfl⟩ := pow_le_two h2 h
      obtain ⟨a1, a2, a3⟩ := sp_spec h2
      have a4 := sp_le h2 h
      have a : ¬ (l.length < 2 ∨ (false = true ∧ m = l.length)) := by simp; omega
      have hlen := pth_len false d
      refine bind_of (rsplit h2 hb) ?_
      rw [ltake_nat, ldrop_nat]
      by_cases b : m < sp l.length
      · refine (congrArg (condO · _ _) (ilt_t (by omega))).trans ((condO_true _ _).trans ?_)
        repeat refine (guardO_pos ⟨by first | omega | (unfold llen; omega), by first | omega | (unfold llen; omega), by first | omega | (unfold llen; omega), by first | omega | (unfold llen; omega)⟩).trans ?_
        refine bind_of (rpath_rec d r m (l.take (sp l.length)) (by rw [List.length_take]; omega) (by rw [List.length_take]; omega) (by rw [List.length_take]; omega) (by omega) (by omega)) ?_
        refine bind_of (rroot40 _ (by rw [List.length_drop]; omega)) ?_
        have hle := hlen m (l.take (sp l.length))
        have hle2 := stp_len false d m (l.take (sp l.length)).length
        rw [pth_left a (.inl b)]
        exact guardO_pos (show appOk _ _ _ from by unfold appOk; simp; omega)
      · refine (congrArg (condO · _ _) (ilt_f (by omega))).trans ((condO_false _ _).trans ?_)
        repeat refine (guardO_pos ⟨by first | omega | (unfold llen; omega), by first | omega | (unfold llen; omega), by first | omega | (unfold llen; omega), by first | omega | (unfold llen; omega)⟩).trans ?_
        have e1 : WK .i64 ((m : Int) - ((sp l.length : Nat) : Int)) = ((m - sp l.length : Nat) : Int) := by rw [wk_i64 (by omega) (by omega)]; omega
        rw [e1]
        refine bind_of (rpath_rec d r (m - sp l.length) (l.drop (sp l.length)) (by rw [List.length_drop]; omega) (by rw [List.length_drop]; omega) (by rw [List.length_drop]; omega) (by omega) (by omega)) ?_
        refine bind_of (rroot40 _ (by rw [List.length_take]; omega)) ?_
        have hle := hlen (m - sp l.length) (l.drop (sp l.length))
        have hle2 := stp_len false d (m - sp l.length) (l.drop (sp l.length)).length
        rw [pth_right a (by simp; omega)]
        exact guardO_pos (show appOk _ _ _ from by unfold appOk; simp; omega)
theorem rpath_ok {m : Nat} {l : List Vh} (hm : m < l.length) (hl : l.length ≤ 512) : ref10_Path 1000 ((m : Int), l) = some (true, pth false 40 m l) := by
  unfold ref10_Path
  dsimp only
  rw [ilt_f (by omega), condO_false, ige_f (show (m : Int) < llen l by unfold llen; omega), condO_false]
  exact bind_of (rpath_rec 40 1000 m l (by omega) hm hl (by omega) (by omega)) rfl
theorem sameI_self (n : Nat) (v : Vector Int n) : ∀ l : List Nat, sameI n v v l = true
  | [] => rfl
  | i :: l => by rw [sameI, sameI_self n v l]; simp
end Go.Proofs.YtinhfigjddpdhaaDoor
/- Links between two sizes of a tree: the program's are the document's. No condition. -/
set_option linter.unusedVariables false
set_option linter.unusedSimpArgs false
namespace Go.Proofs.YtinhfigjddpdhaaDoor
open Go
/-- The part that both sizes have whole. -/
def part : Nat → Nat → List Vh → List Vh
  | 0, _, l => l
  | d + 1, m, l => if l.length < 2 ∨ m = l.length then l else if m ≤ sp l.length then part d m (l.take (sp l.length)) else part d (m - sp l.length) (l.drop (sp l.length))
theorem part_nil {m : Nat} {l : List Vh} (h : l.length < 2 ∨ m = l.length) (d : Nat) : part d m l = l := by
  cases d with
  | zero => rfl
  | succ d => rw [part, if_pos h]
theorem part_left {d m : Nat} {l : List Vh} (a : ¬ (l.length < 2 ∨ m = l.length)) (b : m ≤ sp l.length) : part (d + 1) m l = part d m (l.take (sp l.length)) := by
  rw [part, if_neg a, if_pos b]
theorem part_right {d m : Nat} {l : List Vh} (a : ¬ (l.length < 2 ∨ m = l.length)) (b : ¬ m ≤ sp l.length) : part (d + 1) m l = part d (m - sp l.length) (l.drop (sp l.length)) := by
  rw [part, if_neg a, if_neg b]
theorem part_len : ∀ (d m : Nat) (l : List Vh), (part d m l).length ≤ l.length
  | 0, _, _ => Nat.le_refl _
  | d + 1, m, l => by
    rw [part]
    split
    · exact Nat.le_refl _
    · split
      · exact Nat.le_trans (part_len d _ _) (by rw [List.length_take]; omega)
      · exact Nat.le_trans (part_len d _ _) (by rw [List.length_drop]; omega)
theorem part_end {d m : Nat} {l : List Vh} (h : stp true d m l.length = []) : part d m l = l := by
  cases d with
  | zero => rfl
  | succ d =>
    by_cases a : l.length < 2 ∨ m = l.length
    · rw [part_nil a]
    · exfalso
      have a2 : ¬ (l.length < 2 ∨ (true = true ∧ m = l.length)) := by simpa using a
      by_cases b : m < sp l.length ∨ (true = true ∧ m = sp l.length)
      · rw [stp_left a2 b] at h; cases h
      · rw [stp_right a2 b] at h; cases h
/-- Links: the part, if not all of the first size is known by itself, then what stands beside. -/
def lks (m : Nat) (l : List Vh) : List Vh := (if (stp true 40 m l.length).any (·.1) = true then [rt 40 (part 40 m l)] else []) ++ pth true 40 m l
def lksW (d m : Nat) (w : Bool) (l : List Vh) : List Vh := (if w = true ∧ (stp true d m l.length).any (·.1) = false then [] else [rt 40 (part d m l)]) ++ pth true d m l
theorem lksW_true (m : Nat) (l : List Vh) : lksW 40 m true l = lks m l := by
  unfold lksW lks
  cases (stp true 40 m l.length).any (·.1) <;> simp
theorem lksW_len (d m : Nat) (w : Bool) (l : List Vh) : (lksW d m w l).length ≤ 1 + d := by
  unfold lksW
  have := pth_len true d m l
  have := stp_len true d m l.length
  rw [List.length_append]
  split <;> simp <;> omega
theorem insert_ok (x : Vh) (l : List Vh) (h1 : 1 ≤ l.length) (h : l.length ≤ 900) : slices_Insert 1000 (0, l, [x]) = some (x :: l) :=
  guardO_pos (p := (0 : Int) = 0 ∧ 1 ≤ l.length ∧ (l.length + 1) * 32 ≤ 140737488355328) ⟨rfl, h1, by omega⟩
theorem plinks_ok {m : Nat} {l : List Vh} (h0 : 1 ≤ m) (hm : m ≤ l.length) (hl : l.length ≤ 512) : path_Links 1000 ((m : Int), l, vgl_sha_keys) = some (true, lks m l) := by
  have hsl := stp_len true 40 m l.length
  obtain ⟨S, hS⟩ : ∃ S, S = (stp true 40 m l.length).map cst3 := ⟨_, rfl⟩
  have hSl : S.length ≤ 40 := by rw [hS, List.length_map]; exact hsl
  obtain ⟨r, hr, hr2⟩ := index_ok S (by omega)
  have ha : S.any (·.1) = (stp true 40 m l.length).any (·.1) := by rw [hS, List.any_map]; rfl
  rw [ha] at hr2
  unfold path_Links
  dsimp only
  rw [ilt_f (by omega), condO_false, igt_f (show (m : Int) ≤ llen l by unfold llen; omega), condO_false]
  refine bind_of (down_ok (w := true) (show plc true m l.length by simp [plc]; omega) (by omega)) ?_
  refine bind_of (beside_ok true m l hl) ?_
  rw [← hS]
  refine bind_of hr ?_
  rw [hr2]
  unfold lks
  have hpl := pth_len true 40 m l
  cases hb : (stp true 40 m l.length).any (·.1)
  · rw [Bool.not_false, condO_true]; simp
  · rw [Bool.not_true, condO_false, if_pos rfl]
    have hne : 1 ≤ (pth true 40 m l).length := by
      rw [hpl]
      rcases hx : stp true 40 m l.length with _ | ⟨y, ys⟩
      · rw [hx] at hb; cases hb
      · simp
    obtain ⟨R, hR⟩ : ∃ R, R = pth true 40 m l := ⟨_, rfl⟩
    rw [← hR] at hne hpl ⊢
    refine loop_bind (fun e h => ∃ (i d m' a n : Nat), h = ((a : Int), (n : Int), (i : Int)) ∧ i + e = S.length ∧ a + n ≤ l.length ∧ S.drop i = (stp true d m' n).map cst3 ∧ part d m' ((l.drop a).take n) = part 40 m l) (fun e => ∃ a n : Nat, e = ((a : Int), (n : Int)) ∧ a + n ≤ l.length ∧ (l.drop a).take n = part 40 m l) S.length (by omega) ⟨0, 40, m, 0, l.length, rfl, by omega, by omega, by simp [hS], by simp⟩ ?_ ?_
    · clear hR hpl hr hr2 ha hS
      rintro e _ ⟨i, d, m', a, n, rfl, hi, han, hd, hp⟩
      dsimp only
      have hln : ((l.drop a).take n).length = n := by rw [List.length_take, List.length_drop]; omega
      by_cases c : i < S.length
      · have hne : stp true d m' n ≠ [] := by
          intro h
          rw [h, List.map_nil] at hd
          have := congrArg List.length hd
          rw [List.length_drop] at this
          simp at this; omega
        have h1 : ¬ (n < 2 ∨ (true = true ∧ m' = n)) := fun h => hne (stp_nil h d)
        have h1' : ¬ (((l.drop a).take n).length < 2 ∨ m' = ((l.drop a).take n).length) := by rw [hln]; simpa using h1
        obtain ⟨d, rfl⟩ : ∃ d', d = d' + 1 := by
          cases d with
          | zero => exact absurd rfl hne
          | succ d => exact ⟨d, rfl⟩
        have h2 : 2 ≤ n := by omega
        obtain ⟨s1, s2, s3⟩ := sp_spec h2
        have hdr : S.drop i = S[i] :: S.drop (i + 1) := List.drop_eq_getElem_cons c
        have hat : at_ T4 S (i : Int) = S[i] := at_nat (t := T4) c
        have ei : WK .i64 ((i : Int) + 1) = ((i + 1 : Nat) : Int) := wk_i64 (by omega) (by omega)
        rw [ilt_t (show (i : Int) < llen S by unfold llen; omega), condO_true, guardO_pos ⟨by omega, by unfold llen; omega⟩, hat, ei]
        by_cases b : m' < sp n ∨ (true = true ∧ m' = sp n)
        · have b' : m' ≤ sp ((l.drop a).take n).length := by rw [hln]; simp at b; omega
          rw [stp_left h1 b, hdr, List.map_cons, List.cons.injEq] at hd
          obtain ⟨hd1, hd2⟩ := hd
          rw [part_left h1' b', hln, List.take_take, Nat.min_eq_left (by omega)] at hp
          rw [hd1]
          dsimp only
          rw [condO_false]
          exact .on (e - 1) (by omega) ⟨i + 1, d, m', a, sp n, rfl, by omega, by omega, hd2, hp⟩
        · have b' : ¬ m' ≤ sp ((l.drop a).take n).length := by rw [hln]; simp at b; omega
          rw [stp_right h1 b, hdr, List.map_cons, List.cons.injEq] at hd
          obtain ⟨hd1, hd2⟩ := hd
          rw [part_right h1' b', hln, List.drop_take, List.drop_drop] at hp
          rw [hd1]
          dsimp only
          rw [condO_true]
          have ek : WK .i64 ((a : Int) + WK .i64 ((n : Int) - ((n - sp n : Nat) : Int))) = ((a + sp n : Nat) : Int) := by
            rw [wk_i64 (x := (n : Int) - ((n - sp n : Nat) : Int)) (by omega) (by omega), wk_i64 (by omega) (by omega)]; omega
          rw [ek]
          exact .on (e - 1) (by omega) ⟨i + 1, d, m' - sp n, a + sp n, n - sp n, rfl, by omega, by omega, hd2, hp⟩
      · rw [ilt_f (show llen S ≤ (i : Int) by unfold llen; omega), condO_false]
        refine .out ⟨a, n, rfl, han, ?_⟩
        have hd0 : stp true d m' n = [] := by
          rw [List.drop_eq_nil_of_le (by omega)] at hd
          simpa using hd.symm
        rw [part_end (by rw [hln]; exact hd0)] at hp
        exact hp
    · rintro _ ⟨a, n, rfl, han, hp⟩
      dsimp only
      have e1 : WK .i64 ((a : Int) + (n : Int)) = ((a + n : Nat) : Int) := by rw [wk_i64 (by omega) (by omega)]; omega
      rw [e1, guardO_pos ⟨by omega, by omega, by unfold llen; omega, by omega⟩, ltake_nat, ldrop_nat]
      have e2 : (l.take (a + n)).drop a = (l.drop a).take n := by rw [List.drop_take]; congr 1; omega
      rw [e2, hp]
      have hpl2 := part_len 40 m l
      refine bind_of (root40 _ (by omega)) (bind_of (insert_ok _ _ hne (by omega)) rfl)
theorem rlinks_rec : ∀ (d r m : Nat) (w : Bool) (l : List Vh), l.length ≤ 2 ^ d → 1 ≤ m → m ≤ l.length → l.length ≤ 512 → d < r → r ≤ 1000 → recN ref10_links_B r 1000 ((m : Int), w, l) = some (lksW d m w l)
  | d, 0, m, w, l, _, _, _, _, h, _ => by omega
  | d, r + 1, m, w, l, h, h0, hm, hb, hr, hr2 => by
    show ref10_links_B (recN ref10_links_B r) 1000 ((m : Int), w, l) = _
    unfold ref10_links_B
    dsimp only
    by_cases h1 : m = l.length
    · refine (congrArg (condO · _ _) (ieq_t (by unfold llen; omega))).trans ((condO_true _ _).trans ?_)
      unfold lksW
      rw [stp_nil (.inr ⟨rfl, h1⟩), pth_nil (.inr ⟨rfl, h1⟩), part_nil (.inr h1)]
      cases w
      · rw [condO_false]
        exact bind_of (rroot40 _ hb) (by simp)
      · rw [condO_true]; simp
    · refine (congrArg (condO · _ _) (ieq_f (by unfold llen; omega))).trans ((condO_false _ _).trans ?_)
      have h2 : 2 ≤ l.length := by omega
      obtain ⟨d, rfl⟩ := pow_le_two h2 h
      obtain ⟨a1, a2, a3⟩ := sp_spec h2
      have a4 := sp_le h2 h
      have a : ¬ (l.length < 2 ∨ (true = true ∧ m = l.length)) := by simp; omega
      have a' : ¬ (l.length < 2 ∨ m = l.length) := by omega
      refine bind_of (rsplit h2 hb) ?_
      rw [ltake_nat, ldrop_nat]
      by_cases b : m ≤ sp l.length
      · have hlw := lksW_len d m w (l.take (sp l.length))
        refine (congrArg (condO · _ _) (ile_t (by omega))).trans ((condO_true _ _).trans ?_)
        repeat refine (guardO_pos ⟨by first | omega | (unfold llen; omega), by first | omega | (unfold llen; omega), by first | omega | (unfold llen; omega), by first | omega | (unfold llen; omega)⟩).trans ?_
        refine bind_of (rlinks_rec d r m w (l.take (sp l.length)) (by rw [List.length_take]; omega) h0 (by rw [List.length_take]; omega) (by rw [List.length_take]; omega) (by omega) (by omega)) ?_
        refine bind_of (rroot40 _ (by rw [List.length_drop]; omega)) ?_
        refine (guardO_pos (show appOk _ _ _ from by unfold appOk; simp; omega)).trans ?_
        have b2 : m < sp l.length ∨ (true = true ∧ m = sp l.length) := by simp; omega
        unfold lksW
        rw [pth_left a b2, part_left a' b, stp_left a b2, len_take l h2, List.any_cons, Bool.false_or, List.append_assoc]
      · have hlw := lksW_len d (m - sp l.length) false (l.drop (sp l.length))
        refine (congrArg (condO · _ _) (ile_f (by omega))).trans ((condO_false _ _).trans ?_)
        repeat refine (guardO_pos ⟨by first | omega | (unfold llen; omega), by first | omega | (unfold llen; omega), by first | omega | (unfold llen; omega), by first | omega | (unfold llen; omega)⟩).trans ?_
        have e1 : WK .i64 ((m : Int) - ((sp l.length : Nat) : Int)) = ((m - sp l.length : Nat) : Int) := by rw [wk_i64 (by omega) (by omega)]; omega
        rw [e1]
        refine bind_of (rlinks_rec d r (m - sp l.length) false (l.drop (sp l.length)) (by rw [List.length_drop]; omega) (by omega) (by rw [List.length_drop]; omega) (by rw [List.length_drop]; omega) (by omega) (by omega)) ?_
        refine bind_of (rroot40 _ (by rw [List.length_take]; omega)) ?_
        refine (guardO_pos (show appOk _ _ _ from by unfold appOk; simp; omega)).trans ?_
        have b2 : ¬ (m < sp l.length ∨ (true = true ∧ m = sp l.length)) := by simp; omega
        unfold lksW
        rw [pth_right a b2, part_right a' b, stp_right a b2]
        simp
theorem rlinksL_ok {m : Nat} {l : List Vh} (h0 : 1 ≤ m) (hm : m ≤ l.length) (hl : l.length ≤ 512) : ref10_Links 1000 ((m : Int), l) = some (true, lks m l) := by
  unfold ref10_Links
  dsimp only
  rw [ilt_f (by omega), condO_false, igt_f (show (m : Int) ≤ llen l by unfold llen; omega), condO_false]
  exact bind_of (rlinks_rec 40 1000 m true l (by omega) h0 hm hl (by omega) (by omega)) (by rw [lksW_true])
theorem plinks_bad {a : Int} {l : List Vh} (h : a < 1 ∨ (l.length : Int) < a) : path_Links 1000 (a, l, vgl_sha_keys) = some (false, []) ∧ ref10_Links 1000 (a, l) = some (false, []) := by
  constructor
  · unfold path_Links
    dsimp only
    by_cases h0 : a < 1
    · rw [ilt_t h0, condO_true]
    · rw [ilt_f (by omega), condO_false, igt_t (show llen l < a by unfold llen; omega), condO_true]
  · unfold ref10_Links
    dsimp only
    by_cases h0 : a < 1
    · rw [ilt_t h0, condO_true]
    · rw [ilt_f (by omega), condO_false, igt_t (show llen l < a by unfold llen; omega), condO_true]
theorem same_self (l : List Vh) (h : l.length ≤ 900) : ref09_Same 1000 (l, l) = some true := by
  unfold ref09_Same
  dsimp only
  rw [ine_f rfl, condO_false]
  refine bind_of (a := (Sum.inr () : Bool ⊕ Unit)) ?_ rfl
  refine loopK_run (fun i : Nat => (i : Int)) l.length _ 1000 (fun i hi => ?_) ?_ (by omega)
  · have hi' : (i : Int) < llen l := by unfold llen; omega
    have e3 : at_ T3 l (i : Int) = l[i] := at_nat (t := T3) hi
    rw [e3, sameI_self, ilt_t hi', condO_true, guardO_pos ⟨by omega, hi'⟩, guardO_pos ⟨by omega, hi'⟩, wk_i64 (by omega) (by omega)]
    rfl
  · rw [ilt_f (show llen l ≤ (l.length : Int) by unfold llen; omega), condO_false]
theorem path_both (a : Int) (l : List Vh) (hl : l.length ≤ 512) : ∃ ok P, P.length ≤ 900 ∧ path_Path 1000 (a, l, vgl_sha_keys) = some (ok, P) ∧ ref10_Path 1000 (a, l) = some (ok, P) := by
  by_cases h : a < 0 ∨ (l.length : Int) ≤ a
  · exact ⟨false, [], by simp, path_bad h⟩
  · obtain ⟨m, rfl⟩ : ∃ m : Nat, a = m := ⟨a.toNat, by omega⟩
    exact ⟨true, _, by rw [pth_len]; exact Nat.le_trans (stp_len ..) (by omega), path_ok (by omega) hl, rpath_ok (by omega) hl⟩
theorem lks_len (m : Nat) (l : List Vh) : (lks m l).length ≤ 41 := by
  have := lksW_len 40 m true l
  rw [lksW_true] at this
  omega
theorem links_both (a : Int) (l : List Vh) (hl : l.length ≤ 512) : ∃ ok P, P.length ≤ 900 ∧ path_Links 1000 (a, l, vgl_sha_keys) = some (ok, P) ∧ ref10_Links 1000 (a, l) = some (ok, P) := by
  by_cases h : a < 1 ∨ (l.length : Int) < a
  · exact ⟨false, [], by simp, plinks_bad h⟩
  · obtain ⟨m, rfl⟩ : ∃ m : Nat, a = m := ⟨a.toNat, by omega⟩
    exact ⟨true, _, Nat.le_trans (lks_len m l) (by omega), plinks_ok (by omega) (by omega) hl, rlinksL_ok (by omega) (by omega) hl⟩
theorem stp_deep (w : Bool) : ∀ (d m n : Nat), n ≤ 2 ^ d → ∀ e, d ≤ e → stp w e m n = stp w d m n
  | 0, m, n, h, e, _ => by rw [stp_nil (.inl (by simp at h; omega)), stp_nil (.inl (by simp at h; omega))]
  | d + 1, m, n, h, e, he => by
    obtain ⟨e, rfl⟩ : ∃ f, e = f + 1 := ⟨e - 1, by omega⟩
    by_cases a : n < 2 ∨ (w = true ∧ m = n)
    · rw [stp_nil a, stp_nil a]
    · obtain ⟨a1, a2, a3⟩ := sp_spec (n := n) (by omega)
      have a4 := sp_le (n := n) (d := d) (by omega) h
      by_cases b : m < sp n ∨ (w = true ∧ m = sp n)
      · rw [stp_left a b, stp_left a b, stp_deep w d _ _ (by omega) e (by omega)]
      · rw [stp_right a b, stp_right a b, stp_deep w d _ _ (by omega) e (by omega)]
end Go.Proofs.YtinhfigjddpdhaaDoor
/- The plain law of PathCounts. No condition. -/
set_option linter.unusedVariables false
set_option linter.unusedSimpArgs false
namespace Go.Proofs.YtinhfigjddpdhaaDoor
open Go
def PathCountsPure : Prop := ∀ (z0 : Ty.den (.sl 31 (.arr 32 (.int .u8)))) (z1 : Ty.den (.int .i64)), wfT (.sl 31 (.arr 32 (.int .u8))) z0 → wfT (.int .i64) z1 → ∃ k, law10_PathCounts k (z1, z0, vgl_sha_keys) = some true
theorem mod_place (a : Int) {n : Nat} (h : 0 < n) (hn : n ≤ 512) : ∃ m : Nat, m < n ∧ (condO (ilt (Int.tmod a (n : Int)) 0) (some ((WK .i64 (0 - (Int.tmod a (n : Int)))))) (some ((Int.tmod a (n : Int)))) : Option (Int)) = some (m : Int) := by
  have h1 : Int.tmod a (n : Int) < (n : Int) := Int.tmod_lt_of_pos a (by omega)
  have h2 : -(n : Int) < Int.tmod a (n : Int) := Int.lt_tmod_of_pos a (b := (n : Int)) (by omega)
  by_cases h : Int.tmod a (n : Int) < 0
  · refine ⟨(0 - Int.tmod a (n : Int)).toNat, by omega, ?_⟩
    rw [ilt_t h, condO_true, wk_i64 (by omega) (by omega)]
    congr 1; omega
  · refine ⟨(Int.tmod a (n : Int)).toNat, by omega, ?_⟩
    rw [ilt_f (by omega), condO_false]
    congr 1; omega
theorem lks_num (m : Nat) (l : List Vh) : ((lks m l).length : Int) = lnk m l.length := by
  unfold lks lnk
  have := pth_len true 40 m l
  rw [List.length_append]
  split <;> simp <;> omega
theorem counts_body (a : Int) (r : List Vh) (hr : r.length ≤ 20) : (condO (ieq (llen r) 0) (some (true)) (guardO ((nz (llen r))) ((condO (ilt (Int.tmod a (llen r)) 0) (some ((WK .i64 (0 - (Int.tmod a (llen r)))))) (some ((Int.tmod a (llen r)))) : Option (Int)).bind fun r1 => (path_Path 1000 (r1, r, vgl_sha_keys)).bind fun r2 => (path_Links 1000 ((WK .i64 (r1 + 1)), r, vgl_sha_keys)).bind fun r3 => (loopK (H := Int) (E := Int) 1000 (fun h4 => guardO ((nn (WK .u64 h4))) (condO (ile (shlK .i64 1 (WK .u64 h4)) (WK .i64 ((llen r) - 1))) (some (.inl ((WK .i64 (h4 + 1))))) (some (.inr (h4))))) (0)).bind fun r4 => condO true (condO r2.1 (condO r3.1 ((path_Long 1000 (r1, (llen r))).bind fun r5 => condO (ieq (llen r2.2) r5) ((path_LinksLong 1000 ((WK .i64 (r1 + 1)), (llen r))).bind fun r6 => condO (ieq (llen r3.2) r6) (condO (ile (llen r2.2) r4) ((path_Turns 1000 (r1, (llen r))).bind fun r7 => some ((ieq (llen r7) (llen r2.2)))) (some (false))) (some (false))) (some (false))) (some (false))) (some (false))) (some (false))))) = some true := by
  by_cases h0 : r.length = 0
  · refine (congrArg (condO · _ _) (ieq_t (by unfold llen; omega))).trans (condO_true _ _)
  · refine (congrArg (condO · _ _) (ieq_f (by unfold llen; omega))).trans ((condO_false _ _).trans ?_)
    obtain ⟨m, hm, hc⟩ := mod_place a (n := r.length) (by omega) (by omega)
    refine (guardO_pos (show nz _ from by unfold llen; omega)).trans ?_
    refine bind_of hc ?_
    have e1 : WK .i64 ((m : Int) + 1) = ((m + 1 : Nat) : Int) := by rw [wk_i64 (by omega) (by omega)]; omega
    rw [e1]
    refine bind_of (path_ok hm (by omega)) (bind_of (plinks_ok (by omega) (by omega) (by omega)) ?_)
    obtain ⟨P, hP⟩ : ∃ P, P = pth false 40 m r := ⟨_, rfl⟩
    obtain ⟨L, hL⟩ : ∃ L, L = lks (m + 1) r := ⟨_, rfl⟩
    have hpl : P.length = (stp false 40 m r.length).length := by rw [hP]; exact pth_len ..
    have hll : (L.length : Int) = lnk (m + 1) r.length := by rw [hL]; exact lks_num ..
    rw [← hP, ← hL]
    dsimp only
    have e2 : WK .i64 (llen r - 1) = ((r.length - 1 : Nat) : Int) := by rw [wk_i64 (by unfold llen; omega) (by unfold llen; omega)]; unfold llen; omega
    rw [e2]
    refine loop_bind (fun e h => ∃ i : Nat, h = (i : Int) ∧ i + e = 40 ∧ i ≤ 5) (fun e => ∃ j : Nat, e = (j : Int) ∧ r.length ≤ 2 ^ j ∧ j ≤ 5) 40 (by omega) ⟨0, rfl, by omega, by omega⟩ ?_ ?_
    · rintro e _ ⟨i, rfl, hi, hi5⟩
      have q1 : WK .u64 (i : Int) = (i : Int) := wk_u64 (by omega) (by omega)
      have q2 : shlK .i64 1 (i : Int) = ((2 ^ i : Nat) : Int) := shl_pow i (by omega)
      rw [q1, guardO_pos (show nn (i : Int) by unfold nn; omega), q2]
      obtain ⟨p, hp⟩ : ∃ p, p = 2 ^ i := ⟨_, rfl⟩
      by_cases c : p ≤ r.length - 1
      · rw [← hp, ile_t (by omega), condO_true, wk_i64 (by omega) (by omega)]
        refine .on (e - 1) (by omega) ⟨i + 1, by omega, by omega, ?_⟩
        rcases Nat.lt_or_ge i 5 with h | h
        · omega
        · have : i = 5 := by omega
          subst this
          rw [hp] at c
          omega
      · rw [← hp, ile_f (by omega), condO_false]
        exact .out ⟨i, rfl, by omega, hi5⟩
    · rintro _ ⟨j, rfl, hj, hj5⟩
      have hle : P.length ≤ j := by
        rw [hpl, stp_deep false j m r.length hj 40 (by omega)]
        exact stp_len ..
      rw [condO_true, condO_true, condO_true]
      refine bind_of (long_ok hm (by omega)) ?_
      rw [ieq_t (show llen P = _ by unfold llen; rw [hpl]), condO_true]
      refine bind_of (links_ok (by omega) (by omega) (by omega)) ?_
      rw [ieq_t (show llen L = _ from hll), condO_true, ile_t (show llen P ≤ (j : Int) by unfold llen; omega), condO_true]
      refine bind_of (turns_ok hm (by omega)) ?_
      rw [ieq_t]
      unfold llen
      rw [List.length_reverse, List.length_map, hpl]
theorem pathCounts_law : PathCountsPure := by
  intro l a _ _
  refine ⟨1000, ?_⟩
  unfold law10_PathCounts
  refine bind_of awake_ok ?_
  dsimp only
  refine condO_eq (fun h => ?_) (fun h => ?_)
  · have h20 : (20 : Int) < (l.length : Int) := by simpa [llen] using h
    refine (guardO_pos ⟨by omega, by omega, by unfold llen; omega, by omega⟩).trans ?_
    have hr : (ltake 20 l).length ≤ 20 := by unfold ltake; rw [List.length_take]; omega
    generalize ltake 20 l = r at hr ⊢
    exact counts_body a r hr
  · have hr : (l.length : Int) ≤ 20 := by simpa [llen] using h
    have hr : l.length ≤ 20 := by omega
    exact counts_body a l hr
end Go.Proofs.YtinhfigjddpdhaaDoor
