/- Texts of the proof, put together: part 10. No condition. -/
import Derived.Test.YtindlajlkghneaaGreatDoorT9
/- Paths and links in trees (out of P10 to P10e by mkz.py). No condition. -/
set_option linter.unusedVariables false
set_option linter.unusedSimpArgs false
namespace Go.Proofs.YtindlajlkghneaaGreatDoor
open Go
theorem len_code (k : Nat) {n : Nat} (h0 : 2 ≤ n) (h : n ≤ 1099511627776) : bits_Len64 k (WK .u64 (WK .i64 ((n : Int) - 1))) = some ((Nat.log2 (n - 1) + 1 : Nat) : Int) := by
  rw [wk_i64 (by omega) (by omega), wk_u64 (by omega) (by omega)]
  show L_math_bits_Len64 k _ = _
  unfold L_math_bits_Len64
  rw [guardO_pos ⟨by omega, by omega⟩]
  have e : ((n : Int) - 1).toNat = n - 1 := by omega
  rw [e, bitLen_log2 (n - 1) (by omega) (by omega)]
theorem sp_code {n : Nat} (h0 : 2 ≤ n) (h : n ≤ 1099511627776) : WK .i64 (((Nat.log2 (n - 1) + 1 : Nat) : Int) - 1) = ((Nat.log2 (n - 1) : Nat) : Int) ∧ shlK .i64 1 ((Nat.log2 (n - 1) : Nat) : Int) = ((sp n : Nat) : Int) := by
  have := log2_le40 h0 h
  refine ⟨?_, shl_pow _ (by omega)⟩
  rw [wk_i64 (by omega) (by omega)]
  omega
/-- The steps down from all n to the place m; w: to the part that ends behind m. -/
def stp (w : Bool) : Nat → Nat → Nat → List (Bool × Nat × Nat)
  | 0, _, _ => []
  | d + 1, m, n => if n < 2 ∨ (w = true ∧ m = n) then [] else if m < sp n ∨ (w = true ∧ m = sp n) then (false, sp n, m) :: stp w d m (sp n) else (true, n - sp n, m - sp n) :: stp w d (m - sp n) (n - sp n)
theorem stp_len (w : Bool) : ∀ d m n, (stp w d m n).length ≤ d
  | 0, _, _ => by simp [stp]
  | d + 1, m, n => by
    have h1 := stp_len w d m (sp n)
    have h2 := stp_len w d (m - sp n) (n - sp n)
    simp only [stp]
    split
    · simp
    · split <;> simp <;> omega
abbrev cst3 (p : Bool × Nat × Nat) : Bool × Int × Int := (p.1, (p.2.1 : Int), (p.2.2 : Int))
/-- Is it a place that there is? -/
def plc (w : Bool) (m n : Nat) : Prop := if w = true then 1 ≤ m ∧ m ≤ n else m < n
theorem stp_nil {w : Bool} {m n : Nat} (h : n < 2 ∨ (w = true ∧ m = n)) (d : Nat) : stp w d m n = [] := by
  cases d with
  | zero => rfl
  | succ d => simp only [stp, if_pos h]
theorem plc_left {w : Bool} {m n : Nat} (hp : plc w m n) (b : m < sp n ∨ (w = true ∧ m = sp n)) : plc w m (sp n) := by
  unfold plc at *
  cases w
  · simp at b hp ⊢; exact b
  · simp at b hp ⊢; omega
theorem plc_right {w : Bool} {m n : Nat} (h2 : 2 ≤ n) (hp : plc w m n) (b : ¬ (m < sp n ∨ (w = true ∧ m = sp n))) : plc w (m - sp n) (n - sp n) := by
  have := sp_spec h2
  unfold plc at *
  cases w
  · simp at b hp ⊢; omega
  · simp at b hp ⊢; omega
theorem down_ok {w : Bool} {m n : Nat} (hp : plc w m n) (hn : n ≤ 1099511627776) : path_down 1000 ((m : Int), (n : Int), w) = some ((stp w 40 m n).map cst3) := by
  obtain ⟨L, hL⟩ : ∃ L, L = (stp w 40 m n).map cst3 := ⟨_, rfl⟩
  rw [← hL]
  unfold path_down
  refine loop_bind (fun d h => ∃ (m n : Nat) (out : List (Bool × Int × Int)), h = ((m : Int), (n : Int), out) ∧ n ≤ 2 ^ d ∧ n ≤ 1099511627776 ∧ plc w m n ∧ out.length + d ≤ 40 ∧ out ++ (stp w d m n).map cst3 = L) (fun e => e.2.2 = L) 40 (by omega) ⟨m, n, [], rfl, hn, hn, hp, by simp, by simp [hL]⟩ ?_ (fun e he => by rw [he])
  clear hL hp hn
  rintro d _ ⟨m, n, out, rfl, h1, h2, h3, h4, h5⟩
  dsimp only
  by_cases a : n < 2 ∨ (w = true ∧ m = n)
  · have e1 : (condO (ilt (n : Int) 2) (some (.inl ())) (condO w (condO (ieq (m : Int) (n : Int)) (some (.inl ())) (some (.inr (())))) (some (.inr (())))) : Option ((Unit) ⊕ (Unit))) = some (.inl ()) := by
      by_cases a1 : n < 2
      · rw [ilt_t (by omega), condO_true]
      · obtain ⟨rfl, rfl⟩ := a.resolve_left a1
        rw [ilt_f (by omega), condO_false, condO_true, ieq_t rfl, condO_true]
    rw [e1]
    simp only [Option.bind_some, caseS_inl]
    refine .out ?_
    rw [stp_nil a] at h5
    simpa using h5
  · have a1 : 2 ≤ n := by omega
    have e1 : (condO (ilt (n : Int) 2) (some (.inl ())) (condO w (condO (ieq (m : Int) (n : Int)) (some (.inl ())) (some (.inr (())))) (some (.inr (())))) : Option ((Unit) ⊕ (Unit))) = some (.inr ()) := by
      rw [ilt_f (by omega), condO_false]
      cases w
      · rfl
      · rw [condO_true, ieq_f (by simp at a; omega), condO_false]
    rw [e1]
    obtain ⟨d, rfl⟩ := pow_le_two a1 h1
    obtain ⟨s1, s2, s3⟩ := sp_spec a1
    have s4 := sp_le a1 h1
    simp only [Option.bind_some, caseS_inr, ilt_f (show (2 : Int) ≤ (n : Int) by omega), condO_false, len_code 1000 a1 h2, (sp_code a1 h2).1, (sp_code a1 h2).2]
    rw [guardO_pos (show nn ((Nat.log2 (n - 1) : Nat) : Int) by unfold nn; omega)]
    simp only [stp, if_neg a] at h5
    have ap : ∀ x : Bool × Int × Int, appOk out [x] 24 := fun x => by unfold appOk; simp; omega
    have r1 : WK .i64 ((m : Int) - (sp n : Nat)) = (m : Int) - (sp n : Nat) := wk_i64 (by unfold plc at h3; cases w <;> simp at h3 <;> omega) (by unfold plc at h3; cases w <;> simp at h3 <;> omega)
    have r2 : WK .i64 ((n : Int) - (sp n : Nat)) = ((n - sp n : Nat) : Int) := by rw [wk_i64 (by omega) (by omega)]; omega
    by_cases b : m < sp n ∨ (w = true ∧ m = sp n)
    · rw [if_pos b] at h5
      have key : Goes (fun d h => ∃ (m n : Nat) (out : List (Bool × Int × Int)), h = ((m : Int), (n : Int), out) ∧ n ≤ 2 ^ d ∧ n ≤ 1099511627776 ∧ plc w m n ∧ out.length + d ≤ 40 ∧ out ++ (stp w d m n).map cst3 = L) (fun e : Int × Int × List (Bool × Int × Int) => e.2.2 = L) (d + 1) (some (.inl ((m : Int), (sp n : Int), out ++ [(false, (sp n : Int), (m : Int))]))) :=
        .on d (by omega) ⟨m, sp n, _, rfl, s4, by omega, plc_left h3 b, by simp; omega, by simpa [cst3] using h5⟩
      by_cases b1 : m < sp n
      · rw [ilt_t (by omega), condO_true, guardO_pos (ap _)]
        exact key
      · obtain ⟨rfl, b2⟩ := b.resolve_left b1
        rw [ilt_f (by omega), condO_false, condO_true, ieq_t (by omega), condO_true, guardO_pos (ap _)]
        exact key
    · rw [if_neg b] at h5
      have hm : sp n ≤ m := by omega
      have r1' : WK .i64 ((m : Int) - (sp n : Nat)) = ((m - sp n : Nat) : Int) := by rw [r1]; omega
      have key : Goes (fun d h => ∃ (m n : Nat) (out : List (Bool × Int × Int)), h = ((m : Int), (n : Int), out) ∧ n ≤ 2 ^ d ∧ n ≤ 1099511627776 ∧ plc w m n ∧ out.length + d ≤ 40 ∧ out ++ (stp w d m n).map cst3 = L) (fun e : Int × Int × List (Bool × Int × Int) => e.2.2 = L) (d + 1) (some (.inl (((m - sp n : Nat) : Int), ((n - sp n : Nat) : Int), out ++ [(true, ((n - sp n : Nat) : Int), ((m - sp n : Nat) : Int))]))) :=
        .on d (by omega) ⟨m - sp n, n - sp n, _, rfl, by omega, by omega, plc_right a1 h3 b, by simp; omega, by simpa [cst3] using h5⟩
      rw [ilt_f (by omega), condO_false, r1', r2]
      cases w
      · rw [condO_false, guardO_pos (ap _)]
        exact key
      · rw [condO_true, ieq_f (by simp at b; omega), condO_false, guardO_pos (ap _)]
        exact key
theorem rturns_ok {m n : Nat} (hp : m < n) (hn : n ≤ 1099511627776) : ref10_Turns 1000 ((m : Int), (n : Int)) = some ((stp false 40 m n).map (·.1)).reverse := by
  obtain ⟨L, hL⟩ : ∃ L, L = (stp false 40 m n).map (·.1) := ⟨_, rfl⟩
  have hl : L.length ≤ 40 := by rw [hL, List.length_map]; exact stp_len ..
  rw [← hL]
  unfold ref10_Turns
  dsimp only
  rw [ilt_f (show (0 : Int) ≤ (m : Int) by omega), ige_f (show (m : Int) < (n : Int) by omega), igt_f (show (n : Int) ≤ 1099511627776 by omega), condO_false, condO_false, condO_false]
  refine loop_bind (fun d h => ∃ (m n : Nat) (out : List Bool), h = ((m : Int), (n : Int), out) ∧ n ≤ 2 ^ d ∧ n ≤ 1099511627776 ∧ m < n ∧ out.length + d ≤ 40 ∧ out ++ (stp false d m n).map (·.1) = L) (fun e => e = L) 40 (by omega) ⟨m, n, [], rfl, hn, hn, hp, by simp, by simp [hL]⟩ ?_ ?_
  · clear hL hp hn
    rintro d _ ⟨m, n, out, rfl, h1, h2, h3, h4, h5⟩
    dsimp only
    by_cases a : n < 2
    · rw [igt_f (by omega), condO_false]
      refine .out ?_
      rw [stp_nil (.inl a)] at h5
      simpa using h5
    · have a1 : 2 ≤ n := by omega
      obtain ⟨d, rfl⟩ := pow_le_two a1 h1
      obtain ⟨s1, s2, s3⟩ := sp_spec a1
      have s4 := sp_le a1 h1
      rw [igt_t (by omega), condO_true, split_ok h2, if_neg a, Option.bind_some]
      have a2 : ¬ (n < 2 ∨ (false = true ∧ m = n)) := by simp; omega
      simp only [stp, if_neg a2] at h5
      have ap : ∀ x : Bool, appOk out [x] 1 := fun x => by unfold appOk; simp; omega
      by_cases b : m < sp n
      · rw [if_pos (Or.inl b)] at h5
        rw [ilt_t (by omega), condO_true, guardO_pos (ap _)]
        exact .on d (by omega) ⟨m, sp n, _, rfl, s4, by omega, b, by simp; omega, by simpa using h5⟩
      · rw [if_neg (show ¬ (m < sp n ∨ (false = true ∧ m = sp n)) by simp; omega)] at h5
        have r1 : WK .i64 ((m : Int) - (sp n : Nat)) = ((m - sp n : Nat) : Int) := by rw [wk_i64 (by omega) (by omega)]; omega
        have r2 : WK .i64 ((n : Int) - (sp n : Nat)) = ((n - sp n : Nat) : Int) := by rw [wk_i64 (by omega) (by omega)]; omega
        rw [ilt_f (by omega), condO_false, guardO_pos (ap _), r1, r2]
        exact .on d (by omega) ⟨m - sp n, n - sp n, _, rfl, by omega, by omega, by omega, by simp; omega, by simpa using h5⟩
  · intro e he
    subst he
    refine bind_of (?_ : loopK _ _ _ = some e.reverse) rfl
    rw [show ((WK .i64 (llen e - 1)), ([] : List Bool)) = (fun i : Nat => (((e.length : Int) - 1 - (i : Int)), e.reverse.take i)) 0 from by rw [wk_i64 (by unfold llen; omega) (by unfold llen; omega)]; simp]
    refine loopK_run (fun i : Nat => (((e.length : Int) - 1 - (i : Int)), e.reverse.take i)) e.length e.reverse 1000 (fun i hi => ?_) ?_ (by omega)
    · dsimp only
      have e1 : (e.length : Int) - 1 - (i : Int) = ((e.length - 1 - i : Nat) : Int) := by omega
      have e2 : WK .i64 ((e.length : Int) - 1 - (i : Int) - 1) = (e.length : Int) - 1 - ((i + 1 : Nat) : Int) := by rw [wk_i64 (by omega) (by omega)]; omega
      have ap : ∀ x : Bool, appOk (e.reverse.take i) [x] 1 := fun x => by unfold appOk; simp; omega
      rw [ige_t (by omega), condO_true, guardO_pos ⟨by omega, by unfold llen; omega⟩, guardO_pos (ap _), e2]
      have e3 : at_ .bool e ((e.length : Int) - 1 - (i : Int)) = e.reverse[i]'(by simpa using hi) := by
        rw [e1, at_nat (t := .bool) (by omega), List.getElem_reverse]
      rw [e3, List.take_add_one, List.getElem?_eq_getElem (by simpa using hi)]
      rfl
    · dsimp only
      rw [ige_f (by omega), condO_false, List.take_of_length_le (by simp)]
theorem rlong_ok' {m n : Nat} (hp : m < n) (hn : n ≤ 1099511627776) : ref10_Long 1000 ((m : Int), (n : Int)) = some ((stp false 40 m n).length : Int) := by
  unfold ref10_Long
  simp only [ilt_f (show (0 : Int) ≤ (m : Int) by omega), ige_f (show (m : Int) < (n : Int) by omega), igt_f (show (n : Int) ≤ 1099511627776 by omega), condO_false, rturns_ok hp hn, Option.bind_some, llen, List.length_reverse, List.length_map]
/-- Did a step go behind what was known? -/
theorem index_ok (l : List (Bool × Int × Int)) (hl : l.length ≤ 900) : ∃ r, slices_IndexFunc_2 1000 l = some r ∧ ige r 0 = l.any (·.1) := by
  unfold slices_IndexFunc_2
  refine loop_bindE (fun d h => ∃ i : Nat, h = (i : Int) ∧ i + d = l.length ∧ ∀ j (hj : j < l.length), j < i → (l[j]).1 = false) (fun e => match e with | .inl i => 0 ≤ i ∧ l.any (·.1) = true | .inr _ => l.any (·.1) = false) l.length (by omega) ⟨0, rfl, by omega, fun j _ h => by omega⟩ ?_ ?_
  · rintro d _ ⟨i, rfl, hi, hf⟩
    by_cases a : i < l.length
    · have e1 : at_ (.pair .bool (.pair (.int .i64) (.int .i64))) l (i : Int) = l[i] := at_nat (t := .pair .bool (.pair (.int .i64) (.int .i64))) a
      rw [ilt_t (show (i : Int) < llen l by unfold llen; omega), condO_true, guardO_pos ⟨by omega, by unfold llen; omega⟩]
      by_cases b : (l[i]).1 = true
      · have e2 : (at_ T6 l (i : Int)).1 = true := (congrArg (·.1) e1).trans b
        rw [e2, condO_true]
        exact .out ⟨by omega, List.any_eq_true.2 ⟨l[i], List.getElem_mem a, b⟩⟩
      · have b' : (l[i]).1 = false := by simpa using b
        have e2 : (at_ T6 l (i : Int)).1 = false := (congrArg (·.1) e1).trans b'
        rw [e2, condO_false, wk_i64 (by omega) (by omega)]
        exact .on (d - 1) (by omega) ⟨i + 1, by omega, by omega, fun j hj hlt => by
          rcases Nat.lt_or_ge j i with h | h
          · exact hf j hj h
          · obtain rfl : j = i := by omega
            exact b'⟩
    · rw [ilt_f (show llen l ≤ (i : Int) by unfold llen; omega), condO_false]
      refine .out ?_
      show l.any (·.1) = false
      rw [List.any_eq_false]
      intro x hx
      obtain ⟨j, hj, rfl⟩ := List.mem_iff_getElem.1 hx
      have := hf j hj (by omega)
      rw [this]
      decide
  · rintro (i | u) h
    · exact ⟨i, rfl, by rw [h.2]; exact ige_t h.1⟩
    · exact ⟨-1, rfl, by rw [show l.any (·.1) = false from h]; rfl⟩
theorem stp_left {w : Bool} {d m n : Nat} (a : ¬ (n < 2 ∨ (w = true ∧ m = n))) (b : m < sp n ∨ (w = true ∧ m = sp n)) : stp w (d + 1) m n = (false, sp n, m) :: stp w d m (sp n) := by
  rw [stp, if_neg a, if_pos b]
theorem stp_right {w : Bool} {d m n : Nat} (a : ¬ (n < 2 ∨ (w = true ∧ m = n))) (b : ¬ (m < sp n ∨ (w = true ∧ m = sp n))) : stp w (d + 1) m n = (true, n - sp n, m - sp n) :: stp w d (m - sp n) (n - sp n) := by
  rw [stp, if_neg a, if_neg b]
/-- How many links there are. -/
def lnk (m n : Nat) : Int := ((stp true 40 m n).length : Int) + if (stp true 40 m n).any (·.1) = true then 1 else 0
theorem rlinks_ok {m n : Nat} (h0 : 1 ≤ m) (hp : m ≤ n) (hn : n ≤ 1099511627776) : ref10_LinksLong 1000 ((m : Int), (n : Int)) = some (lnk m n) := by
  obtain ⟨S, hS⟩ : ∃ S, S = stp true 40 m n := ⟨_, rfl⟩
  have hl : S.length ≤ 40 := by rw [hS]; exact stp_len ..
  unfold ref10_LinksLong lnk
  dsimp only
  rw [ilt_f (show (1 : Int) ≤ (m : Int) by omega), igt_f (show (m : Int) ≤ (n : Int) by omega), igt_f (show (n : Int) ≤ 1099511627776 by omega), condO_false, condO_false, condO_false, ← hS]
  refine loop_bind (fun d h => ∃ (m n c : Nat) (w : Bool), h = ((m : Int), (n : Int), (c : Int), w) ∧ n ≤ 2 ^ d ∧ n ≤ 1099511627776 ∧ 1 ≤ m ∧ m ≤ n ∧ c + (stp true d m n).length = S.length ∧ (w && !((stp true d m n).any (·.1))) = !(S.any (·.1))) (fun e => e = ((S.length : Int), !(S.any (·.1)))) 40 (by omega) ⟨m, n, 0, true, rfl, hn, hn, h0, hp, by simp [hS], by simp [hS]⟩ ?_ ?_
  · clear hS hp hn h0
    rintro d _ ⟨m, n, c, w, rfl, h1, h2, h3, h4, h5, h6⟩
    dsimp only
    by_cases a : m = n
    · subst a
      rw [ine_f rfl, condO_false]
      rw [stp_nil (.inr ⟨rfl, rfl⟩)] at h5 h6
      refine .out ?_
      have h5' : c = S.length := by simpa using h5
      rw [h5']
      congr 1
      simpa using h6
    · have a1 : 2 ≤ n := by omega
      obtain ⟨d, rfl⟩ := pow_le_two a1 h1
      obtain ⟨s1, s2, s3⟩ := sp_spec a1
      have s4 := sp_le a1 h1
      rw [ine_t (by omega), condO_true, split_ok h2, if_neg (by omega), Option.bind_some]
      have a2 : ¬ (n < 2 ∨ (true = true ∧ m = n)) := by simp; omega
      have ec : WK .i64 ((c : Int) + 1) = ((c + 1 : Nat) : Int) := by
        have : c ≤ S.length := by omega
        rw [wk_i64 (by omega) (by omega)]; omega
      by_cases b : m ≤ sp n
      · rw [stp_left a2 (show m < sp n ∨ (true = true ∧ m = sp n) by simp; omega)] at h5 h6
        rw [ile_t (by omega), condO_true, ec]
        exact .on d (by omega) ⟨m, sp n, c + 1, w, rfl, s4, by omega, h3, b, by simp at h5; omega, by simpa using h6⟩
      · rw [stp_right a2 (show ¬ (m < sp n ∨ (true = true ∧ m = sp n)) by simp; omega)] at h5 h6
        have r1 : WK .i64 ((m : Int) - (sp n : Nat)) = ((m - sp n : Nat) : Int) := by rw [wk_i64 (by omega) (by omega)]; omega
        have r2 : WK .i64 ((n : Int) - (sp n : Nat)) = ((n - sp n : Nat) : Int) := by rw [wk_i64 (by omega) (by omega)]; omega
        rw [ile_f (by omega), condO_false, ec, r1, r2]
        exact .on d (by omega) ⟨m - sp n, n - sp n, c + 1, false, rfl, by omega, by omega, by omega, by omega, by simp at h5; omega, by simpa using h6⟩
  · rintro e rfl
    dsimp only
    cases hb : S.any (·.1)
    · simp
    · simp only [Bool.not_true, Bool.not_false, condO_true, Option.bind_some, if_true]
      rw [wk_i64 (by omega) (by omega)]
/-- The row above. -/
def ab : List Vh → List Vh
  | a :: b :: r => node a b :: ab r
  | [x] => [x]
  | [] => []
theorem ab_one (x : Vh) : ab [x] = [x] := by simp [ab]
theorem ab_nil : ab [] = [] := by simp [ab]
theorem ab_len : ∀ l : List Vh, (ab l).length = (l.length + 1) / 2
  | [] => by simp [ab]
  | [_] => by simp [ab]
  | a :: b :: r => by simp only [ab, List.length_cons, ab_len r]; omega
theorem ab_get : ∀ (l : List Vh) (i : Nat) (h : 2 * i + 1 < l.length), (ab l)[i]'(by rw [ab_len]; omega) = node l[2 * i] l[2 * i + 1]
  | [], i, h => by simp at h
  | [_], i, h => by simp at h
  | a :: b :: r, 0, h => rfl
  | a :: b :: r, i + 1, h => by
    have := ab_get r i (by simp at h; omega)
    simpa [ab, Nat.mul_add] using this
theorem ab_last : ∀ (l : List Vh) (h : l.length % 2 = 1), ab l = (ab l).take (l.length / 2) ++ [l[l.length - 1]'(by omega)]
  | [], h => by simp at h
  | [x], h => by simp [ab]
  | a :: b :: r, h => by
    have hr : r.length % 2 = 1 := by simp at h; omega
    have := ab_last r hr
    have e : (a :: b :: r).length / 2 = r.length / 2 + 1 := by simp; omega
    rw [e]
    simp only [ab, List.take_succ_cons, List.cons_append, List.cons.injEq, true_and]
    rw [this]
    congr 1
    · rw [List.take_append_of_le_length (by rw [List.length_take, ab_len]; omega), List.take_take, Nat.min_self]
    · have h1 : (a :: b :: r).length - 1 = (r.length - 1) + 1 + 1 := by simp; omega
      simp only [h1, List.getElem_cons_succ]
theorem ab_app : ∀ (l r : List Vh), l.length % 2 = 0 → ab (l ++ r) = ab l ++ ab r
  | [], r, _ => rfl
  | [_], r, h => by simp at h
  | a :: b :: l, r, h => by
    simp only [ab, List.cons_append]
    rw [ab_app l r (by simp at h; omega)]
/-- Level by level, or by halves. -/
theorem rt_ab : ∀ (d : Nat) (l : List Vh), 2 ≤ l.length → l.length ≤ 2 ^ (d + 1) → rt (d + 1) l = rt d (ab l) := by
  intro d
  induction d with
  | zero =>
    intro l h1 h2
    match l, h1, h2 with
    | [a, b], _, _ => rfl
    | a :: b :: c :: r, _, h2 => simp at h2 <;> omega
  | succ d ih =>
    intro l h1 h2
    by_cases h3 : l.length = 2
    · match l, h3 with
      | [a, b], _ =>
        have e2 : sp [a, b].length = 1 := rfl
        rw [rt_big (by simp), rt_small (l := ab [a, b]) (by simp [ab]), e2, rt_small (l := [a, b].take 1) (by simp), rt_small (l := [a, b].drop 1) (by simp)]
        rfl
    · obtain ⟨a1, a2, a3⟩ := sp_spec (n := l.length) h1
      have a4 := sp_le (n := l.length) (d := d + 1) h1 h2
      obtain ⟨j, hj⟩ : ∃ j, sp l.length = 2 ^ j := ⟨_, rfl⟩
      have hj0 : j ≠ 0 := by
        rintro rfl
        rw [Nat.pow_zero] at hj
        omega
      obtain ⟨j, rfl⟩ : ∃ i, j = i + 1 := ⟨j - 1, by omega⟩
      rw [Nat.pow_succ] at hj
      have hpd : 2 ^ (d + 1) = 2 * 2 ^ d := by rw [Nat.pow_succ, Nat.mul_comm]
      have hs : sp ((ab l).length) = 2 ^ j := by
        rw [ab_len]
        apply sp_unique
        · omega
        · rw [Nat.pow_succ]; omega
      have hl : (ab l).length = (l.length + 1) / 2 := ab_len l
      have e : ab l = ab (l.take (2 ^ j * 2)) ++ ab (l.drop (2 ^ j * 2)) := by
        rw [← ab_app _ _ (by rw [List.length_take]; omega), List.take_append_drop]
      have et : (ab l).take (2 ^ j) = ab (l.take (2 ^ j * 2)) := by
        rw [e, List.take_left']
        rw [ab_len, List.length_take]; omega
      have ed : (ab l).drop (2 ^ j) = ab (l.drop (2 ^ j * 2)) := by
        rw [e, List.drop_left']
        rw [ab_len, List.length_take]; omega
      rw [rt_big h1, rt_big (l := ab l) (d := d) (by omega), hs, hj, et, ed]
      congr 1
      · exact ih _ (by rw [List.length_take]; omega) (by rw [List.length_take]; omega)
      · by_cases h5 : (l.drop (2 ^ j * 2)).length = 1
        · obtain ⟨x, hx⟩ := List.length_eq_one_iff.1 h5
          rw [hx, rt_small (by simp), rt_small (by simp [ab])]
          rfl
        · rw [List.length_drop] at h5
          exact ih _ (by rw [List.length_drop]; omega) (by rw [List.length_drop]; omega)
theorem above_ok (l : List Vh) (hl : l.length ≤ 900) : leaf_above 1000 (l, vgl_sha_keys) = some (ab l) := by
  have h0 := ab_len l
  unfold leaf_above
  dsimp only
  refine (guardO_pos (by decide)).trans ?_
  have ed : WK .i64 (Int.tdiv (llen l) 2) = ((l.length / 2 : Nat) : Int) := by
    show WK .i64 ((l.length / 2 : Nat) : Int) = _
    exact wk_nat (by omega)
  rw [ed]
  refine bind_of (loopK_run (fun i : Nat => ((i : Int), (ab l).take i)) (l.length / 2) ((ab l).take (l.length / 2)) 1000 (fun i hi => ?_) ?_ (by omega)) ?_
  · dsimp only
    refine (congrArg (condO · _ _) (ilt_t (by omega))).trans ((condO_true _ _).trans ?_)
    have e1 : WK .i64 (2 * (i : Int)) = ((2 * i : Nat) : Int) := by rw [wk_i64 (by omega) (by omega)]; omega
    have e2 : WK .i64 (((2 * i : Nat) : Int) + 1) = ((2 * i + 1 : Nat) : Int) := by rw [wk_i64 (by omega) (by omega)]; omega
    have e3 : at_ T0 l ((2 * i : Nat) : Int) = l[2 * i] := at_nat (t := T0) (by omega)
    have e4 : at_ T0 l ((2 * i + 1 : Nat) : Int) = l[2 * i + 1] := at_nat (t := T0) (by omega)
    rw [e1, e2, e3, e4]
    refine (guardO_pos ⟨by omega, by unfold llen; omega⟩).trans ((guardO_pos ⟨by omega, by unfold llen; omega⟩).trans ?_)
    refine (guardO_pos (node_cat1 _)).trans ((guardO_pos (node_cat2 _ _)).trans (bind_of (node_sha _ _) ?_))
    refine (guardO_pos (show appOk _ _ _ from by unfold appOk; simp; omega)).trans ?_
    rw [wk_i64 (x := (i : Int) + 1) (by omega) (by omega), List.take_add_one, List.getElem?_eq_getElem (by omega), ab_get l i (by omega)]
    rfl
  · dsimp only
    exact (congrArg (condO · _ _) (ilt_f (by omega))).trans (condO_false _ _)
  · have key : (guardO ((nz 2)) (condO (ieq (Int.tmod (llen l) 2) 1) (guardO ((inR (WK .i64 ((llen l) - 1)) (llen l))) (guardO ((appOk ((ab l).take (l.length / 2)) ([(at_ T0 l (WK .i64 ((llen l) - 1)))] : List Vh) 32)) (some ((((ab l).take (l.length / 2)) ++ ([(at_ T0 l (WK .i64 ((llen l) - 1)))] : List Vh)))))) (some ((ab l).take (l.length / 2)))) : Option (List Vh)) = some (ab l) := by
      refine (guardO_pos (by decide)).trans ?_
      have em : Int.tmod (llen l) 2 = ((l.length % 2 : Nat) : Int) := rfl
      rw [em]
      by_cases h1 : l.length % 2 = 1
      · refine (congrArg (condO · _ _) (ieq_t (by omega))).trans ((condO_true _ _).trans ?_)
        have e1 : WK .i64 (llen l - 1) = ((l.length - 1 : Nat) : Int) := by rw [wk_i64 (by unfold llen; omega) (by unfold llen; omega)]; unfold llen; omega
        have e2 : at_ T0 l ((l.length - 1 : Nat) : Int) = l[l.length - 1] := at_nat (t := T0) (by omega)
        rw [e1, e2]
        refine (guardO_pos ⟨by omega, by unfold llen; omega⟩).trans ((guardO_pos (show appOk _ _ _ from by unfold appOk; simp; omega)).trans ?_)
        exact congrArg some (ab_last l h1).symm
      · refine (congrArg (condO · _ _) (ieq_f (by omega))).trans ((condO_false _ _).trans ?_)
        rw [List.take_of_length_le (by omega)]
    exact bind_of key rfl
theorem clone_ok (l : List Vh) (h : l.length ≤ 900) : slices_Clone 1000 l = some l := by
  have hb : l.length * 32 ≤ 140737488355328 := by omega
  exact guardO_pos hb
/-- The program's root. -/
theorem root_ok {d : Nat} (l : List Vh) (h : l.length ≤ 2 ^ d) (hd : d ≤ 9) : leaf_Root 1000 (l, vgl_sha_keys) = some (rt d l) := by
  have hb : l.length ≤ 512 := Nat.le_trans h (Nat.le_trans (Nat.pow_le_pow_right (by omega) hd) (by decide))
  unfold leaf_Root
  dsimp only
  by_cases h0 : l.length = 0
  · have : l = [] := List.eq_nil_of_length_eq_zero h0
    subst this
    refine (congrArg (condO · _ _) (ieq_t (by simp))).trans ((condO_true _ _).trans ?_)
    refine bind_of (sha_of [] (by simp) (by simp)) ?_
    rw [rt_small (by simp)]; rfl
  · refine (congrArg (condO · _ _) (ieq_f (by unfold llen; omega))).trans ((condO_false _ _).trans ?_)
    have hL : ∃ r, leaf_Levels 1000 (l, vgl_sha_keys) = some r ∧ ∃ o, r = o ++ [[rt d l]] ∧ o.length ≤ 30 := by
      unfold leaf_Levels
      dsimp only
      rw [clone_ok l (by omega), Option.bind_some]
      refine loop_bindE (fun e h => ∃ (row : List Vh) (o : List (List Vh)), h = (row, o ++ [row]) ∧ row.length ≤ 2 ^ e ∧ row ≠ [] ∧ rt e row = rt d l ∧ o.length + e ≤ d ∧ row.length ≤ 900) (fun e => ∃ o, e = o ++ [[rt d l]] ∧ o.length ≤ 30) d (by omega) ⟨l, [], rfl, h, by intro e; subst e; exact h0 rfl, rfl, by simp, by omega⟩ ?_ (fun e he => ⟨e, rfl, he⟩)
      rintro e _ ⟨row, o, rfl, r1, r2, r3, r4, r5⟩
      dsimp only
      by_cases a : row.length < 2
      · refine (congrArg (fun b => Goes _ _ _ (condO b _ _)) (ilt_t (a := llen row) (b := 2) (by unfold llen; omega))).mpr ?_
        rw [condO_true]
        refine .out ⟨o, ?_, by omega⟩
        have h1 : row.length = 1 := by
          have : row.length ≠ 0 := fun e => r2 (List.eq_nil_of_length_eq_zero e)
          omega
        obtain ⟨x, rfl⟩ := List.length_eq_one_iff.1 h1
        rw [rt_small (by simp)] at r3
        rw [← r3]; rfl
      · refine (congrArg (fun b => Goes _ _ _ (condO b _ _)) (ilt_f (a := llen row) (b := 2) (by unfold llen; omega))).mpr ?_
        obtain ⟨e, rfl⟩ := pow_le_two (n := row.length) (by omega) r1
        have hal := ab_len row
        rw [condO_false, above_ok row r5, Option.bind_some, guardO_pos (show appOk _ _ _ from by unfold appOk; simp; omega)]
        have hpd : 2 ^ (e + 1) = 2 * 2 ^ e := by rw [Nat.pow_succ, Nat.mul_comm]
        exact .on e (by omega) ⟨ab row, o ++ [row], by simp, by omega, by intro h; rw [h] at hal; simp at hal; omega, by rw [← rt_ab e row (by omega) r1]; exact r3, by simp; omega, by omega⟩
    obtain ⟨_, hL, o, rfl, ho⟩ := hL
    refine bind_of hL ?_
    have e1 : WK .i64 (llen (o ++ [[rt d l]]) - 1) = ((o.length : Nat) : Int) := by
      rw [show llen (o ++ [[rt d l]]) = (o.length : Int) + 1 by unfold llen; simp]
      rw [wk_i64 (by omega) (by omega)]; omega
    have e2 : at_ T7 (o ++ [[rt d l]]) ((o.length : Nat) : Int) = [rt d l] := by
      rw [at_nat (t := T7) (by simp)]; simp
    have e3 : llen (o ++ [[rt d l]]) = (o.length : Int) + 1 := by unfold llen; simp
    rw [e1, e2, e3]
    exact (guardO_pos ⟨by omega, by omega⟩).trans ((guardO_pos ⟨by decide, by show (0 : Int) < 1; decide⟩).trans rfl)
theorem reverse_ok (l : List Vh) (hl : l.length ≤ 900) : slices_Reverse 1000 l = some l.reverse := by
  unfold slices_Reverse
  refine loop_bind (fun d h => ∃ (t : Nat) (L : List Vh), h = ((t : Int), (l.length : Int) - 1 - (t : Int), L) ∧ d = l.length - t ∧ t ≤ l.length ∧ L.length = l.length ∧ ∀ j, j < l.length → L[j]? = if j < t ∨ l.length - t ≤ j then l[l.length - 1 - j]? else l[j]?) (fun e => e = l.reverse) l.length (by omega)
    ⟨0, l, by rw [wk_i64 (by unfold llen; omega) (by unfold llen; omega)]; unfold llen; simp, by omega, by omega, rfl, fun j hj => by rw [if_neg (by omega)]⟩ ?_ (fun e he => by rw [he])
  rintro d _ ⟨t, L, rfl, hd, ht, hL, hj⟩
  dsimp only
  by_cases a : (t : Int) < (l.length : Int) - 1 - (t : Int)
  · have e0 : (l.length : Int) - 1 - (t : Int) = ((l.length - 1 - t : Nat) : Int) := by omega
    rw [ilt_t a, condO_true, e0]
    rw [guardO_pos ⟨by omega, by unfold llen; omega⟩, guardO_pos ⟨by omega, by unfold llen; omega⟩, guardO_pos ⟨by omega, by unfold llen; omega⟩, guardO_pos ⟨by omega, by unfold llen; rw [List.length_set]; omega⟩]
    have e1 : WK .i64 ((t : Int) + 1) = ((t + 1 : Nat) : Int) := by rw [wk_i64 (by omega) (by omega)]; omega
    have e2 : WK .i64 (((l.length - 1 - t : Nat) : Int) - 1) = (l.length : Int) - 1 - ((t + 1 : Nat) : Int) := by rw [wk_i64 (by omega) (by omega)]; omega
    have e3 : at_ T0 L ((l.length - 1 - t : Nat) : Int) = L[l.length - 1 - t] := at_nat (t := T0) (by omega)
    have e4 : at_ T0 L (t : Int) = L[t] := at_nat (t := T0) (by omega)
    rw [e1, e2, e3, e4]
    unfold lset
    rw [Int.toNat_natCast, Int.toNat_natCast]
    refine .on (l.length - (t + 1)) (by omega) ⟨t + 1, _, rfl, rfl, by omega, by simp [hL], fun j hjl => ?_⟩
    have g1 := hj t (by omega)
    have g2 := hj (l.length - 1 - t) (by omega)
    rw [if_neg (by omega), List.getElem?_eq_getElem (by omega)] at g1 g2
    rw [List.getElem?_set, List.getElem?_set]
    simp only [List.length_set]
    by_cases b1 : l.length - 1 - t = j
    · rw [if_pos b1, if_pos (by omega), if_pos (by omega), g1]
      congr 1; omega
    · rw [if_neg b1]
      by_cases b2 : t = j
      · rw [if_pos b2, if_pos (by omega), if_pos (by omega), g2]
        congr 1; omega
      · rw [if_neg b2, hj j hjl]
        by_cases b3 : j < t ∨ l.length - t ≤ j
        · rw [if_pos b3, if_pos (by omega)]
        · rw [if_neg b3, if_neg (by omega)]
  · rw [ilt_f (by omega), condO_false]
    refine .out ?_
    apply List.ext_getElem?
    intro j
    by_cases b : j < l.length
    · rw [hj j b, List.getElem?_reverse b]
      split
      · rfl
      · congr 1; omega
    · rw [List.getElem?_eq_none (by omega), List.getElem?_eq_none (by simp; omega)]
theorem root40 (l : List Vh) (h : l.length ≤ 512) : leaf_Root 1000 (l, vgl_sha_keys) = some (rt 40 l) := by
  rw [root_ok (d := 9) l (by simpa using h) (by omega), rt_deep 9 l (by simpa using h) 40 (by omega)]
/-- What stands beside the way down, the last one first. -/
def pth (w : Bool) : Nat → Nat → List Vh → List Vh
  | 0, _, _ => []
  | d + 1, m, l => if l.length < 2 ∨ (w = true ∧ m = l.length) then [] else
    if m < sp l.length ∨ (w = true ∧ m = sp l.length) then pth w d m (l.take (sp l.length)) ++ [rt 40 (l.drop (sp l.length))] else pth w d (m - sp l.length) (l.drop (sp l.length)) ++ [rt 40 (l.take (sp l.length))]
theorem pth_nil {w : Bool} {m : Nat} {l : List Vh} (h : l.length < 2 ∨ (w = true ∧ m = l.length)) (d : Nat) : pth w d m l = [] := by
  cases d with
  | zero => rfl
  | succ d => rw [pth, if_pos h]
theorem pth_left {w : Bool} {d m : Nat} {l : List Vh} (a : ¬ (l.length < 2 ∨ (w = true ∧ m = l.length))) (b : m < sp l.length ∨ (w = true ∧ m = sp l.length)) : pth w (d + 1) m l = pth w d m (l.take (sp l.length)) ++ [rt 40 (l.drop (sp l.length))] := by
  rw [pth, if_neg a, if_pos b]
theorem pth_right {w : Bool} {d m : Nat} {l : List Vh} (a : ¬ (l.length < 2 ∨ (w = true ∧ m = l.length))) (b : ¬ (m < sp l.length ∨ (w = true ∧ m = sp l.length))) : pth w (d + 1) m l = pth w d (m - sp l.length) (l.drop (sp l.length)) ++ [rt 40 (l.take (sp l.length))] := by
  rw [pth, if_neg a, if_neg b]
theorem pth_len (w : Bool) : ∀ d m (l : List Vh), (pth w d m l).length = (stp w d m l.length).length
  | 0, _, _ => rfl
  | d + 1, m, l => by
    by_cases a : l.length < 2 ∨ (w = true ∧ m = l.length)
    · rw [pth_nil a, stp_nil a]; rfl
    · by_cases b : m < sp l.length ∨ (w = true ∧ m = sp l.length)
      · rw [pth_left a b, stp_left a b, List.length_append, pth_len w d, len_take l (by omega)]; rfl
      · rw [pth_right a b, stp_right a b, List.length_append, pth_len w d, List.length_drop]; rfl
theorem beside_ok (w : Bool) (m : Nat) (l : List Vh) (hl : l.length ≤ 512) : path_beside 1000 (l, (stp w 40 m l.length).map cst3, vgl_sha_keys) = some (pth w 40 m l) := by
  obtain ⟨S, hS⟩ : ∃ S, S = (stp w 40 m l.length).map cst3 := ⟨_, rfl⟩
  have hSl : S.length ≤ 40 := by rw [hS, List.length_map]; exact stp_len ..
  have hP := pth_len w 40 m l
  have hP2 : (pth w 40 m l).length ≤ 40 := by rw [hP]; exact stp_len ..
  obtain ⟨R, hR⟩ : ∃ R, R = pth w 40 m l := ⟨_, rfl⟩
  rw [← hR] at hP2
  rw [← hS, ← hR]
  unfold path_beside
  dsimp only
  refine loop_bind (fun e h => ∃ (i d m' : Nat) (l' out : List Vh), h = ((i : Int), l', out) ∧ i + e = S.length ∧ S.drop i = (stp w d m' l'.length).map cst3 ∧ l'.length ≤ 512 ∧ out ++ (pth w d m' l').reverse = R.reverse) (fun e => e = R.reverse) S.length (by omega) ⟨0, 40, m, l, [], rfl, by omega, by simp [hS], hl, by simp [hR]⟩ ?_ ?_
  · clear hP hS hR
    rintro e _ ⟨i, d, m', l', out, rfl, hi, hd, hl', ho⟩
    dsimp only
    by_cases a : i < S.length
    · have hne : stp w d m' l'.length ≠ [] := by
        intro h
        rw [h, List.map_nil] at hd
        have := congrArg List.length hd
        rw [List.length_drop] at this
        simp at this; omega
      have h1 : ¬ (l'.length < 2 ∨ (w = true ∧ m' = l'.length)) := fun h => hne (stp_nil h d)
      obtain ⟨d, rfl⟩ : ∃ d', d = d' + 1 := by
        cases d with
        | zero => exact absurd rfl hne
        | succ d => exact ⟨d, rfl⟩
      have h2 : 2 ≤ l'.length := by omega
      obtain ⟨s1, s2, s3⟩ := sp_spec h2
      have hdr : S.drop i = S[i] :: S.drop (i + 1) := List.drop_eq_getElem_cons a
      have hat : at_ T6 S (i : Int) = S[i] := at_nat (t := T6) a
      have hlen : (pth w (d + 1) m' l').length + out.length ≤ 40 := by
        have := congrArg List.length ho
        simp at this; omega
      rw [ilt_t (show (i : Int) < llen S by unfold llen; omega), condO_true, guardO_pos ⟨by omega, by unfold llen; omega⟩, hat]
      have ei : WK .i64 ((i : Int) + 1) = ((i + 1 : Nat) : Int) := wk_i64 (by omega) (by omega)
      have ap : ∀ x : Vh, appOk out [x] 32 := fun x => by unfold appOk; simp; omega
      by_cases b : m' < sp l'.length ∨ (w = true ∧ m' = sp l'.length)
      · rw [stp_left h1 b, hdr, List.map_cons, List.cons.injEq] at hd
        obtain ⟨hd1, hd2⟩ := hd
        rw [pth_left h1 b] at ho
        rw [hd1]
        dsimp only
        rw [condO_false, ltake_nat, ldrop_nat]
        rw [guardO_pos ⟨by omega, by unfold llen; omega, by omega, by omega⟩, root40 _ (by rw [List.length_drop]; omega), Option.bind_some, guardO_pos (ap _), guardO_pos ⟨by omega, by omega, by unfold llen; omega, by omega⟩, ei]
        refine .on (e - 1) (by omega) ⟨i + 1, d, m', l'.take (sp l'.length), _, rfl, by omega, by rw [len_take l' h2]; exact hd2, by rw [List.length_take]; omega, ?_⟩
        simpa using ho
      · rw [stp_right h1 b, hdr, List.map_cons, List.cons.injEq] at hd
        obtain ⟨hd1, hd2⟩ := hd
        rw [pth_right h1 b] at ho
        rw [hd1]
        dsimp only
        have ek : WK .i64 (llen l' - ((l'.length - sp l'.length : Nat) : Int)) = ((sp l'.length : Nat) : Int) := by rw [wk_i64 (by unfold llen; omega) (by unfold llen; omega)]; unfold llen; omega
        rw [condO_true, ek, ltake_nat, ldrop_nat]
        rw [guardO_pos ⟨by omega, by omega, by unfold llen; omega, by omega⟩, root40 _ (by rw [List.length_take]; omega), Option.bind_some, guardO_pos (ap _), guardO_pos ⟨by omega, by unfold llen; omega, by omega, by omega⟩, ei]
        refine .on (e - 1) (by omega) ⟨i + 1, d, m' - sp l'.length, l'.drop (sp l'.length), _, rfl, by omega, by rw [List.length_drop]; exact hd2, by rw [List.length_drop]; omega, ?_⟩
        simpa using ho
    · rw [ilt_f (show llen S ≤ (i : Int) by unfold llen; omega), condO_false]
      refine .out ?_
      have hd0 : stp w d m' l'.length = [] := by
        rw [List.drop_eq_nil_of_le (by omega)] at hd
        simpa using hd.symm
      have hp0 : pth w d m' l' = [] := List.eq_nil_of_length_eq_zero (by rw [pth_len, hd0]; rfl)
      rw [hp0] at ho
      simpa using ho
  · intro e he
    rw [he]
    refine bind_of (reverse_ok _ (by simp; omega)) ?_
    simp
theorem path_ok {m : Nat} {l : List Vh} (hm : m < l.length) (hl : l.length ≤ 512) : path_Path 1000 ((m : Int), l, vgl_sha_keys) = some (true, pth false 40 m l) := by
  unfold path_Path
  dsimp only
  rw [ilt_f (by omega), condO_false, ige_f (show (m : Int) < llen l by unfold llen; omega), condO_false]
  refine bind_of (down_ok (w := false) (show plc false m l.length by simpa [plc] using hm) (by omega)) (bind_of (beside_ok false m l hl) rfl)
theorem path_bad {a : Int} {l : List Vh} (h : a < 0 ∨ (l.length : Int) ≤ a) : path_Path 1000 (a, l, vgl_sha_keys) = some (false, []) ∧ ref10_Path 1000 (a, l) = some (false, []) := by
  constructor
  · unfold path_Path
    dsimp only
    by_cases h0 : a < 0
    · rw [ilt_t h0, condO_true]
    · rw [ilt_f (by omega), condO_false, ige_t (show llen l ≤ a by unfold llen; omega), condO_true]
  · unfold ref10_Path
    dsimp only
    by_cases h0 : a < 0
    · rw [ilt_t h0, condO_true]
    · rw [ilt_f (by omega), condO_false, ige_t (show llen l ≤ a by unfold llen; omega), condO_true]
theorem rsplit {l : List Vh} (h : 2 ≤ l.length) (hl : l.length ≤ 512) : ref09_Split 1000 (llen l) = some ((sp l.length : Nat) : Int) := by
  have := split_ok (n := l.length) (by omega)
  rw [if_neg (by omega)] at this
  exact this
theorem rpath_rec : ∀ (d r m : Nat) (l : List Vh), l.length ≤ 2 ^ d → m < l.length → l.length ≤ 512 → d < r → r ≤ 1000 → recN ref10_path_B r 1000 ((m : Int), l) = some (pth false d m l)
  | d, 0, m, l, _, _, _, h, _ => by omega
  | d, r + 1, m, l, h, hm, hb, hr, hr2 => by
    show ref10_path_B (recN ref10_path_B r) 1000 ((m : Int), l) = _
    unfold ref10_path_B
    dsimp only
    by_cases h1 : l.length = 1
    · refine (congrArg (condO · _ _) (ieq_t (by unfold llen; omega))).trans ((condO_true _ _).trans ?_)
      rw [pth_nil (.inl (by omega))]
    · refine (congrArg (condO · _ _) (ieq_f (by unfold llen; omega))).trans ((condO_false _ _).trans ?_)
      have h2 : 2 ≤ l.length := by omega
      obtain ⟨d, rfl⟩ := pow_le_two h2 h
      obtain ⟨a1, a2, a3⟩ := sp_spec h2
      have a4 := sp_le h2 h
      have a : ¬ (l.length < 2 ∨ (false = true ∧ m = l.length)) := by simp; omega
      have hlen := pth_len false d
      refine bind_of (rsplit h2 hb) ?_
      rw [ltake_nat, ldrop_nat]
      by_cases b : m < sp l.length
      · refine (congrArg (condO · _ _) (ilt_t (by omega))).trans ((condO_true _ _).trans ?_)
        repeat refine (guardO_pos ⟨by first | omega | (unfold llen; omega), by first | omega | (unfold llen; omega), by first | omega | (unfold llen; omega), by first | omega | (unfold llen; omega)⟩).trans ?_
        refine bind_of (rpath_rec d r m (l.take (sp l.length)) (by rw [List.length_take]; omega) (by rw [List.length_take]; omega) (by rw [List.length_take]; omega) (by omega) (by omega)) ?_
        refine bind_of (rroot40 _ (by rw [List.length_drop]; omega)) ?_
        have hle := hlen m (l.take (sp l.length))
        have hle2 := stp_len false d m (l.take (sp l.length)).length
        rw [pth_left a (.inl b)]
        exact guardO_pos (show appOk _ _ _ from by unfold appOk; simp; omega)
      · refine (congrArg (condO · _ _) (ilt_f (by omega))).trans ((condO_false _ _).trans ?_)
        repeat refine (guardO_pos ⟨by first | omega | (unfold llen; omega), by first | omega | (unfold llen; omega), by first | omega | (unfold llen; omega), by first | omega | (unfold llen; omega)⟩).trans ?_
        have e1 : WK .i64 ((m : Int) - ((sp l.length : Nat) : Int)) = ((m - sp l.length : Nat) : Int) := by rw [wk_i64 (by omega) (by omega)]; omega
        rw [e1]
        refine bind_of (rpath_rec d r (m - sp l.length) (l.drop (sp l.length)) (by rw [List.length_drop]; omega) (by rw [List.length_drop]; omega) (by rw [List.length_drop]; omega) (by omega) (by omega)) ?_
        refine bind_of (rroot40 _ (by rw [List.length_take]; omega)) ?_
        have hle := hlen (m - sp l.length) (l.drop (sp l.length))
        have hle2 := stp_len false d (m - sp l.length) (l.drop (sp l.length)).length
        rw [pth_right a (by simp; omega)]
        exact guardO_pos (show appOk _ _ _ from by unfold appOk; simp; omega)
theorem rpath_ok {m : Nat} {l : List Vh} (hm : m < l.length) (hl : l.length ≤ 512) : ref10_Path 1000 ((m : Int), l) = some (true, pth false 40 m l) := by
  unfold ref10_Path
  dsimp only
  rw [ilt_f (by omega), condO_false, ige_f (show (m : Int) < llen l by unfold llen; omega), condO_false]
  exact bind_of (rpath_rec 40 1000 m l (by omega) hm hl (by omega) (by omega)) rfl
/-- The part that both sizes have whole. -/
def part : Nat → Nat → List Vh → List Vh
  | 0, _, l => l
  | d + 1, m, l => if l.length < 2 ∨ m = l.length then l else if m ≤ sp l.length then part d m (l.take (sp l.length)) else part d (m - sp l.length) (l.drop (sp l.length))
theorem part_nil {m : Nat} {l : List Vh} (h : l.length < 2 ∨ m = l.length) (d : Nat) : part d m l = l := by
  cases d with
  | zero => rfl
  | succ d => rw [part, if_pos h]
theorem part_left {d m : Nat} {l : List Vh} (a : ¬ (l.length < 2 ∨ m = l.length)) (b : m ≤ sp l.length) : part (d + 1) m l = part d m (l.take (sp l.length)) := by
  rw [part, if_neg a, if_pos b]
theorem part_right {d m : Nat} {l : List Vh} (a : ¬ (l.length < 2 ∨ m = l.length)) (b : ¬ m ≤ sp l.length) : part (d + 1) m l = part d (m - sp l.length) (l.drop (sp l.length)) := by
  rw [part, if_neg a, if_neg b]
theorem part_len : ∀ (d m : Nat) (l : List Vh), (part d m l).length ≤ l.length
  | 0, _, _ => Nat.le_refl _
  | d + 1, m, l => by
    rw [part]
    split
    · exact Nat.le_refl _
    · split
      · exact Nat.le_trans (part_len d _ _) (by rw [List.length_take]; omega)
      · exact Nat.le_trans (part_len d _ _) (by rw [List.length_drop]; omega)
theorem part_end {d m : Nat} {l : List Vh} (h : stp true d m l.length = []) : part d m l = l := by
  cases d with
  | zero => rfl
  | succ d =>
    by_cases a : l.length < 2 ∨ m = l.length
    · rw [part_nil a]
    · exfalso
      have a2 : ¬ (l.length < 2 ∨ (true = true ∧ m = l.length)) := by simpa using a
      by_cases b : m < sp l.length ∨ (true = true ∧ m = sp l.length)
      · rw [stp_left a2 b] at h; cases h
      · rw [stp_right a2 b] at h; cases h
/-- Links: the part, if not all of the first size is known by itself, then what stands beside. -/
def lks (m : Nat) (l : List Vh) : List Vh := (if (stp true 40 m l.length).any (·.1) = true then [rt 40 (part 40 m l)] else []) ++ pth true 40 m l
def lksW (d m : Nat) (w : Bool) (l : List Vh) : List Vh := (if w = true ∧ (stp true d m l.length).any (·.1) = false then [] else [rt 40 (part d m l)]) ++ pth true d m l
theorem lksW_true (m : Nat) (l : List Vh) : lksW 40 m true l = lks m l := by
  unfold lksW lks
  cases (stp true 40 m l.length).any (·.1) <;> simp
theorem lksW_len (d m : Nat) (w : Bool) (l : List Vh) : (lksW d m w l).length ≤ 1 + d := by
  unfold lksW
  have := pth_len true d m l
  have := stp_len true d m l.length
  rw [List.length_append]
  split <;> simp <;> omega
theorem insert_ok (x : Vh) (l : List Vh) (h1 : 1 ≤ l.length) (h : l.length ≤ 900) : slices_Insert 1000 (0, l, [x]) = some (x :: l) :=
  guardO_pos (p := (0 : Int) = 0 ∧ 1 ≤ l.length ∧ (l.length + 1) * 32 ≤ 140737488355328) ⟨rfl, h1, by omega⟩
theorem plinks_ok {m : Nat} {l : List Vh} (h0 : 1 ≤ m) (hm : m ≤ l.length) (hl : l.length ≤ 512) : path_Links 1000 ((m : Int), l, vgl_sha_keys) = some (true, lks m l) := by
  have hsl := stp_len true 40 m l.length
  obtain ⟨S, hS⟩ : ∃ S, S = (stp true 40 m l.length).map cst3 := ⟨_, rfl⟩
  have hSl : S.length ≤ 40 := by rw [hS, List.length_map]; exact hsl
  obtain ⟨r, hr, hr2⟩ := index_ok S (by omega)
  have ha : S.any (·.1) = (stp true 40 m l.length).any (·.1) := by rw [hS, List.any_map]; rfl
  rw [ha] at hr2
  unfold path_Links
  dsimp only
  rw [ilt_f (by omega), condO_false, igt_f (show (m : Int) ≤ llen l by unfold llen; omega), condO_false]
  refine bind_of (down_ok (w := true) (show plc true m l.length by simp [plc]; omega) (by omega)) ?_
  refine bind_of (beside_ok true m l hl) ?_
  rw [← hS]
  refine bind_of hr ?_
  rw [hr2]
  unfold lks
  have hpl := pth_len true 40 m l
  cases hb : (stp true 40 m l.length).any (·.1)
  · rw [Bool.not_false, condO_true]; simp
  · rw [Bool.not_true, condO_false, if_pos rfl]
    have hne : 1 ≤ (pth true 40 m l).length := by
      rw [hpl]
      rcases hx : stp true 40 m l.length with _ | ⟨y, ys⟩
      · rw [hx] at hb; cases hb
      · simp
    obtain ⟨R, hR⟩ : ∃ R, R = pth true 40 m l := ⟨_, rfl⟩
    rw [← hR] at hne hpl ⊢
    refine loop_bind (fun e h => ∃ (i d m' a n : Nat), h = ((a : Int), (n : Int), (i : Int)) ∧ i + e = S.length ∧ a + n ≤ l.length ∧ S.drop i = (stp true d m' n).map cst3 ∧ part d m' ((l.drop a).take n) = part 40 m l) (fun e => ∃ a n : Nat, e = ((a : Int), (n : Int)) ∧ a + n ≤ l.length ∧ (l.drop a).take n = part 40 m l) S.length (by omega) ⟨0, 40, m, 0, l.length, rfl, by omega, by omega, by simp [hS], by simp⟩ ?_ ?_
    · clear hR hpl hr hr2 ha hS
      rintro e _ ⟨i, d, m', a, n, rfl, hi, han, hd, hp⟩
      dsimp only
      have hln : ((l.drop a).take n).length = n := by rw [List.length_take, List.length_drop]; omega
      by_cases c : i < S.length
      · have hne : stp true d m' n ≠ [] := by
          intro h
          rw [h, List.map_nil] at hd
          have := congrArg List.length hd
          rw [List.length_drop] at this
          simp at this; omega
        have h1 : ¬ (n < 2 ∨ (true = true ∧ m' = n)) := fun h => hne (stp_nil h d)
        have h1' : ¬ (((l.drop a).take n).length < 2 ∨ m' = ((l.drop a).take n).length) := by rw [hln]; simpa using h1
        obtain ⟨d, rfl⟩ : ∃ d', d = d' + 1 := by
          cases d with
          | zero => exact absurd rfl hne
          | succ d => exact ⟨d, rfl⟩
        have h2 : 2 ≤ n := by omega
        obtain ⟨s1, s2, s3⟩ := sp_spec h2
        have hdr : S.drop i = S[i] :: S.drop (i + 1) := List.drop_eq_getElem_cons c
        have hat : at_ T6 S (i : Int) = S[i] := at_nat (t := T6) c
        have ei : WK .i64 ((i : Int) + 1) = ((i + 1 : Nat) : Int) := wk_i64 (by omega) (by omega)
        rw [ilt_t (show (i : Int) < llen S by unfold llen; omega), condO_true, guardO_pos ⟨by omega, by unfold llen; omega⟩, hat, ei]
        by_cases b : m' < sp n ∨ (true = true ∧ m' = sp n)
        · have b' : m' ≤ sp ((l.drop a).take n).length := by rw [hln]; simp at b; omega
          rw [stp_left h1 b, hdr, List.map_cons, List.cons.injEq] at hd
          obtain ⟨hd1, hd2⟩ := hd
          rw [part_left h1' b', hln, List.take_take, Nat.min_eq_left (by omega)] at hp
          rw [hd1]
          dsimp only
          rw [condO_false]
          exact .on (e - 1) (by omega) ⟨i + 1, d, m', a, sp n, rfl, by omega, by omega, hd2, hp⟩
        · have b' : ¬ m' ≤ sp ((l.drop a).take n).length := by rw [hln]; simp at b; omega
          rw [stp_right h1 b, hdr, List.map_cons, List.cons.injEq] at hd
          obtain ⟨hd1, hd2⟩ := hd
          rw [part_right h1' b', hln, List.drop_take, List.drop_drop] at hp
          rw [hd1]
          dsimp only
          rw [condO_true]
          have ek : WK .i64 ((a : Int) + WK .i64 ((n : Int) - ((n - sp n : Nat) : Int))) = ((a + sp n : Nat) : Int) := by
            rw [wk_i64 (x := (n : Int) - ((n - sp n : Nat) : Int)) (by omega) (by omega), wk_i64 (by omega) (by omega)]; omega
          rw [ek]
          exact .on (e - 1) (by omega) ⟨i + 1, d, m' - sp n, a + sp n, n - sp n, rfl, by omega, by omega, hd2, hp⟩
      · rw [ilt_f (show llen S ≤ (i : Int) by unfold llen; omega), condO_false]
        refine .out ⟨a, n, rfl, han, ?_⟩
        have hd0 : stp true d m' n = [] := by
          rw [List.drop_eq_nil_of_le (by omega)] at hd
          simpa using hd.symm
        rw [part_end (by rw [hln]; exact hd0)] at hp
        exact hp
    · rintro _ ⟨a, n, rfl, han, hp⟩
      dsimp only
      have e1 : WK .i64 ((a : Int) + (n : Int)) = ((a + n : Nat) : Int) := by rw [wk_i64 (by omega) (by omega)]; omega
      rw [e1, guardO_pos ⟨by omega, by omega, by unfold llen; omega, by omega⟩, ltake_nat, ldrop_nat]
      have e2 : (l.take (a + n)).drop a = (l.drop a).take n := by rw [List.drop_take]; congr 1; omega
      rw [e2, hp]
      have hpl2 := part_len 40 m l
      refine bind_of (root40 _ (by omega)) (bind_of (insert_ok _ _ hne (by omega)) rfl)
theorem rlinks_rec : ∀ (d r m : Nat) (w : Bool) (l : List Vh), l.length ≤ 2 ^ d → 1 ≤ m → m ≤ l.length → l.length ≤ 512 → d < r → r ≤ 1000 → recN ref10_links_B r 1000 ((m : Int), w, l) = some (lksW d m w l)
  | d, 0, m, w, l, _, _, _, _, h, _ => by omega
  | d, r + 1, m, w, l, h, h0, hm, hb, hr, hr2 => by
    show ref10_links_B (recN ref10_links_B r) 1000 ((m : Int), w, l) = _
    unfold ref10_links_B
    dsimp only
    by_cases h1 : m = l.length
    · refine (congrArg (condO · _ _) (ieq_t (by unfold llen; omega))).trans ((condO_true _ _).trans ?_)
      unfold lksW
      rw [stp_nil (.inr ⟨rfl, h1⟩), pth_nil (.inr ⟨rfl, h1⟩), part_nil (.inr h1)]
      cases w
      · rw [condO_false]
        exact bind_of (rroot40 _ hb) (by simp)
      · rw [condO_true]; simp
    · refine (congrArg (condO · _ _) (ieq_f (by unfold llen; omega))).trans ((condO_false _ _).trans ?_)
      have h2 : 2 ≤ l.length := by omega
      obtain ⟨d, rfl⟩ := pow_le_two h2 h
      obtain ⟨a1, a2, a3⟩ := sp_spec h2
      have a4 := sp_le h2 h
      have a : ¬ (l.length < 2 ∨ (true = true ∧ m = l.length)) := by simp; omega
      have a' : ¬ (l.length < 2 ∨ m = l.length) := by omega
      refine bind_of (rsplit h2 hb) ?_
      rw [ltake_nat, ldrop_nat]
      by_cases b : m ≤ sp l.length
      · have hlw := lksW_len d m w (l.take (sp l.length))
        refine (congrArg (condO · _ _) (ile_t (by omega))).trans ((condO_true _ _).trans ?_)
        repeat refine (guardO_pos ⟨by first | omega | (unfold llen; omega), by first | omega | (unfold llen; omega), by first | omega | (unfold llen; omega), by first | omega | (unfold llen; omega)⟩).trans ?_
        refine bind_of (rlinks_rec d r m w (l.take (sp l.length)) (by rw [List.length_take]; omega) h0 (by rw [List.length_take]; omega) (by rw [List.length_take]; omega) (by omega) (by omega)) ?_
        refine bind_of (rroot40 _ (by rw [List.length_drop]; omega)) ?_
        refine (guardO_pos (show appOk _ _ _ from by unfold appOk; simp; omega)).trans ?_
        have b2 : m < sp l.length ∨ (true = true ∧ m = sp l.length) := by simp; omega
        unfold lksW
        rw [pth_left a b2, part_left a' b, stp_left a b2, len_take l h2, List.any_cons, Bool.false_or, List.append_assoc]
      · have hlw := lksW_len d (m - sp l.length) false (l.drop (sp l.length))
        refine (congrArg (condO · _ _) (ile_f (by omega))).trans ((condO_false _ _).trans ?_)
        repeat refine (guardO_pos ⟨by first | omega | (unfold llen; omega), by first | omega | (unfold llen; omega), by first | omega | (unfold llen; omega), by first | omega | (unfold llen; omega)⟩).trans ?_
        have e1 : WK .i64 ((m : Int) - ((sp l.length : Nat) : Int)) = ((m - sp l.length : Nat) : Int) := by rw [wk_i64 (by omega) (by omega)]; omega
        rw [e1]
        refine bind_of (rlinks_rec d r (m - sp l.length) false (l.drop (sp l.length)) (by rw [List.length_drop]; omega) (by omega) (by rw [List.length_drop]; omega) (by rw [List.length_drop]; omega) (by omega) (by omega)) ?_
        refine bind_of (rroot40 _ (by rw [List.length_take]; omega)) ?_
        refine (guardO_pos (show appOk _ _ _ from by unfold appOk; simp; omega)).trans ?_
        have b2 : ¬ (m < sp l.length ∨ (true = true ∧ m = sp l.length)) := by simp; omega
        unfold lksW
        rw [pth_right a b2, part_right a' b, stp_right a b2]
        simp
theorem rlinksL_ok {m : Nat} {l : List Vh} (h0 : 1 ≤ m) (hm : m ≤ l.length) (hl : l.length ≤ 512) : ref10_Links 1000 ((m : Int), l) = some (true, lks m l) := by
  unfold ref10_Links
  dsimp only
  rw [ilt_f (by omega), condO_false, igt_f (show (m : Int) ≤ llen l by unfold llen; omega), condO_false]
  exact bind_of (rlinks_rec 40 1000 m true l (by omega) h0 hm hl (by omega) (by omega)) (by rw [lksW_true])
theorem plinks_bad {a : Int} {l : List Vh} (h : a < 1 ∨ (l.length : Int) < a) : path_Links 1000 (a, l, vgl_sha_keys) = some (false, []) ∧ ref10_Links 1000 (a, l) = some (false, []) := by
  constructor
  · unfold path_Links
    dsimp only
    by_cases h0 : a < 1
    · rw [ilt_t h0, condO_true]
    · rw [ilt_f (by omega), condO_false, igt_t (show llen l < a by unfold llen; omega), condO_true]
  · unfold ref10_Links
    dsimp only
    by_cases h0 : a < 1
    · rw [ilt_t h0, condO_true]
    · rw [ilt_f (by omega), condO_false, igt_t (show llen l < a by unfold llen; omega), condO_true]
theorem same_self (l : List Vh) (h : l.length ≤ 900) : ref09_Same 1000 (l, l) = some true := by
  unfold ref09_Same
  dsimp only
  rw [ine_f rfl, condO_false]
  refine bind_of (a := (Sum.inr () : Bool ⊕ Unit)) ?_ rfl
  refine loopK_run (fun i : Nat => (i : Int)) l.length _ 1000 (fun i hi => ?_) ?_ (by omega)
  · have hi' : (i : Int) < llen l := by unfold llen; omega
    have e3 : at_ T0 l (i : Int) = l[i] := at_nat (t := T0) hi
    rw [e3, sameI_self, ilt_t hi', condO_true, guardO_pos ⟨by omega, hi'⟩, guardO_pos ⟨by omega, hi'⟩, wk_i64 (by omega) (by omega)]
    rfl
  · rw [ilt_f (show llen l ≤ (l.length : Int) by unfold llen; omega), condO_false]
theorem path_both (a : Int) (l : List Vh) (hl : l.length ≤ 512) : ∃ ok P, P.length ≤ 900 ∧ path_Path 1000 (a, l, vgl_sha_keys) = some (ok, P) ∧ ref10_Path 1000 (a, l) = some (ok, P) := by
  by_cases h : a < 0 ∨ (l.length : Int) ≤ a
  · exact ⟨false, [], by simp, path_bad h⟩
  · obtain ⟨m, rfl⟩ : ∃ m : Nat, a = m := ⟨a.toNat, by omega⟩
    exact ⟨true, _, by rw [pth_len]; exact Nat.le_trans (stp_len ..) (by omega), path_ok (by omega) hl, rpath_ok (by omega) hl⟩
theorem lks_len (m : Nat) (l : List Vh) : (lks m l).length ≤ 41 := by
  have := lksW_len 40 m true l
  rw [lksW_true] at this
  omega
theorem links_both (a : Int) (l : List Vh) (hl : l.length ≤ 512) : ∃ ok P, P.length ≤ 900 ∧ path_Links 1000 (a, l, vgl_sha_keys) = some (ok, P) ∧ ref10_Links 1000 (a, l) = some (ok, P) := by
  by_cases h : a < 1 ∨ (l.length : Int) < a
  · exact ⟨false, [], by simp, plinks_bad h⟩
  · obtain ⟨m, rfl⟩ : ∃ m : Nat, a = m := ⟨a.toNat, by omega⟩
    exact ⟨true, _, Nat.le_trans (lks_len m l) (by omega), plinks_ok (by omega) (by omega) hl, rlinksL_ok (by omega) (by omega) hl⟩
theorem stp_deep (w : Bool) : ∀ (d m n : Nat), n ≤ 2 ^ d → ∀ e, d ≤ e → stp w e m n = stp w d m n
  | 0, m, n, h, e, _ => by rw [stp_nil (.inl (by simp at h; omega)), stp_nil (.inl (by simp at h; omega))]
  | d + 1, m, n, h, e, he => by
    obtain ⟨e, rfl⟩ : ∃ f, e = f + 1 := ⟨e - 1, by omega⟩
    by_cases a : n < 2 ∨ (w = true ∧ m = n)
    · rw [stp_nil a, stp_nil a]
    · obtain ⟨a1, a2, a3⟩ := sp_spec (n := n) (by omega)
      have a4 := sp_le (n := n) (d := d) (by omega) h
      by_cases b : m < sp n ∨ (w = true ∧ m = sp n)
      · rw [stp_left a b, stp_left a b, stp_deep w d _ _ (by omega) e (by omega)]
      · rw [stp_right a b, stp_right a b, stp_deep w d _ _ (by omega) e (by omega)]
end Go.Proofs.YtindlajlkghneaaGreatDoor
/- The document's verification: what a tree has is right, and goes together. No condition. -/
set_option linter.unusedVariables false
set_option linter.unusedSimpArgs false
namespace Go.Proofs.YtindlajlkghneaaGreatDoor
open Go
theorem fold_root : ∀ (d m : Nat) (l : List Vh) (hm : m < l.length), l.length ≤ 2 ^ d → l.length ≤ 512 →
    (((stp false d m l.length).map (·.1)).reverse.zip (pth false d m l)).foldl (fun x p => if p.1 = true then node p.2 x else node x p.2) l[m] = rt 40 l
  | 0, m, l, hm, h, _ => by
    have h1 : l.length = 1 := by rw [Nat.pow_zero] at h; omega
    obtain ⟨x, rfl⟩ := List.length_eq_one_iff.1 h1
    rw [rt_small (by simp)]
    simp [stp]
  | d + 1, m, l, hm, h, hb => by
    by_cases h1 : l.length < 2
    · have h1 : l.length = 1 := by omega
      obtain ⟨x, rfl⟩ := List.length_eq_one_iff.1 h1
      rw [stp_nil (.inl (by simp)), rt_small (by simp)]
      simp
    · have h2 : 2 ≤ l.length := by omega
      obtain ⟨a1, a2, a3⟩ := sp_spec h2
      have a4 := sp_le h2 h
      have a : ¬ (l.length < 2 ∨ (false = true ∧ m = l.length)) := by simp; omega
      rw [rt40_big h2 hb]
      by_cases b : m < sp l.length
      · have ih := fold_root d m (l.take (sp l.length)) (by rw [List.length_take]; omega) (by rw [List.length_take]; omega) (by rw [List.length_take]; omega)
        simp only [List.getElem_take, len_take l h2] at ih
        rw [stp_left a (.inl b), pth_left a (.inl b), List.map_cons, List.reverse_cons, List.zip_append (by rw [List.length_reverse, List.length_map, pth_len, len_take l h2]), List.foldl_append]
        rw [ih]
        rfl
      · have ih := fold_root d (m - sp l.length) (l.drop (sp l.length)) (by rw [List.length_drop]; omega) (by rw [List.length_drop]; omega) (by rw [List.length_drop]; omega)
        have e : (l.drop (sp l.length))[m - sp l.length]'(by rw [List.length_drop]; omega) = l[m] := by
          rw [List.getElem_drop]
          congr 1; omega
        rw [e, List.length_drop] at ih
        rw [stp_right a (by simp; omega), pth_right a (by simp; omega), List.map_cons, List.reverse_cons, List.zip_append (by rw [List.length_reverse, List.length_map, pth_len, List.length_drop]), List.foldl_append]
        rw [ih]
        rfl
theorem foldl_take_succ {α β : Type} (f : β → α → β) (l : List α) (b : β) (i : Nat) (h : i < l.length) : (l.take (i + 1)).foldl f b = f ((l.take i).foldl f b) l[i] := by
  rw [List.take_add_one, List.getElem?_eq_getElem h, List.foldl_append]; rfl
/-- A leaf is right with its path. -/
theorem right_ok {m : Nat} {l : List Vh} (hm : m < l.length) (hl : l.length ≤ 512) : ref12_Right 1000 (rt 40 l, l[m], (m : Int), (l.length : Int), pth false 40 m l) = some true := by
  have hpl := pth_len false 40 m l
  obtain ⟨T, hT⟩ : ∃ T, T = ((stp false 40 m l.length).map (·.1)).reverse := ⟨_, rfl⟩
  obtain ⟨P, hP⟩ : ∃ P, P = pth false 40 m l := ⟨_, rfl⟩
  have hf := fold_root 40 m l hm (by omega) hl
  have hTl : T.length = P.length := by rw [hT, hP, List.length_reverse, List.length_map, hpl]
  have hPl : P.length ≤ 40 := by rw [hP, hpl]; exact stp_len ..
  have hlg := rlong_ok' hm (by omega : l.length ≤ 1099511627776)
  have htn := rturns_ok hm (by omega : l.length ≤ 1099511627776)
  rw [← hT] at htn
  rw [← hpl, ← hP] at hlg
  rw [← hT, ← hP] at hf
  rw [← hP]
  unfold ref12_Right
  refine bind_of (a := (rt 40 l, true)) ?_ ?_
  · unfold ref12_Fold
    dsimp only
    refine bind_of hlg ?_
    rw [ine_f (rfl : (P.length : Int) = llen P), condO_false]
    refine bind_of htn ?_
    refine bind_of (loopK_run (fun i : Nat => ((i : Int), ((T.zip P).take i).foldl (fun x p => if p.1 = true then node p.2 x else node x p.2) l[m])) P.length (rt 40 l) 1000 (fun i hi => ?_) ?_ (by omega)) rfl
    · dsimp only
      have hz : i < (T.zip P).length := by rw [List.length_zip]; omega
      have e1 : at_ .bool T (i : Int) = T[i] := at_nat (t := .bool) (by omega)
      have e2 : at_ T0 P (i : Int) = P[i] := at_nat (t := T0) hi
      rw [foldl_take_succ _ _ _ i hz, List.getElem_zip, e1, e2, wk_i64 (by omega) (by omega), ilt_t (show (i : Int) < llen P by unfold llen; omega), condO_true, guardO_pos ⟨by omega, by unfold llen; omega⟩]
      dsimp only
      cases hb : T[i]
      · rw [condO_false, guardO_pos ⟨by omega, by unfold llen; omega⟩, guardO_pos (node_cat1 _), guardO_pos (node_cat2 _ _), node_ref]
        rfl
      · rw [condO_true, guardO_pos ⟨by omega, by unfold llen; omega⟩, guardO_pos (node_cat1 _), guardO_pos (node_cat2 _ _), node_ref]
        rfl
    · dsimp only
      rw [ilt_f (show llen P ≤ (P.length : Int) by unfold llen; omega), condO_false, List.take_of_length_le (by rw [List.length_zip]; omega), hf]
  · dsimp only
    rw [condO_true, sameI_self]
/-- The root of the first ones, by the same halves. -/
theorem rt_first {m : Nat} {l : List Vh} (h2 : 2 ≤ l.length) (hb : l.length ≤ 512) (h1 : sp l.length < m) (hm : m ≤ l.length) : rt 40 (l.take m) = node (rt 40 (l.take (sp l.length))) (rt 40 ((l.drop (sp l.length)).take (m - sp l.length))) := by
  obtain ⟨a1, a2, a3⟩ := sp_spec h2
  have hlm : (l.take m).length = m := by rw [List.length_take]; omega
  have hs : sp (l.take m).length = sp l.length := by
    rw [hlm]
    unfold sp at a2 h1 ⊢
    exact sp_unique h1 (by rw [Nat.pow_succ]; omega)
  rw [rt40_big (by omega) (by omega), hs, List.take_take, Nat.min_eq_left (by omega), List.drop_take]
theorem both_rec : ∀ (d r m : Nat) (w : Bool) (z : Vh) (l R : List Vh), l.length ≤ 2 ^ d → 1 ≤ m → m ≤ l.length → l.length ≤ 512 → d < r → r ≤ 1000 → (w = true → z = rt 40 (l.take m)) → R.length + d ≤ 900 →
    recN ref12_both_B r 1000 (z, (m : Int), (l.length : Int), w, lksW d m w l ++ R) = some (rt 40 (l.take m), rt 40 l, ((lksW d m w l).length : Int))
  | d, 0, m, w, z, l, R, _, _, _, _, h, _, _, _ => by omega
  | d, r + 1, m, w, z, l, R, h, h0, hm, hb, hr, hr2, ha, hR => by
    have hll := lksW_len d m w l
    have hd : d ≤ 999 := by omega
    show ref12_both_B (recN ref12_both_B r) 1000 (z, (m : Int), (l.length : Int), w, lksW d m w l ++ R) = _
    unfold ref12_both_B
    dsimp only
    by_cases h1 : m = l.length
    · refine (congrArg (condO · _ _) (ieq_t (by omega))).trans ((condO_true _ _).trans ?_)
      have e0 : l.take m = l := List.take_of_length_le (by omega)
      rw [e0] at ha ⊢
      unfold lksW
      rw [stp_nil (.inr ⟨rfl, h1⟩), pth_nil (.inr ⟨rfl, h1⟩), part_nil (.inr h1)]
      cases w
      · have e1 : at_ T0 (rt 40 l :: R) ((0 : Nat) : Int) = rt 40 l := at_nat (t := T0) (l := rt 40 l :: R) (n := 0) (by simp)
        rw [condO_false]
        simp only [Bool.false_eq_true, false_and, if_false, List.append_nil, List.cons_append, List.nil_append]
        have e2 : inR 0 (llen (rt 40 l :: R)) := ⟨by omega, by unfold llen; simp⟩
        rw [guardO_pos e2, guardO_pos e2]
        have e3 : at_ T0 (rt 40 l :: R) 0 = rt 40 l := e1
        rw [e3]
        rfl
      · rw [condO_true, ha rfl]; simp
    · refine (congrArg (condO · _ _) (ieq_f (by omega))).trans ((condO_false _ _).trans ?_)
      have h2 : 2 ≤ l.length := by omega
      obtain ⟨d, rfl⟩ := pow_le_two h2 h
      obtain ⟨a1, a2, a3⟩ := sp_spec h2
      have a4 := sp_le h2 h
      have hs : ref09_Split 1000 (l.length : Int) = some ((sp l.length : Nat) : Int) := rsplit h2 hb
      have a : ¬ (l.length < 2 ∨ (true = true ∧ m = l.length)) := by simp; omega
      have a' : ¬ (l.length < 2 ∨ m = l.length) := by omega
      refine bind_of hs ?_
      by_cases b : m ≤ sp l.length
      · have b2 : m < sp l.length ∨ (true = true ∧ m = sp l.length) := by simp; omega
        have hlk : lksW (d + 1) m w l = lksW d m w (l.take (sp l.length)) ++ [rt 40 (l.drop (sp l.length))] := by
          unfold lksW
          rw [pth_left a b2, part_left a' b, stp_left a b2, len_take l h2, List.any_cons, Bool.false_or, List.append_assoc]
        obtain ⟨K, hK⟩ : ∃ K, K = lksW d m w (l.take (sp l.length)) := ⟨_, rfl⟩
        have hKl : K.length ≤ 1 + d := by rw [hK]; exact lksW_len ..
        refine (congrArg (condO · _ _) (ile_t (by omega))).trans ((condO_true _ _).trans ?_)
        have ih := both_rec d r m w z (l.take (sp l.length)) ([rt 40 (l.drop (sp l.length))] ++ R) (by rw [List.length_take]; omega) h0 (by rw [List.length_take]; omega) (by rw [List.length_take]; omega) (by omega) (by omega)
          (fun hw => by rw [ha hw, List.take_take, Nat.min_eq_left b]) (by simp; omega)
        rw [len_take l h2, ← hK, List.take_take, Nat.min_eq_left b] at ih
        rw [hlk, ← hK, List.append_assoc]
        refine bind_of ih ?_
        dsimp only
        obtain ⟨Q, hQ⟩ : ∃ Q, Q = K ++ ([rt 40 (l.drop (sp l.length))] ++ R) := ⟨_, rfl⟩
        have hQl : Q.length = K.length + 1 + R.length := by rw [hQ]; simp; omega
        have e1 : at_ T0 Q (K.length : Int) = rt 40 (l.drop (sp l.length)) := by
          rw [at_nat (t := T0) (by omega)]
          simp [hQ]
        rw [← hQ, e1, guardO_pos ⟨by omega, by unfold llen; omega⟩, guardO_pos (node_cat1 _), guardO_pos (node_cat2 _ _), node_ref, Option.bind_some, rt40_big h2 hb, wk_i64 (by omega) (by omega)]
        simp
      · have b2 : ¬ (m < sp l.length ∨ (true = true ∧ m = sp l.length)) := by simp; omega
        have hlk : lksW (d + 1) m w l = lksW d (m - sp l.length) false (l.drop (sp l.length)) ++ [rt 40 (l.take (sp l.length))] := by
          unfold lksW
          rw [pth_right a b2, part_right a' b, stp_right a b2]
          simp
        obtain ⟨K, hK⟩ : ∃ K, K = lksW d (m - sp l.length) false (l.drop (sp l.length)) := ⟨_, rfl⟩
        have hKl : K.length ≤ 1 + d := by rw [hK]; exact lksW_len ..
        refine (congrArg (condO · _ _) (ile_f (by omega))).trans ((condO_false _ _).trans ?_)
        have e1 : WK .i64 ((m : Int) - ((sp l.length : Nat) : Int)) = ((m - sp l.length : Nat) : Int) := by rw [wk_i64 (by omega) (by omega)]; omega
        have e2 : WK .i64 ((l.length : Int) - ((sp l.length : Nat) : Int)) = ((l.length - sp l.length : Nat) : Int) := by rw [wk_i64 (by omega) (by omega)]; omega
        have ih := both_rec d r (m - sp l.length) false z (l.drop (sp l.length)) ([rt 40 (l.take (sp l.length))] ++ R) (by rw [List.length_drop]; omega) (by omega) (by rw [List.length_drop]; omega) (by rw [List.length_drop]; omega) (by omega) (by omega)
          (fun hw => by cases hw) (by simp; omega)
        rw [List.length_drop, ← hK] at ih
        rw [hlk, ← hK, List.append_assoc, e1, e2]
        refine bind_of ih ?_
        dsimp only
        obtain ⟨Q, hQ⟩ : ∃ Q, Q = K ++ ([rt 40 (l.take (sp l.length))] ++ R) := ⟨_, rfl⟩
        have hQl : Q.length = K.length + 1 + R.length := by rw [hQ]; simp; omega
        have e3 : at_ T0 Q (K.length : Int) = rt 40 (l.take (sp l.length)) := by
          rw [at_nat (t := T0) (by omega)]
          simp [hQ]
        rw [← hQ, e3, guardO_pos ⟨by omega, by unfold llen; omega⟩, guardO_pos (node_cat1 _), guardO_pos (node_cat2 _ _), node_ref, Option.bind_some, guardO_pos (node_cat1 _), guardO_pos (node_cat2 _ _), node_ref, Option.bind_some, rt_first h2 hb (by omega) hm, rt40_big h2 hb, wk_i64 (by omega) (by omega)]
        simp
/-- The links make a smaller tree's root go together with the whole one's. -/
theorem goes_ok {m : Nat} {l : List Vh} (h0 : 1 ≤ m) (hm : m ≤ l.length) (hl : l.length ≤ 512) : ref12_Goes 1000 (rt 40 (l.take m), (m : Int), rt 40 l, (l.length : Int), lks m l) = some true := by
  have hb := both_rec 40 1000 m true (rt 40 (l.take m)) l [] (by omega) h0 hm hl (by omega) (by omega) (fun _ => rfl) (by simp)
  rw [lksW_true, List.append_nil] at hb
  have hn : ((lks m l).length : Int) = lnk m l.length := by
    unfold lks lnk
    have := pth_len true 40 m l
    rw [List.length_append]
    split <;> simp <;> omega
  unfold ref12_Goes
  refine bind_of (a := (rt 40 (l.take m), rt 40 l, true)) ?_ ?_
  · unfold ref12_Both
    dsimp only
    refine bind_of (rlinks_ok h0 hm (by omega)) ?_
    rw [ine_f (show lnk m l.length = llen (lks m l) by rw [← hn]), condO_false]
    exact bind_of hb rfl
  · dsimp only
    rw [condO_true, sameI_self, condO_true, sameI_self]
end Go.Proofs.YtindlajlkghneaaGreatDoor
/- Numbers that are put. No condition. -/
set_option linter.unusedVariables false
set_option linter.unusedSimpArgs false
namespace Go.Proofs.YtindlajlkghneaaGreatDoor
open Go
def byI (l : List UInt8) : List Int := l.map fun b => (b.toNat : Int)
theorem byI_nums (l : List UInt8) : strOfNums (byI l) = mkB l := by
  rw [nums_mkB, byI, List.map_map]
  congr 1
  conv => rhs; rw [← List.map_id l]
  refine List.map_congr_left (fun b _ => ?_)
  simp
theorem byte_mod (x : Nat) : ((UInt8.ofNat (x % 256)).toNat : Int) = ((x % 256 : Nat) : Int) := by simp
theorem rput_ok (k : Nat) (hk : 8 < k) {x : Nat} (h : x < 18446744073709551616) : ref01_Put k (x : Int) = some (mkB (putL x)) := by
  unfold ref01_Put
  have hw := wdt_le h
  have big : ∀ i, i < wdt x → 0 < x / 256 ^ i := by
    intro i
    have gen : ∀ i x, x < 18446744073709551616 → i < wdt x → 0 < x / 256 ^ i := by
      intro i
      induction i with
      | zero =>
        intro x h hi
        rw [Nat.pow_zero, Nat.div_one]
        refine Nat.pos_of_ne_zero ?_
        rintro rfl
        rw [wdt_zero] at hi; omega
      | succ i ih =>
        intro x h hi
        have h0 : x ≠ 0 := by
          rintro rfl
          rw [wdt_zero] at hi; omega
        rw [wdt_step h0 h] at hi
        have := ih (x / 256) (by omega) (by omega)
        rw [Nat.div_div_eq_div_mul, ← Nat.pow_succ'] at this
        exact this
    exact gen i x h
  have zero : x / 256 ^ wdt x = 0 := by
    have gen : ∀ n x, x < 18446744073709551616 → wdt x = n → x / 256 ^ n = 0 := by
      intro n
      induction n with
      | zero =>
        intro x h hn
        by_cases h0 : x = 0
        · subst h0; rfl
        · rw [wdt_step h0 h] at hn; omega
      | succ n ih =>
        intro x h hn
        have h0 : x ≠ 0 := by
          rintro rfl
          rw [wdt_zero] at hn; omega
        rw [wdt_step h0 h] at hn
        have := ih (x / 256) (by omega) (by omega)
        rw [Nat.div_div_eq_div_mul, ← Nat.pow_succ'] at this
        exact this
    exact gen _ x h rfl
  have hpw : ∀ i, x / 256 ^ i ≤ x := fun i => Nat.div_le_self _ _
  refine bind_of (a := mkB (digs (wdt x) x)) ?_ ?_
  · refine Eq.trans (congrArg (loopK k _) (show ((x : Int), str0) = (((x / 256 ^ 0 : Nat) : Int), mkB (digs 0 x)) by rw [Nat.pow_zero, Nat.div_one]; rfl)) (loopK_run (fun i => (((x / 256 ^ i : Nat) : Int), mkB (digs i x))) (wdt x) _ k ?_ ?_ (by omega))
    · intro i hi
      have h1 := big i hi
      have h2 := hpw i
      have e : ((x / 256 ^ i : Nat) : Int).tmod 256 = ((x / 256 ^ i % 256 : Nat) : Int) := by
        rw [Int.tmod_eq_emod_of_nonneg (by omega)]; omega
      have e2 : ((x / 256 ^ i : Nat) : Int).tdiv 256 = ((x / 256 ^ (i + 1) : Nat) : Int) := by
        rw [Int.tdiv_eq_ediv_of_nonneg (by omega), Nat.pow_succ, ← Nat.div_div_eq_div_mul]; omega
      have h3 := hpw (i + 1)
      obtain ⟨z, hz⟩ : ∃ z, z = x / 256 ^ (i + 1) := ⟨_, rfl⟩
      rw [← hz] at e2 h3
      simp only [igt_t (show (0 : Int) < ((x / 256 ^ i : Nat) : Int) by omega), condO_true]
      rw [guardO_pos (by decide), e, e2, wk_u8 (by omega) (by omega), wk_u64 (by omega) (by omega)]
      have e3 : strOfNums [((x / 256 ^ i % 256 : Nat) : Int)] = mkB [UInt8.ofNat (x / 256 ^ i % 256)] := rfl
      rw [e3, mkB_app, guardO_pos (by
        unfold catOk
        rw [mkB_size, mkB_size, digs_len]
        have : [UInt8.ofNat (x / 256 ^ i % 256)].length = 1 := rfl
        omega), guardO_pos (by decide), hz]
      rw [digs_cons]
      rfl
    · simp only [zero]
      rfl
  · have hc : ((wdt x : Nat) : Int) = WK .u8 (blen (mkB (digs (wdt x) x))) := by
      rw [blen_mkB, digs_len, wk_u8 (by omega) (by omega)]
    rw [← hc]
    have e3 : strOfNums [((wdt x : Nat) : Int)] = mkB [UInt8.ofNat (wdt x)] := rfl
    rw [e3, mkB_app, guardO_pos (by
      unfold catOk
      rw [mkB_size, mkB_size, digs_len]
      have : [UInt8.ofNat (wdt x)].length = 1 := rfl
      omega)]
    rfl
theorem shr_byte (x i : Nat) (hi : i < 8) : WK .u8 (shrK .u64 (x : Int) (8 * (i : Int))) = ((x / 256 ^ i % 256 : Nat) : Int) := by
  have e : shrK .u64 (x : Int) (8 * (i : Int)) = ((x / 256 ^ i : Nat) : Int) := by
    show Int.fdiv (x : Int) (2 ^ (min (8 * (i : Int)).toNat 64)) = _
    have e2 : (2 : Int) ^ (8 * i) = ((256 ^ i : Nat) : Int) := by
      have h1 : (2 : Nat) ^ (8 * i) = 256 ^ i := by rw [Nat.pow_mul]
      rw [← h1, Int.natCast_pow]; rfl
    rw [show min (8 * (i : Int)).toNat 64 = 8 * i by omega, e2, Int.fdiv_eq_ediv_of_nonneg _ (Int.natCast_nonneg _)]
    exact (Int.natCast_ediv _ _).symm
  rw [e, wk_u8_mod]
  omega
theorem put_ok (k : Nat) (hk : 8 < k) {x : Nat} (h : x < 18446744073709551616) : octet_Put k (x : Int) = some (mkB (putL x)) := by
  unfold octet_Put
  have hw := wdt_le h
  have hb : Lib.bitLen x ≤ 64 := Lib.bitLen_le x 64 (by decide) (by simpa using h)
  have e0 : bits_Len64 k (x : Int) = some ((Lib.bitLen x : Nat) : Int) := by
    show L_math_bits_Len64 k (x : Int) = _
    unfold L_math_bits_Len64
    rw [guardO_pos ⟨by omega, by omega⟩, Int.toNat_natCast]
  rw [e0]
  simp only [Option.bind_some]
  have e1 : WK .i64 (Int.tdiv (WK .i64 (WK .i64 (((Lib.bitLen x : Nat) : Int) + 8) - 1)) 8) = ((wdt x : Nat) : Int) := by
    rw [wk_i64 (x := ((Lib.bitLen x : Nat) : Int) + 8) (by omega) (by omega), wk_i64 (x := ((Lib.bitLen x : Nat) : Int) + 8 - 1) (by omega) (by omega), Int.tdiv_eq_ediv_of_nonneg (by omega)]
    unfold wdt
    rw [wk_i64 (by omega) (by omega)]
    omega
  rw [e1]
  have e2 : WK .i64 (1 + ((wdt x : Nat) : Int)) = ((wdt x + 1 : Nat) : Int) := by
    rw [wk_i64 (by omega) (by omega)]; omega
  rw [e2, wk_u8 (x := ((wdt x : Nat) : Int)) (by omega) (by omega)]
  rw [guardO_pos (by decide), guardO_pos ⟨by omega, rfl, by omega, by omega⟩, guardO_pos ⟨by decide, by simp only [llen, lrep, List.length_replicate]; omega⟩]
  have e3 : lset (lrep ((wdt x + 1 : Nat) : Int) (0 : Int)) 0 ((wdt x : Nat) : Int) = ((wdt x : Nat) : Int) :: List.replicate (wdt x) 0 := by
    simp only [lset, lrep, Int.toNat_natCast, List.replicate_succ]
    rfl
  rw [e3]
  refine bind_of (a := byI (putL x)) ?_ (by rw [byI_nums])
  have hc : ((UInt8.ofNat (wdt x)).toNat : Int) = (wdt x : Int) := by
    have : (UInt8.ofNat (wdt x)).toNat = wdt x := by simp; omega
    rw [this]
  have fin : byI (putL x) = ((wdt x : Nat) : Int) :: (List.replicate (wdt x - wdt x) 0 ++ byI (digs (wdt x) x)) := by
    simp only [putL, byI, List.map_cons, hc, Nat.sub_self, List.replicate_zero, List.nil_append]
  have st : (((wdt x : Nat) : Int) :: List.replicate (wdt x) 0) = ((wdt x : Nat) : Int) :: (List.replicate (wdt x - 0) 0 ++ byI (digs 0 x)) := by
    simp [digs, byI]
  rw [st]
  refine loopK_run (fun i => ((i : Int), ((wdt x : Nat) : Int) :: (List.replicate (wdt x - i) 0 ++ byI (digs i x)))) (wdt x) _ k ?_ ?_ (by omega)
  · intro i hi
    have hlen : (((wdt x : Nat) : Int) :: (List.replicate (wdt x - i) 0 ++ byI (digs i x))).length = wdt x + 1 := by
      simp only [List.length_cons, List.length_append, List.length_replicate, byI, List.length_map, digs_len]; omega
    simp only [ilt_t (show (i : Int) < ((wdt x : Nat) : Int) by omega), condO_true]
    rw [wk_i64 (x := 8 * (i : Int)) (by omega) (by omega), guardO_pos (by omega), wk_i64 (x := ((wdt x : Nat) : Int) - (i : Int)) (by omega) (by omega), guardO_pos ⟨by omega, by rw [llen, hlen]; omega⟩, wk_i64 (x := (i : Int) + 1) (by omega) (by omega), shr_byte x i (by omega)]
    congr 3
    obtain ⟨m, hm⟩ : ∃ m, wdt x - i = m + 1 := ⟨wdt x - i - 1, by omega⟩
    rw [show wdt x - (i + 1) = m by omega, hm]
    simp only [lset]
    rw [show (((wdt x : Nat) : Int) - (i : Int)).toNat = m + 1 by omega, List.set_cons_succ, List.replicate_succ', List.append_assoc, List.set_append_right _ _ (by simp), List.length_replicate, Nat.sub_self]
    rw [digs_cons]
    simp only [byI, List.map_cons, byte_mod, List.singleton_append, List.set_cons_zero]
  · simp only [ilt_f (Int.le_refl _), condO_false, fin]
end Go.Proofs.YtindlajlkghneaaGreatDoor
/- A log of freezes: its leaves, its peaks, what is anchored. No condition. -/
set_option linter.unusedVariables false
set_option linter.unusedSimpArgs false
namespace Go.Proofs.YtindlajlkghneaaGreatDoor
open Go
abbrev Fz := Int × Int × Vh
abbrev TV : Ty := .arr 32 (.int .u8)
abbrev TF : Ty := .pair (.int .i64) (.pair (.int .i64) TV)
/-- May it be anchored at all? -/
def mayF (w c : Int) : Prop := 0 ≤ w ∧ w ≤ 1125899906842624 ∧ 1 ≤ c ∧ c ≤ 4000
instance (w c : Int) : Decidable (mayF w c) := by unfold mayF; infer_instance
def fzL (w c : Int) (r : Vh) : List UInt8 := [70] ++ putL w.toNat ++ putL c.toNat ++ (putL 32 ++ vb r)
theorem put_small {x : Nat} (h : x < 18446744073709551616) : (putL x).length ≤ 9 := by
  have := wdt_le h
  rw [putL_len]; omega
theorem fzL_len {w c : Int} (h : mayF w c) (r : Vh) : (fzL w c r).length ≤ 70 := by
  obtain ⟨h1, h2, h3, h4⟩ := h
  have a := put_small (x := w.toNat) (by omega)
  have b := put_small (x := c.toNat) (by omega)
  have d := put_small (x := 32) (by decide)
  simp only [fzL, List.length_append, vb_len, List.length_singleton]
  omega
theorem put_of {x : Int} (h0 : 0 ≤ x) (h1 : x ≤ 1125899906842624) : octet_Put 1000 (WK .u64 x) = some (mkB (putL x.toNat)) := by
  rw [wk_u64 h0 (by omega)]
  obtain ⟨n, rfl⟩ := Int.eq_ofNat_of_zero_le h0
  rw [put_ok 1000 (by decide) (by omega)]
  rfl
theorem rput_of {x : Int} (h0 : 0 ≤ x) (h1 : x ≤ 1125899906842624) : ref01_Put 1000 (WK .u64 x) = some (mkB (putL x.toNat)) := by
  rw [wk_u64 h0 (by omega)]
  obtain ⟨n, rfl⟩ := Int.eq_ofNat_of_zero_le h0
  rw [rput_ok 1000 (by decide) (by omega)]
  rfl
theorem vb_blen (r : Vh) : blen (strOfNums (Vector.toList r)) = 32 := by
  rw [vb_str, blen_mkB, vb_len]; rfl
theorem fz_yes {w c : Int} (h : mayF w c) (r : Vh) : seal_FreezeBytes 1000 (w, c, r) = some (mkB (fzL w c r), 0) := by
  obtain ⟨h1, h2, h3, h4⟩ := h
  have hl := fzL_len (show mayF w c from ⟨h1, h2, h3, h4⟩) r
  unfold seal_FreezeBytes
  dsimp only
  rw [ige_t h1, condO_true, ile_t h2, Bool.not_true, condO_false, ieq_f (show c ≠ 0 by omega), condO_false, ige_t (show 0 ≤ c by omega), condO_true, ile_t h4, Bool.not_true, condO_false]
  refine bind_of (put_of h1 h2) (bind_of (put_of (by omega) (by omega)) ?_)
  rw [vb_blen]
  refine bind_of (put_of (x := 32) (by decide) (by decide)) ?_
  have d := put_small (x := 32) (by decide)
  refine (guardO_pos (cat_mkB (a := putL 32) (b := vb r) (by rw [vb_len]; omega))).trans ?_
  rw [vb_str, show mkB (putL (32 : Int).toNat) ++ mkB (vb r) = mkB (putL 32 ++ vb r) from mkB_app _ _]
  refine bind_of (a := mkB (fzL w c r)) ?_ rfl
  show L_strings_Join 1000 _ = _
  unfold L_strings_Join
  have hj : Lib.join (([⟨#[70]⟩, mkB (putL w.toNat), mkB (putL c.toNat), mkB (putL 32 ++ vb r)] : List ByteArray).map (·.data.toList)) (str0 : ByteArray).data.toList = fzL w c r := by
    simp [Lib.join, fzL, mkB]
  have hb : (Lib.join (([⟨#[70]⟩, mkB (putL w.toNat), mkB (putL c.toNat), mkB (putL 32 ++ vb r)] : List ByteArray).map (·.data.toList)) (str0 : ByteArray).data.toList).length ≤ 140737488355328 := by
    rw [hj]; omega
  refine (guardO_pos ⟨by simp, by simp, hb⟩).trans ?_
  exact congrArg (fun l => some (mkB l)) hj
theorem fz_no {w c : Int} (h : ¬ mayF w c) (r : Vh) : seal_FreezeBytes 1000 (w, c, r) = some (str0, 1) := by
  unfold seal_FreezeBytes
  dsimp only
  by_cases h1 : 0 ≤ w
  · rw [ige_t h1, condO_true]
    by_cases h2 : w ≤ 1125899906842624
    · rw [ile_t h2, Bool.not_true, condO_false]
      by_cases h3 : c = 0
      · rw [ieq_t h3, condO_true]
      · rw [ieq_f h3, condO_false]
        by_cases h4 : 0 ≤ c
        · rw [ige_t h4, condO_true, ile_f (by unfold mayF at h; omega), Bool.not_false, condO_true]
        · rw [ige_f (by omega), condO_false]
    · rw [ile_f (by omega), Bool.not_false, condO_true]
  · rw [ige_f (by omega), condO_false]
theorem rfz_yes {w c : Int} (h : mayF w c) (r : Vh) : ref16_FreezeBytes 1000 (w, c, r) = some (mkB (fzL w c r), 0) := by
  obtain ⟨h1, h2, h3, h4⟩ := h
  have a := put_small (x := w.toNat) (by omega)
  have b := put_small (x := c.toNat) (by omega)
  have d := put_small (x := 32) (by decide)
  unfold ref16_FreezeBytes
  dsimp only
  rw [ilt_f h1, condO_false, igt_f h2, condO_false, ilt_f h3, condO_false, igt_f h4, condO_false]
  refine bind_of (rput_of h1 h2) ?_
  refine (guardO_pos (cat_mkB (a := [70]) (b := putL w.toNat) (by simp; omega))).trans ?_
  rw [show (⟨#[70]⟩ : ByteArray) ++ mkB (putL w.toNat) = mkB ([70] ++ putL w.toNat) from mkB_app [70] _]
  refine bind_of (rput_of (by omega) (by omega)) ?_
  refine (guardO_pos (cat_mkB (b := putL c.toNat) (by simp; omega))).trans ?_
  rw [vb_blen]
  refine bind_of (rput_of (x := 32) (by decide) (by decide)) ?_
  refine (guardO_pos (cat_mkB (a := putL 32) (b := vb r) (by rw [vb_len]; omega))).trans ?_
  rw [vb_str, show mkB (putL (32 : Int).toNat) ++ mkB (vb r) = mkB (putL 32 ++ vb r) from mkB_app _ _, mkB_app]
  refine (guardO_pos (cat_mkB (by simp [vb_len]; omega))).trans ?_
  rw [mkB_app]
  rfl
theorem rfz_no {w c : Int} (h : ¬ mayF w c) (r : Vh) : ref16_FreezeBytes 1000 (w, c, r) = some (str0, 1) := by
  unfold ref16_FreezeBytes
  dsimp only
  by_cases h1 : w < 0
  · rw [ilt_t h1, condO_true]
  · rw [ilt_f (by omega), condO_false]
    by_cases h2 : 1125899906842624 < w
    · rw [igt_t h2, condO_true]
    · rw [igt_f (by omega), condO_false]
      by_cases h3 : c < 1
      · rw [ilt_t h3, condO_true]
      · rw [ilt_f (by omega), condO_false, igt_t (by unfold mayF at h; omega), condO_true]
/-- A freeze's leaf. -/
def lfF (f : Fz) : Vh := hsh ([0] ++ fzL f.1 f.2.1 f.2.2)
theorem leaf_sha {w c : Int} (h : mayF w c) (r : Vh) : sha_Of 1000 ([⟨#[0]⟩, mkB (fzL w c r)], vgl_sha_keys) = some (lfF (w, c, r)) := by
  have hl := fzL_len h r
  have := sha_of [[0], fzL w c r] (by simp) (by simp; omega)
  simpa [lfF] using this
/-! ### peaks -/
inductive Stk : Nat → Nat → List Vh → List Vh → Prop
  | zero (j : Nat) : Stk j 0 [] []
  | even {j k : Nat} {ps l : List Vh} : Stk (j + 1) k ps l → Stk j (2 * k) ps l
  | odd {j k : Nat} {ps l1 l2 : List Vh} : l2.length = 2 ^ j → Stk (j + 1) k ps l1 → Stk j (2 * k + 1) (rt 40 l2 :: ps) (l1 ++ l2)
theorem rt_cat {j : Nat} {l t : List Vh} (h : l.length = 2 ^ j) (h1 : 1 ≤ t.length) (h2 : t.length ≤ 2 ^ j) (hb : l.length + t.length ≤ 512) : rt 40 (l ++ t) = node (rt 40 l) (rt 40 t) := by
  have h0 : 1 ≤ 2 ^ j := Nat.one_le_two_pow
  have hs : sp (l ++ t).length = 2 ^ j := by
    rw [List.length_append]
    exact sp_unique (by omega) (by rw [Nat.pow_succ]; omega)
  rw [rt40_big (by rw [List.length_append]; omega) (by rw [List.length_append]; omega), hs, ← h, List.take_left, List.drop_left]
theorem stk_len {j k : Nat} {ps l : List Vh} (h : Stk j k ps l) : l.length = k * 2 ^ j := by
  induction h with
  | zero j => simp
  | @even j k ps l _ ih => rw [ih, Nat.pow_succ, Nat.mul_comm (2 ^ j) 2, ← Nat.mul_assoc, Nat.mul_comm k 2]
  | @odd j k ps l1 l2 h2 _ ih => rw [List.length_append, ih, h2, Nat.add_mul, Nat.pow_succ, Nat.one_mul, Nat.mul_comm (2 ^ j) 2, ← Nat.mul_assoc, Nat.mul_comm k 2]
theorem stk_fold {j k : Nat} {ps l : List Vh} (h : Stk j k ps l) : ∀ t : List Vh, 1 ≤ t.length → t.length ≤ 2 ^ j → l.length + t.length ≤ 512 → ps.foldl (fun r p => node p r) (rt 40 t) = rt 40 (l ++ t) := by
  induction h with
  | zero j => intro t _ _ _; rw [List.foldl_nil, List.nil_append]
  | even _ ih => intro t h1 h2 h3; exact ih t h1 (by rw [Nat.pow_succ]; omega) h3
  | odd hl _ ih =>
    intro t h1 h2 h3
    rw [List.length_append] at h3
    rw [List.foldl_cons, ← rt_cat hl h1 h2 (by omega), ih _ (by rw [List.length_append]; omega) (by rw [List.length_append, Nat.pow_succ]; omega) (by rw [List.length_append]; omega), List.append_assoc]
theorem stk_root {j k : Nat} {p : Vh} {ps l : List Vh} (h : Stk j k (p :: ps) l) (hb : l.length ≤ 512) : ps.foldl (fun r p => node p r) p = rt 40 l := by
  generalize hq : p :: ps = q at h
  induction h with
  | zero j => cases hq
  | even _ ih => exact ih hb hq
  | @odd j' k' ps' l1 l2 hl hs _ =>
    cases hq
    have h0 : 1 ≤ 2 ^ j' := Nat.one_le_two_pow
    rw [List.length_append] at hb
    exact stk_fold hs l2 (by omega) (by rw [Nat.pow_succ]; omega) hb
theorem clone_vh (l : List Vh) (h : l.length ≤ 900) : slices_Clone 1000 l = some l := by
  have hb : l.length * 32 ≤ 140737488355328 := by omega
  exact guardO_pos hb
theorem stk_ps {j k : Nat} {ps l : List Vh} (h : Stk j k ps l) : ps.length ≤ l.length := by
  induction h with
  | zero j => simp
  | even _ ih => exact ih
  | odd hl _ ih =>
    rename_i j' k' _ _ _ _
    have h0 : 1 ≤ 2 ^ j' := Nat.one_le_two_pow
    rw [List.length_cons, List.length_append]; omega
theorem add_ok (x : Vh) (l pk : List Vh) (n : Nat) (hs : Stk 0 n pk.reverse l) (hb : l.length ≤ 100) :
    ∃ pk', front_Front_Add 1000 (x, (n : Int), vgl_sha_keys, pk) = some (((n + 1 : Nat) : Int), ((n + 1 : Nat) : Int), pk') ∧ Stk 0 (n + 1) pk'.reverse (l ++ [x]) := by
  have hn := stk_len hs
  have hp := stk_ps hs
  rw [List.length_reverse] at hp
  rw [Nat.pow_zero, Nat.mul_one] at hn
  suffices hk : ∃ r, front_Front_Add 1000 (x, (n : Int), vgl_sha_keys, pk) = some r ∧ ∃ pk', r = (((n + 1 : Nat) : Int), ((n + 1 : Nat) : Int), pk') ∧ Stk 0 (n + 1) pk'.reverse (l ++ [x]) by
    obtain ⟨_, h1, pk', rfl, h2⟩ := hk
    exact ⟨pk', h1, h2⟩
  unfold front_Front_Add
  dsimp only
  rw [ige_f (show (n : Int) < 1099511627776 by omega), condO_false, clone_vh pk (by omega), Option.bind_some]
  refine loop_bindE (fun d h => ∃ (j k : Nat) (ps l' blk : List Vh), h = ((k : Int), rt 40 blk, ps.reverse) ∧ blk.length = 2 ^ j ∧ Stk j k ps l' ∧ l' ++ blk = l ++ [x] ∧ k < 2 ^ d ∧ d ≤ 10 ∧ ps.length ≤ 100 ∧ ∀ Q, Stk j (k + 1) Q (l ++ [x]) → Stk 0 (n + 1) Q (l ++ [x])) (fun e : Vh × List Vh => Stk 0 (n + 1) (e.1 :: e.2.reverse) (l ++ [x]) ∧ e.2.length ≤ 100) 10 (by omega)
    ⟨0, n, pk.reverse, l, [x], by rw [rt_small (by simp), List.reverse_reverse]; rfl, rfl, hs, rfl, by show n < 1024; omega, Nat.le_refl 10, by rw [List.length_reverse]; omega, fun Q h => h⟩ ?_ ?_
  · rintro d _ ⟨j, k, ps, l', blk, rfl, h1, h2, h3, h4, h5, h6, h7⟩
    dsimp only
    rw [guardO_pos (show nz 2 by decide)]
    have em : Int.tmod (k : Int) 2 = ((k % 2 : Nat) : Int) := rfl
    rw [em]
    have htot := congrArg List.length h3
    simp only [List.length_append, List.length_singleton] at htot
    cases h2 with
    | zero =>
      rw [ieq_t (by rfl), condO_true]
      refine .out ⟨?_, by simp⟩
      rw [List.reverse_reverse]
      rw [List.nil_append] at h3
      refine h7 _ ?_
      have := Stk.odd (j := j) (k := 0) (l2 := blk) h1 (Stk.zero (j + 1))
      rw [List.nil_append] at this
      rw [← h3]
      exact this
    | even hs' =>
      rename_i k'
      rw [ieq_t (by omega), condO_true]
      refine .out ⟨?_, by simpa using h6⟩
      rw [List.reverse_reverse]
      refine h7 _ ?_
      have := Stk.odd (j := j) (k := k') (l2 := blk) h1 hs'
      rw [h3] at this
      exact this
    | odd hl hs' =>
      rename_i k' ps' l1 l2
      rw [ieq_f (by omega), condO_false]
      have hlen : (rt 40 l2 :: ps').reverse.length = ps'.length + 1 := by simp
      have e1 : WK .i64 (llen (rt 40 l2 :: ps').reverse - 1) = ((ps'.length : Nat) : Int) := by
        have : llen (rt 40 l2 :: ps').reverse = (ps'.length : Int) + 1 := by unfold llen; rw [hlen]; omega
        rw [this, wk_i64 (by omega) (by simp at h6; omega)]; omega
      have e2 : at_ TV (rt 40 l2 :: ps').reverse ((ps'.length : Nat) : Int) = rt 40 l2 := by
        rw [at_nat (t := TV) (by rw [hlen]; omega)]
        simp
      have e3 : (rt 40 l2 :: ps').reverse.take ps'.length = ps'.reverse := by
        rw [List.reverse_cons, List.take_left' (by simp)]
      obtain ⟨d, rfl⟩ : ∃ d', d = d' + 1 := by
        cases d with
        | zero => rw [Nat.pow_zero] at h4; omega
        | succ d => exact ⟨d, rfl⟩
      have ek : WK .i64 (Int.tdiv ((2 * k' + 1 : Nat) : Int) 2) = (k' : Int) := by
        show WK .i64 (((2 * k' + 1) / 2 : Nat) : Int) = _
        rw [show (2 * k' + 1) / 2 = k' by omega]
        have : 2 ^ (d + 1) ≤ 2 ^ 10 := Nat.pow_le_pow_right (by omega) h5
        exact wk_nat (by omega)
      have hpw : 2 ^ (d + 1) = 2 * 2 ^ d := by rw [Nat.pow_succ, Nat.mul_comm]
      rw [e1, e2, guardO_pos ⟨by omega, by unfold llen; rw [hlen]; omega⟩, guardO_pos (node_cat1 _), guardO_pos (node_cat2 _ _), node_sha, Option.bind_some]
      rw [guardO_pos (show tkOk _ _ from ⟨by omega, by unfold llen; rw [hlen]; omega⟩), guardO_pos (show nz 2 by decide), ltake_nat, e3, ek]
      simp only [List.length_append] at htot
      have hj0 : 1 ≤ 2 ^ j := Nat.one_le_two_pow
      refine .on d (by omega) ⟨j + 1, k', ps', l1, l2 ++ blk, ?_, by rw [List.length_append, hl, h1, Nat.pow_succ]; omega, hs', by rw [← List.append_assoc]; exact h3, by omega, by omega, by simp at h6; omega, fun Q hQ => h7 Q (by have := Stk.even hQ; rw [show 2 * (k' + 1) = 2 * k' + 1 + 1 by omega] at this; exact this)⟩
      rw [rt_cat hl (by omega) (by omega) (by omega)]
  · rintro ⟨y, ps⟩ ⟨h1, h2⟩
    dsimp only at h1 h2 ⊢
    have e1 : WK .i64 ((n : Int) + 1) = ((n + 1 : Nat) : Int) := by rw [wk_i64 (by omega) (by omega)]; omega
    refine ⟨_, (guardO_pos (show appOk ps [y] 32 by unfold appOk; simp; omega)).trans rfl, ps ++ [y], ?_, ?_⟩
    · rw [e1]
    · rw [List.reverse_append]; exact h1
end Go.Proofs.YtindlajlkghneaaGreatDoor
/- A log of freezes: what is anchored, found and told. No condition. -/
set_option linter.unusedVariables false
set_option linter.unusedSimpArgs false
namespace Go.Proofs.YtindlajlkghneaaGreatDoor
open Go
/-- A log as it may stand. -/
structure Inv (all : List Fz) (lv : List Vh) (n : Int) (pk : List Vh) : Prop where
  lv_eq : lv = all.map lfF
  n_eq : n = (all.length : Int)
  stk : Stk 0 all.length pk.reverse lv
  may : ∀ g ∈ all, mayF g.1 g.2.1
theorem inv_nil : Inv [] [] 0 [] := ⟨rfl, rfl, Stk.zero 0, fun g h => by cases h⟩
/-- The last window; -1: there is none. -/
def lastW (all : List Fz) : Int := (all.getLast?.map (·.1)).getD (-1)
theorem lastW_app (all : List Fz) (f : Fz) : lastW (all ++ [f]) = f.1 := by simp [lastW]
theorem last_at {all : List Fz} (h : all ≠ []) : (at_ TF all ((all.length - 1 : Nat) : Int)).1 = lastW all := by
  have hl : 0 < all.length := List.length_pos_iff.2 h
  rw [at_nat (t := TF) (by omega)]
  unfold lastW
  rw [List.getLast?_eq_getElem?, List.getElem?_eq_getElem (by omega)]
  rfl
theorem anchor_arg {w c : Int} (r : Vh) (h : ¬ mayF w c) (all : List Fz) (lv : List Vh) (n : Int) (pk : List Vh) : super_Super_Anchor 1000 (w, c, r, vgl_sha_keys, all, lv, n, pk) = some (0, 1, n, all, lv, pk) := by
  unfold super_Super_Anchor
  refine bind_of (fz_no h r) ?_
  dsimp only
  rw [ine_t (show (1 : Int) ≠ 0 by decide), condO_true]
  rfl
theorem last_ix {all : List Fz} (h : all ≠ []) (hb : all.length ≤ 1000) : WK .i64 (llen all - 1) = ((all.length - 1 : Nat) : Int) := by
  have hl : 0 < all.length := List.length_pos_iff.2 h
  rw [wk_i64 (by unfold llen; omega) (by unfold llen; omega)]
  unfold llen; omega
theorem anchor_state {w c : Int} (r : Vh) (h : mayF w c) (all : List Fz) (lv : List Vh) (n : Int) (pk : List Vh) (hb : all.length ≤ 1000) (hw : w ≤ lastW all) : super_Super_Anchor 1000 (w, c, r, vgl_sha_keys, all, lv, n, pk) = some (0, 13, n, all, lv, pk) := by
  have hne : all ≠ [] := by
    rintro rfl
    have : lastW [] = -1 := rfl
    have := h.1
    omega
  have hl : 0 < all.length := List.length_pos_iff.2 hne
  unfold super_Super_Anchor
  refine bind_of (fz_yes h r) ?_
  dsimp only
  rw [ine_f (rfl : (0 : Int) = 0), condO_false, igt_t (show 0 < llen all by unfold llen; omega), condO_true, last_ix hne hb, guardO_pos ⟨by omega, by unfold llen; omega⟩]
  have e : (at_ T5 all ((all.length - 1 : Nat) : Int)).1 = lastW all := last_at hne
  rw [e, ile_t hw, condO_true]
  rfl
theorem anchor_go {w c : Int} (r : Vh) (h : mayF w c) {all : List Fz} {lv : List Vh} {n : Int} {pk : List Vh} (I : Inv all lv n pk) (hb : all.length ≤ 60) (hw : lastW all < w) :
    ∃ lv' n' pk', super_Super_Anchor 1000 (w, c, r, vgl_sha_keys, all, lv, n, pk) = some ((all.length : Int), 0, n', all ++ [(w, c, r)], lv', pk') ∧ Inv (all ++ [(w, c, r)]) lv' n' pk' := by
  have hlv : lv.length = all.length := by rw [I.lv_eq, List.length_map]
  obtain ⟨pk', h1, h2⟩ := add_ok (lfF (w, c, r)) lv pk all.length I.stk (by omega)
  refine ⟨lv ++ [lfF (w, c, r)], ((all.length + 1 : Nat) : Int), pk', ?_, ⟨by rw [I.lv_eq, List.map_append]; rfl, by simp, by rw [List.length_append]; exact h2, fun g hg => ?_⟩⟩
  · unfold super_Super_Anchor
    refine bind_of (fz_yes h r) ?_
    dsimp only
    have key : (condO (ine (0 : Int) 0) (some (.inl ((0 : Int), (1 : Int)))) (condO (igt (llen all) 0) (guardO ((inR (WK .i64 ((llen all) - 1)) (llen all))) (condO (ile w (at_ T5 all (WK .i64 ((llen all) - 1))).1) (some (.inl (0, 13))) (some (.inr (()))))) (some (.inr (())))) : Option ((Int × Int) ⊕ (Unit))) = some (.inr ()) := by
      rw [ine_f (rfl : (0 : Int) = 0), condO_false]
      by_cases hne : all = []
      · subst hne; rfl
      · have hl : 0 < all.length := List.length_pos_iff.2 hne
        rw [igt_t (show 0 < llen all by unfold llen; omega), condO_true, last_ix hne (by omega), guardO_pos ⟨by omega, by unfold llen; omega⟩]
        have e : (at_ T5 all ((all.length - 1 : Nat) : Int)).1 = lastW all := last_at hne
        rw [e, ile_f hw, condO_false]
    refine bind_of key ?_
    rw [caseS_inr]
    refine bind_of (fz_yes h r) (bind_of (leaf_sha h r) ?_)
    have t1 : ltake (llen all) all = all := by unfold ltake llen; rw [Int.toNat_natCast, List.take_length]
    have t2 : ltake (llen lv) lv = lv := by unfold ltake llen; rw [Int.toNat_natCast, List.take_length]
    rw [t1, t2]
    refine (guardO_pos ⟨by omega, by unfold llen; omega, by omega, rfl⟩).trans ?_
    refine (guardO_pos (show appOk _ _ _ from by unfold appOk; simp; omega)).trans ?_
    refine (guardO_pos ⟨by omega, by unfold llen; omega, by omega, rfl⟩).trans ?_
    refine (guardO_pos (show appOk _ _ _ from by unfold appOk; simp; omega)).trans ?_
    rw [I.n_eq]
    refine bind_of h1 ?_
    dsimp only
    rw [wk_i64 (x := ((all.length + 1 : Nat) : Int) - 1) (by omega) (by omega)]
    congr 2
    omega
  · rcases List.mem_append.1 hg with hg | hg
    · exact I.may g hg
    · rw [List.mem_singleton] at hg; subst hg; exact h
/-- What is found. -/
theorem find_ok (all : List Fz) (w : Int) (lv : List Vh) (n : Int) (pk : List Vh) (hb : all.length ≤ 900) :
    (∃ (i : Nat) (h : i < all.length), super_Super_Find 1000 (w, all, lv, n, pk) = some ((i : Int), true) ∧ (all[i]).1 = w ∧ ∀ j (hj : j < i), (all[j]'(by omega)).1 ≠ w) ∨
    (super_Super_Find 1000 (w, all, lv, n, pk) = some (0, false) ∧ ∀ g ∈ all, g.1 ≠ w) := by
  have key : ∃ r, slices_IndexFunc 1000 (all, w) = some r ∧ ((∃ (i : Nat) (h : i < all.length), r = (i : Int) ∧ (all[i]).1 = w ∧ ∀ j (hj : j < i), (all[j]'(by omega)).1 ≠ w) ∨ (r = -1 ∧ ∀ g ∈ all, g.1 ≠ w)) := by
    unfold slices_IndexFunc
    dsimp only
    refine loop_bindE (fun d h => ∃ i : Nat, h = (i : Int) ∧ i + d = all.length ∧ ∀ j (hj : j < all.length), j < i → (all[j]).1 ≠ w) (fun e : Int ⊕ Unit => match e with | .inl r => ∃ (i : Nat) (h : i < all.length), r = (i : Int) ∧ (all[i]).1 = w ∧ ∀ j (hj : j < i), (all[j]'(by omega)).1 ≠ w | .inr _ => ∀ g ∈ all, g.1 ≠ w) all.length (by omega) ⟨0, rfl, by omega, fun j _ h => by omega⟩ ?_ ?_
    · rintro d _ ⟨i, rfl, hi, hf⟩
      by_cases a : i < all.length
      · have e1 : at_ T5 all (i : Int) = all[i] := at_nat (t := TF) a
        rw [ilt_t (show (i : Int) < llen all by unfold llen; omega), condO_true, guardO_pos ⟨by omega, by unfold llen; omega⟩, e1]
        by_cases b : (all[i]).1 = w
        · rw [ieq_t b, condO_true]
          exact .out ⟨i, a, rfl, b, fun j hj => hf j (by omega) hj⟩
        · rw [ieq_f b, condO_false, wk_i64 (by omega) (by omega)]
          exact .on (d - 1) (by omega) ⟨i + 1, by omega, by omega, fun j hj hlt => by
            rcases Nat.lt_or_ge j i with h | h
            · exact hf j hj h
            · obtain rfl : j = i := by omega
              exact b⟩
      · rw [ilt_f (show llen all ≤ (i : Int) by unfold llen; omega), condO_false]
        refine .out ?_
        show ∀ g ∈ all, g.1 ≠ w
        intro g hg
        obtain ⟨j, hj, rfl⟩ := List.mem_iff_getElem.1 hg
        exact hf j hj (by omega)
    · rintro (r | u) h
      · exact ⟨r, rfl, .inl h⟩
      · exact ⟨-1, rfl, .inr ⟨rfl, h⟩⟩
  obtain ⟨r, h1, h2⟩ := key
  have e : super_Super_Find 1000 (w, all, lv, n, pk) = some (mxI r 0, ige r 0) := bind_of h1 rfl
  rcases h2 with ⟨i, h, rfl, h3, h4⟩ | ⟨rfl, h3⟩
  · refine .inl ⟨i, h, ?_, h3, h4⟩
    rw [e, ige_t (by omega)]
    unfold mxI
    rw [if_neg (by omega)]
  · exact .inr ⟨e, h3⟩
theorem at_yes (all : List Fz) (lv : List Vh) (n : Int) (pk : List Vh) {i : Nat} (h : i < all.length) : super_Super_At 1000 ((i : Int), all, lv, n, pk) = some ((all[i]).1, (all[i]).2.1, (all[i]).2.2, 0) := by
  unfold super_Super_At
  dsimp only
  have e1 : at_ T5 all (i : Int) = all[i] := at_nat (t := TF) h
  rw [ilt_f (by omega), condO_false, ige_f (show (i : Int) < llen all by unfold llen; omega), condO_false, guardO_pos ⟨by omega, by unfold llen; omega⟩, e1]
theorem at_no (all : List Fz) (lv : List Vh) (n : Int) (pk : List Vh) {i : Int} (h : i < 0 ∨ (all.length : Int) ≤ i) : super_Super_At 1000 (i, all, lv, n, pk) = some (0, 0, Vector.replicate 32 0, 19) := by
  unfold super_Super_At
  dsimp only
  by_cases h0 : i < 0
  · rw [ilt_t h0, condO_true]
  · rw [ilt_f (by omega), condO_false, ige_t (show llen all ≤ i by unfold llen; omega), condO_true]
theorem clone_fz (l : List Fz) (h : l.length ≤ 900) : slices_Clone_2 1000 l = some l := by
  have hb : l.length * 48 ≤ 140737488355328 := by omega
  exact guardO_pos hb
theorem awake_ok : law18_awake 1000 vgl_sha_keys = some true := by kernel_rfl
end Go.Proofs.YtindlajlkghneaaGreatDoor
/- A log that is grown out of roots; its root. No condition. -/
set_option linter.unusedVariables false
set_option linter.unusedSimpArgs false
namespace Go.Proofs.YtindlajlkghneaaGreatDoor
open Go
/-- The freezes of some roots. -/
def grownF (roots : List Vh) : List Fz := roots.zipIdx.map fun p => ((3 * (p.2 : Int)), (1 + (p.2 : Int)), p.1)
theorem grown_len (roots : List Vh) : (grownF roots).length = roots.length := by simp [grownF]
theorem grown_get (roots : List Vh) (i : Nat) (h : i < roots.length) : (grownF roots)[i]'(by rw [grown_len]; exact h) = ((3 * (i : Int)), (1 + (i : Int)), roots[i]) := by
  simp [grownF]
theorem grown_take (roots : List Vh) (i : Nat) (h : i < roots.length) : (grownF roots).take (i + 1) = (grownF roots).take i ++ [((3 * (i : Int)), (1 + (i : Int)), roots[i])] := by
  rw [List.take_add_one, List.getElem?_eq_getElem (by rw [grown_len]; exact h), grown_get roots i h]
  rfl
theorem grown_last (roots : List Vh) (i : Nat) (h : i ≤ roots.length) : lastW ((grownF roots).take i) < 3 * (i : Int) := by
  cases i with
  | zero => simp [lastW]
  | succ i =>
    rw [grown_take roots i (by omega), lastW_app]
    omega
theorem grown_ok (roots : List Vh) : ∃ (lv : List Vh) (n : Int) (pk : List Vh), law18_grown 1000 (roots, vgl_sha_keys) = some (.inr (grownF (roots.take 16), lv, n, pk)) ∧ Inv (grownF (roots.take 16)) lv n pk := by
  suffices hk : ∃ r, law18_grown 1000 (roots, vgl_sha_keys) = some r ∧ ∃ (lv : List Vh) (n : Int) (pk : List Vh), r = .inr (grownF (roots.take 16), lv, n, pk) ∧ Inv (grownF (roots.take 16)) lv n pk by
    obtain ⟨_, h1, lv, n, pk, rfl, h2⟩ := hk
    exact ⟨lv, n, pk, h1, h2⟩
  obtain ⟨R, hR⟩ : ∃ R, R = roots.take 16 := ⟨_, rfl⟩
  have hRl : R.length = min 16 roots.length := by rw [hR, List.length_take]
  rw [← hR]
  unfold law18_grown
  dsimp only
  refine loop_bindE (fun d h => ∃ (i : Nat) (lv : List Vh) (n : Int) (pk : List Vh), h = ((i : Int), n, pk, (grownF R).take i, lv) ∧ i + d = R.length ∧ Inv ((grownF R).take i) lv n pk)
    (fun e : (Int × List Vh × List Fz × List Vh) ⊕ (Int × List Vh × List Fz × List Vh) => ∃ (lv : List Vh) (n : Int) (pk : List Vh), e = .inr (n, pk, grownF R, lv) ∧ Inv (grownF R) lv n pk) R.length (by omega) ⟨0, [], 0, [], rfl, by omega, inv_nil⟩ ?_ ?_
  · rintro d _ ⟨i, lv, n, pk, rfl, h1, I⟩
    dsimp only
    by_cases a : i < R.length
    · have hroot : at_ T0 roots (i : Int) = R[i] := by
        rw [at_nat (t := TV) (by omega)]
        simp [hR]
      have ei : WK .i64 ((i : Int) + 1) = ((i + 1 : Nat) : Int) := wk_i64 (by omega) (by omega)
      have e3 : WK .i64 (3 * (i : Int)) = 3 * (i : Int) := wk_i64 (by omega) (by omega)
      have e1 : WK .i64 (1 + (i : Int)) = 1 + (i : Int) := wk_i64 (by omega) (by omega)
      rw [ilt_t (show (i : Int) < llen roots by unfold llen; omega), condO_true, ilt_t (show (i : Int) < 16 by omega), condO_true, guardO_pos ⟨by omega, by unfold llen; omega⟩, hroot, ei, e3, e1]
      have hlen : ((grownF R).take i).length = i := by rw [List.length_take, grown_len]; omega
      obtain ⟨lv', n', pk', hgo, I'⟩ := anchor_go (w := 3 * (i : Int)) (c := 1 + (i : Int)) R[i] ⟨by omega, by omega, by omega, by omega⟩ I (by omega) (grown_last R i (by omega))
      rw [hgo, Option.bind_some]
      dsimp only
      rw [hlen, ine_f (rfl : (i : Int) = (i : Int)), condO_false, ine_f (rfl : (0 : Int) = 0), condO_false]
      rw [← grown_take R i a] at I' ⊢
      exact .on (d - 1) (by omega) ⟨i + 1, lv', n', pk', rfl, by omega, I'⟩
    · have hi : i = R.length := by omega
      rw [List.take_of_length_le (by rw [grown_len]; omega)] at I ⊢
      by_cases b : (i : Int) < llen roots
      · rw [ilt_t b, condO_true, ilt_f (show (16 : Int) ≤ (i : Int) by unfold llen at b; omega), condO_false]
        exact .out ⟨lv, n, pk, rfl, I⟩
      · rw [ilt_f (by omega), condO_false]
        exact .out ⟨lv, n, pk, rfl, I⟩
  · rintro _ ⟨lv, n, pk, rfl, I⟩
    exact ⟨_, rfl, lv, n, pk, rfl, I⟩
def nodeStep (h p : Vh) : Option Vh := guardO ((catOk ⟨#[1]⟩ (strOfNums (Vector.toList p)))) (guardO ((catOk (⟨#[1]⟩ ++ (strOfNums (Vector.toList p))) (strOfNums (Vector.toList h)))) ((sha_Of 1000 (([((⟨#[1]⟩ ++ (strOfNums (Vector.toList p))) ++ (strOfNums (Vector.toList h)))] : List ByteArray), vgl_sha_keys)).bind fun r1 => some (r1)))
theorem nodeStep_ok (h p : Vh) : nodeStep h p = some (node p h) := by
  unfold nodeStep
  rw [guardO_pos (node_cat1 _), guardO_pos (node_cat2 _ _), node_sha, Option.bind_some]
theorem fold_node : ∀ (l : List Vh) (r : Vh), foldL l nodeStep r = some (l.foldl (fun r p => node p r) r)
  | [], r => by simp [foldL]
  | p :: l, r => by
    simp only [foldL]
    rw [nodeStep_ok, Option.bind_some, fold_node l, List.foldl_cons]
/-- The front's root. -/
theorem froot_ok {all : List Fz} {lv : List Vh} {n : Int} {pk : List Vh} (I : Inv all lv n pk) (h0 : all ≠ []) (hb : all.length ≤ 500) : front_Front_Root 1000 (n, vgl_sha_keys, pk) = some (rt 40 lv) := by
  have hl : 0 < all.length := List.length_pos_iff.2 h0
  have hlv : lv.length = all.length := by rw [I.lv_eq, List.length_map]
  have hps := stk_ps I.stk
  rw [List.length_reverse] at hps
  obtain ⟨p, ps, hpk⟩ : ∃ p ps, pk.reverse = p :: ps := by
    cases hq : pk.reverse with
    | nil =>
      have := I.stk
      rw [hq] at this
      have key : ∀ {j k : Nat} {ps l : List Vh}, Stk j k ps l → ps = [] → k = 0 := by
        intro j k ps l h
        induction h with
        | zero j => intro _; rfl
        | even _ ih => intro e; rw [ih e]
        | odd _ _ _ => intro e; cases e
      have := key this rfl
      omega
    | cons p ps => exact ⟨p, ps, rfl⟩
  have hst := I.stk
  rw [hpk] at hst
  have hroot := stk_root hst (by omega)
  have hpk2 : pk = ps.reverse ++ [p] := by
    have := congrArg List.reverse hpk
    simpa using this
  have hpl : pk.length = ps.length + 1 := by rw [hpk2]; simp
  unfold front_Front_Root
  dsimp only
  have e1 : WK .i64 (llen pk - 1) = ((ps.length : Nat) : Int) := by
    rw [wk_i64 (by unfold llen; omega) (by unfold llen; omega)]
    unfold llen; omega
  have e2 : at_ T0 pk ((ps.length : Nat) : Int) = p := by
    rw [at_nat (t := TV) (by omega)]
    simp [hpk2]
  have e3 : pk.take ps.length = ps.reverse := by rw [hpk2, List.take_left' (by simp)]
  rw [ieq_f (show n ≠ 0 by rw [I.n_eq]; omega), condO_false, e1, guardO_pos ⟨by omega, by unfold llen; omega⟩, guardO_pos ⟨by omega, by omega, by unfold llen; omega, rfl⟩, ltake_nat, e3, e2]
  have hf : foldL (backL ps.reverse) (fun h q => nodeStep h q.2) p = some (rt 40 lv) := by
    rw [foldL_back, fold_node, List.reverse_reverse, hroot]
  exact bind_of hf (Eq.refl (some (rt 40 lv)))
end Go.Proofs.YtindlajlkghneaaGreatDoor
/- The log: links and paths of its first ones. No condition. -/
set_option linter.unusedVariables false
set_option linter.unusedSimpArgs false
namespace Go.Proofs.YtindlajlkghneaaGreatDoor
open Go
theorem first_yes {b : Nat} (all : List Fz) (lv : List Vh) (n : Int) (pk : List Vh) (h1 : 1 ≤ b) (h : b ≤ lv.length) : super_Super_first 1000 ((b : Int), all, lv, n, pk) = some (0, lv.take b) := by
  unfold super_Super_first
  dsimp only
  rw [ilt_f (by omega), condO_false, igt_f (show (b : Int) ≤ llen lv by unfold llen; omega), condO_false, guardO_pos ⟨by omega, by omega, by unfold llen; omega, by omega⟩, ltake_nat]
theorem first_no {b : Int} (all : List Fz) (lv : List Vh) (n : Int) (pk : List Vh) (h : b < 1 ∨ (lv.length : Int) < b) : super_Super_first 1000 (b, all, lv, n, pk) = some (19, []) := by
  unfold super_Super_first
  dsimp only
  by_cases h1 : b < 1
  · rw [ilt_t h1, condO_true]
  · rw [ilt_f (by omega), condO_false, igt_t (show llen lv < b by unfold llen; omega), condO_true]
theorem slinks_ok {a b : Nat} (all : List Fz) (lv : List Vh) (n : Int) (pk : List Vh) (h1 : 1 ≤ a) (hab : a ≤ b) (h : b ≤ lv.length) (hl : lv.length ≤ 512) : super_Super_Links 1000 ((a : Int), (b : Int), vgl_sha_keys, all, lv, n, pk) = some (0, lks a (lv.take b)) := by
  unfold super_Super_Links
  dsimp only
  refine bind_of (first_yes all lv n pk (by omega) h) ?_
  dsimp only
  rw [ine_f (rfl : (0 : Int) = 0), condO_false]
  refine bind_of (plinks_ok h1 (by rw [List.length_take]; omega) (by rw [List.length_take]; omega)) ?_
  dsimp only
  rw [Bool.not_true, condO_false]
theorem spath_ok {m b : Nat} (all : List Fz) (lv : List Vh) (n : Int) (pk : List Vh) (hmb : m < b) (h : b ≤ lv.length) (hl : lv.length ≤ 512) : super_Super_Path 1000 ((m : Int), (b : Int), vgl_sha_keys, all, lv, n, pk) = some (0, pth false 40 m (lv.take b)) := by
  unfold super_Super_Path
  dsimp only
  refine bind_of (first_yes all lv n pk (by omega) h) ?_
  dsimp only
  rw [ine_f (rfl : (0 : Int) = 0), condO_false]
  refine bind_of (path_ok (by rw [List.length_take]; omega) (by rw [List.length_take]; omega)) ?_
  dsimp only
  rw [Bool.not_true, condO_false]
theorem leaf_cat {f : Fz} (h : mayF f.1 f.2.1) : catOk ⟨#[0]⟩ (mkB (fzL f.1 f.2.1 f.2.2)) := by
  have hl := fzL_len h f.2.2
  exact cat_mkB (a := [0]) (by simp; omega)
theorem leaf_ref {f : Fz} (h : mayF f.1 f.2.1) : ref02_Of 1000 (⟨#[0]⟩ ++ mkB (fzL f.1 f.2.1 f.2.2)) = some (lfF f) := by
  have hl := fzL_len h f.2.2
  have e : (⟨#[0]⟩ : ByteArray) ++ mkB (fzL f.1 f.2.1 f.2.2) = mkB ([0] ++ fzL f.1 f.2.1 f.2.2) := mkB_app [0] _
  rw [e, ref_of _ (by simp; omega)]
  rfl
theorem right_at {m n : Nat} {l : List Vh} {x : Vh} (hx : l[m]? = some x) (hn : l.length = n) (hl : l.length ≤ 512) : ref12_Right 1000 (rt 40 l, x, (m : Int), (n : Int), pth false 40 m l) = some true := by
  obtain ⟨hm, rfl⟩ := List.getElem?_eq_some_iff.1 hx
  subst hn
  exact right_ok hm hl
theorem place_of (x : Int) {n : Nat} (h : 0 < n) (hn : n ≤ 512) : ∃ m : Nat, m < n ∧ Int.tmod (WK .i64 (Int.tmod x (n : Int) + (n : Int))) (n : Int) = (m : Int) := by
  have h1 : Int.tmod x (n : Int) < (n : Int) := Int.tmod_lt_of_pos x (by omega)
  have h2 : -(n : Int) < Int.tmod x (n : Int) := Int.lt_tmod_of_pos x (b := (n : Int)) (by omega)
  rw [wk_i64 (by omega) (by omega)]
  have h3 : Int.tmod (Int.tmod x (n : Int) + (n : Int)) (n : Int) < (n : Int) := Int.tmod_lt_of_pos _ (by omega)
  have h4 : 0 ≤ Int.tmod (Int.tmod x (n : Int) + (n : Int)) (n : Int) := Int.tmod_nonneg _ (by omega)
  exact ⟨(Int.tmod (Int.tmod x (n : Int) + (n : Int)) (n : Int)).toNat, by omega, by omega⟩
theorem size_of (x : Int) {n : Nat} (h : 0 < n) (hn : n ≤ 512) : ∃ m : Nat, 1 ≤ m ∧ m ≤ n ∧ WK .i64 (1 + Int.tmod (WK .i64 (Int.tmod x (n : Int) + (n : Int))) (n : Int)) = (m : Int) := by
  obtain ⟨m, h1, h2⟩ := place_of x h hn
  refine ⟨m + 1, by omega, by omega, ?_⟩
  rw [h2, wk_i64 (by omega) (by omega)]; omega
end Go.Proofs.YtindlajlkghneaaGreatDoor
/- The plain law of SuperGoes. No condition. -/
set_option linter.unusedVariables false
set_option linter.unusedSimpArgs false
namespace Go.Proofs.YtindlajlkghneaaGreatDoor
open Go
def SuperGoesPure : Prop := ∀ (z0 : Ty.den (.sl 32 (.arr 32 (.int .u8)))) (z1 : Ty.den (.arr 3 (.int .i64))), wfT (.sl 32 (.arr 32 (.int .u8))) z0 → wfT (.arr 3 (.int .i64)) z1 → ∃ k, law18_SuperGoes k (z1, z0, vgl_sha_keys) = some true
theorem superGoes_law : SuperGoesPure := by
  intro roots q _ _
  refine ⟨1000, ?_⟩
  obtain ⟨lv, n, pk, hg, I⟩ := grown_ok roots
  unfold law18_SuperGoes
  refine bind_of awake_ok (bind_of hg ?_)
  rw [caseS_inr]
  dsimp only
  obtain ⟨all, hall⟩ : ∃ all, all = grownF (roots.take 16) := ⟨_, rfl⟩
  have hal : all.length = min 16 roots.length := by rw [hall, grown_len, List.length_take]
  rw [← hall] at I ⊢
  by_cases h0 : all.length = 0
  · exact (congrArg (condO · _ _) (ieq_t (show llen all = 0 by unfold llen; omega))).trans (condO_true _ _)
  · refine (congrArg (condO · _ _) (ieq_f (show llen all ≠ 0 by unfold llen; omega))).trans ((condO_false _ _).trans ?_)
    have hlv : lv.length = all.length := by rw [I.lv_eq, List.length_map]
    have hz : nz (llen all) := by unfold nz llen; omega
    refine (guardO_pos (by decide)).trans ((guardO_pos hz).trans ((guardO_pos hz).trans ((guardO_pos (by decide)).trans ((guardO_pos hz).trans ((guardO_pos hz).trans ?_)))))
    obtain ⟨a0, ha1, ha2, ha3⟩ := size_of (vAt 0 q 0) (n := all.length) (by omega) (by omega)
    obtain ⟨b0, hb1, hb2, hb3⟩ := size_of (vAt 0 q 1) (n := all.length) (by omega) (by omega)
    have ha3' : WK .i64 (1 + Int.tmod (WK .i64 (Int.tmod (vAt 0 q 0) (llen all) + llen all)) (llen all)) = (a0 : Int) := ha3
    have hb3' : WK .i64 (1 + Int.tmod (WK .i64 (Int.tmod (vAt 0 q 1) (llen all) + llen all)) (llen all)) = (b0 : Int) := hb3
    rw [ha3', hb3']
    obtain ⟨a, b, h1, hab, hbn, hc⟩ : ∃ a b : Nat, 1 ≤ a ∧ a ≤ b ∧ b ≤ all.length ∧ (condO (igt (a0 : Int) (b0 : Int)) (some ((b0 : Int), (a0 : Int))) (some ((a0 : Int), (b0 : Int))) : Option (Int × Int)) = some ((a : Int), (b : Int)) := by
      by_cases h : b0 < a0
      · exact ⟨b0, a0, hb1, by omega, ha2, by rw [igt_t (by omega), condO_true]⟩
      · exact ⟨a0, b0, ha1, by omega, hb2, by rw [igt_f (by omega), condO_false]⟩
    refine bind_of hc ?_
    dsimp only
    have hza : nz (a : Int) := by unfold nz; omega
    obtain ⟨m, hm, hm2⟩ := place_of (vAt 0 q 2) (n := a) (by omega) (by omega)
    refine (guardO_pos (by decide)).trans ((guardO_pos hza).trans ((guardO_pos hza).trans ((guardO_pos ⟨by omega, by omega, by unfold llen; omega, by omega⟩).trans ?_)))
    rw [ltake_nat, ltake_nat, hm2]
    obtain ⟨lva, na, pka, hga, Ia⟩ := grown_ok (roots.take a)
    obtain ⟨lvb, nb, pkb, hgb, Ib⟩ := grown_ok (roots.take b)
    have hta : (roots.take a).take 16 = (roots.take 16).take a := by rw [List.take_take, List.take_take, Nat.min_comm]
    have htb : (roots.take b).take 16 = (roots.take 16).take b := by rw [List.take_take, List.take_take, Nat.min_comm]
    have hgt : ∀ (R : List Vh) (j : Nat), grownF (R.take j) = (grownF R).take j := fun R j => by
      apply List.ext_getElem
      · simp [grown_len]
      · intro i x1 x2
        rw [List.getElem_take]
        simp only [grown_len, List.length_take] at x1
        rw [grown_get _ i (by rw [List.length_take]; omega), grown_get R i (by omega), List.getElem_take]
    rw [hta, hgt, ← hall] at hga Ia
    rw [htb, hgt, ← hall] at hgb Ib
    have hla : lva = (lv.take b).take a := by rw [Ia.lv_eq, I.lv_eq, List.map_take, List.take_take, Nat.min_eq_left hab]
    have hlb : lvb = lv.take b := by rw [Ib.lv_eq, I.lv_eq, List.map_take]
    have hlba : (lv.take b).length = b := by rw [List.length_take]; omega
    have nea : all.take a ≠ [] := fun h => by have := congrArg List.length h; rw [List.length_take, List.length_nil] at this; omega
    have neb : all.take b ≠ [] := fun h => by have := congrArg List.length h; rw [List.length_take, List.length_nil] at this; omega
    have fa := froot_ok Ia nea (by rw [List.length_take]; omega)
    have fb := froot_ok Ib neb (by rw [List.length_take]; omega)
    rw [hla] at fa
    rw [hlb] at fb
    have ta : ieq (llen (all.take a)) 0 = false := ieq_f (by unfold llen; rw [List.length_take]; omega)
    have tb : ieq (llen (all.take b)) 0 = false := ieq_f (by unfold llen; rw [List.length_take]; omega)
    have hmF : mayF all[m].1 all[m].2.1 := I.may _ (List.getElem_mem (by omega))
    have hleaf : (lv.take b)[m]? = some (lfF all[m]) := by
      rw [List.getElem?_take, if_pos (by omega)]
      refine (congrArg (·[m]?) I.lv_eq).trans ?_
      rw [List.getElem?_map, List.getElem?_eq_getElem (by omega)]
      rfl
    have hgo := goes_ok (m := a) (l := lv.take b) h1 (by omega) (by omega)
    have hri := right_at hleaf hlba (by omega)
    rw [hlba] at hgo
    refine bind_of hga ?_
    rw [caseS_inr]
    refine (guardO_pos ⟨by omega, by omega, by unfold llen; omega, by omega⟩).trans ?_
    refine bind_of hgb ?_
    rw [caseS_inr]
    refine bind_of (slinks_ok all lv n pk h1 hab (by omega) (by omega)) ?_
    refine bind_of (spath_ok all lv n pk (by omega) (by omega) (by omega)) ?_
    refine bind_of (at_yes all lv n pk (by omega)) ?_
    dsimp only
    refine (condO_true _ _).trans ((condO_true _ _).trans ((condO_true _ _).trans ((condO_true _ _).trans ?_)))
    refine (congrArg (condO · _ _) ta).trans ((condO_false _ _).trans ?_)
    refine bind_of fa ?_
    refine (congrArg (condO · _ _) tb).trans ((condO_false _ _).trans ?_)
    refine bind_of fb (bind_of hgo ?_)
    refine (condO_true _ _).trans ?_
    refine (congrArg (condO · _ _) tb).trans ((condO_false _ _).trans ?_)
    refine bind_of fb (bind_of (rfz_yes hmF _) ?_)
    refine (guardO_pos (leaf_cat hmF)).trans (bind_of (leaf_ref hmF) (bind_of hri rfl))
end Go.Proofs.YtindlajlkghneaaGreatDoor
