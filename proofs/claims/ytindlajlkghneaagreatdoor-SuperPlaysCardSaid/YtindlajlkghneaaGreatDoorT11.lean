/- Texts of the proof, put together: part 11. No condition. -/
import Derived.Test.YtindlajlkghneaaGreatDoorT10
/- A log of freezes: its leaves, its peaks, what is anchored. No condition. -/
set_option linter.unusedVariables false
set_option linter.unusedSimpArgs false
namespace Go.Proofs.YtindlajlkghneaaGreatDoor
open Go
abbrev Fz := Int × Int × Vh
abbrev TV : Ty := .arr 32 (.int .u8)
abbrev TF : Ty := .pair (.int .i64) (.pair (.int .i64) TV)
/-- May it be anchored at all? -/
def mayF (w c : Int) : Prop := 0 ≤ w ∧ w ≤ 1125899906842624 ∧ 1 ≤ c ∧ c ≤ 4000
instance (w c : Int) : Decidable (mayF w c) := by unfold mayF; infer_instance
def fzL (w c : Int) (r : Vh) : List UInt8 := [70] ++ putL w.toNat ++ putL c.toNat ++ (putL 32 ++ vb r)
theorem put_small {x : Nat} (h : x < 18446744073709551616) : (putL x).length ≤ 9 := by
  have := wdt_le h
  rw [putL_len]; omega
theorem fzL_len {w c : Int} (h : mayF w c) (r : Vh) : (fzL w c r).length ≤ 70 := by
  obtain ⟨h1, h2, h3, h4⟩ := h
  have a := put_small (x := w.toNat) (by omega)
  have b := put_small (x := c.toNat) (by omega)
  have d := put_small (x := 32) (by decide)
  simp only [fzL, List.length_append, vb_len, List.length_singleton]
  omega
theorem put_of {x : Int} (h0 : 0 ≤ x) (h1 : x ≤ 1125899906842624) : octet_Put 1000 (WK .u64 x) = some (mkB (putL x.toNat)) := by
  rw [wk_u64 h0 (by omega)]
  obtain ⟨n, rfl⟩ := Int.eq_ofNat_of_zero_le h0
  rw [put_ok 1000 (by decide) (by omega)]
  rfl
theorem rput_of {x : Int} (h0 : 0 ≤ x) (h1 : x ≤ 1125899906842624) : ref01_Put 1000 (WK .u64 x) = some (mkB (putL x.toNat)) := by
  rw [wk_u64 h0 (by omega)]
  obtain ⟨n, rfl⟩ := Int.eq_ofNat_of_zero_le h0
  rw [rput_ok 1000 (by decide) (by omega)]
  rfl
theorem vb_blen (r : Vh) : blen (strOfNums (Vector.toList r)) = 32 := by
  rw [vb_str, blen_mkB, vb_len]; rfl
theorem fz_yes {w c : Int} (h : mayF w c) (r : Vh) : seal_FreezeBytes 1000 (w, c, r) = some (mkB (fzL w c r), 0) := by
  obtain ⟨h1, h2, h3, h4⟩ := h
  have hl := fzL_len (show mayF w c from ⟨h1, h2, h3, h4⟩) r
  unfold seal_FreezeBytes
  dsimp only
  rw [ige_t h1, condO_true, ile_t h2, Bool.not_true, condO_false, ieq_f (show c ≠ 0 by omega), condO_false, ige_t (show 0 ≤ c by omega), condO_true, ile_t h4, Bool.not_true, condO_false]
  refine bind_of (put_of h1 h2) (bind_of (put_of (by omega) (by omega)) ?_)
  rw [vb_blen]
  refine bind_of (put_of (x := 32) (by decide) (by decide)) ?_
  have d := put_small (x := 32) (by decide)
  refine (guardO_pos (cat_mkB (a := putL 32) (b := vb r) (by rw [vb_len]; omega))).trans ?_
  rw [vb_str, show mkB (putL (32 : Int).toNat) ++ mkB (vb r) = mkB (putL 32 ++ vb r) from mkB_app _ _]
  refine bind_of (a := mkB (fzL w c r)) ?_ rfl
  show L_strings_Join 1000 _ = _
  unfold L_strings_Join
  have hj : Lib.join (([⟨#[70]⟩, mkB (putL w.toNat), mkB (putL c.toNat), mkB (putL 32 ++ vb r)] : List ByteArray).map (·.data.toList)) (str0 : ByteArray).data.toList = fzL w c r := by
    simp [Lib.join, fzL, mkB]
  have hb : (Lib.join (([⟨#[70]⟩, mkB (putL w.toNat), mkB (putL c.toNat), mkB (putL 32 ++ vb r)] : List ByteArray).map (·.data.toList)) (str0 : ByteArray).data.toList).length ≤ 140737488355328 := by
    rw [hj]; omega
  refine (guardO_pos ⟨by simp, by simp, hb⟩).trans ?_
  exact congrArg (fun l => some (mkB l)) hj
theorem fz_no {w c : Int} (h : ¬ mayF w c) (r : Vh) : seal_FreezeBytes 1000 (w, c, r) = some (str0, 1) := by
  unfold seal_FreezeBytes
  dsimp only
  by_cases h1 : 0 ≤ w
  · rw [ige_t h1, condO_true]
    by_cases h2 : w ≤ 1125899906842624
    · rw [ile_t h2, Bool.not_true, condO_false]
      by_cases h3 : c = 0
      · rw [ieq_t h3, condO_true]
      · rw [ieq_f h3, condO_false]
        by_cases h4 : 0 ≤ c
        · rw [ige_t h4, condO_true, ile_f (by unfold mayF at h; omega), Bool.not_false, condO_true]
        · rw [ige_f (by omega), condO_false]
    · rw [ile_f (by omega), Bool.not_false, condO_true]
  · rw [ige_f (by omega), condO_false]
theorem rfz_yes {w c : Int} (h : mayF w c) (r : Vh) : ref16_FreezeBytes 1000 (w, c, r) = some (mkB (fzL w c r), 0) := by
  obtain ⟨h1, h2, h3, h4⟩ := h
  have a := put_small (x := w.toNat) (by omega)
  have b := put_small (x := c.toNat) (by omega)
  have d := put_small (x := 32) (by decide)
  unfold ref16_FreezeBytes
  dsimp only
  rw [ilt_f h1, condO_false, igt_f h2, condO_false, ilt_f h3, condO_false, igt_f h4, condO_false]
  refine bind_of (rput_of h1 h2) ?_
  refine (guardO_pos (cat_mkB (a := [70]) (b := putL w.toNat) (by simp; omega))).trans ?_
  rw [show (⟨#[70]⟩ : ByteArray) ++ mkB (putL w.toNat) = mkB ([70] ++ putL w.toNat) from mkB_app [70] _]
  refine bind_of (rput_of (by omega) (by omega)) ?_
  refine (guardO_pos (cat_mkB (b := putL c.toNat) (by simp; omega))).trans ?_
  rw [vb_blen]
  refine bind_of (rput_of (x := 32) (by decide) (by decide)) ?_
  refine (guardO_pos (cat_mkB (a := putL 32) (b := vb r) (by rw [vb_len]; omega))).trans ?_
  rw [vb_str, show mkB (putL (32 : Int).toNat) ++ mkB (vb r) = mkB (putL 32 ++ vb r) from mkB_app _ _, mkB_app]
  refine (guardO_pos (cat_mkB (by simp [vb_len]; omega))).trans ?_
  rw [mkB_app]
  rfl
theorem rfz_no {w c : Int} (h : ¬ mayF w c) (r : Vh) : ref16_FreezeBytes 1000 (w, c, r) = some (str0, 1) := by
  unfold ref16_FreezeBytes
  dsimp only
  by_cases h1 : w < 0
  · rw [ilt_t h1, condO_true]
  · rw [ilt_f (by omega), condO_false]
    by_cases h2 : 1125899906842624 < w
    · rw [igt_t h2, condO_true]
    · rw [igt_f (by omega), condO_false]
      by_cases h3 : c < 1
      · rw [ilt_t h3, condO_true]
      · rw [ilt_f (by omega), condO_false, igt_t (by unfold mayF at h; omega), condO_true]
/-- A freeze's leaf. -/
def lfF (f : Fz) : Vh := hsh ([0] ++ fzL f.1 f.2.1 f.2.2)
theorem leaf_sha {w c : Int} (h : mayF w c) (r : Vh) : sha_Of 1000 ([⟨#[0]⟩, mkB (fzL w c r)], vgl_sha_keys) = some (lfF (w, c, r)) := by
  have hl := fzL_len h r
  have := sha_of [[0], fzL w c r] (by simp) (by simp; omega)
  simpa [lfF] using this
/-! ### peaks -/
inductive Stk : Nat → Nat → List Vh → List Vh → Prop
  | zero (j : Nat) : Stk j 0 [] []
  | even {j k : Nat} {ps l : List Vh} : Stk (j + 1) k ps l → Stk j (2 * k) ps l
  | odd {j k : Nat} {ps l1 l2 : List Vh} : l2.length = 2 ^ j → Stk (j + 1) k ps l1 → Stk j (2 * k + 1) (rt 40 l2 :: ps) (l1 ++ l2)
theorem rt_cat {j : Nat} {l t : List Vh} (h : l.length = 2 ^ j) (h1 : 1 ≤ t.length) (h2 : t.length ≤ 2 ^ j) (hb : l.length + t.length ≤ 512) : rt 40 (l ++ t) = node (rt 40 l) (rt 40 t) := by
  have h0 : 1 ≤ 2 ^ j := Nat.one_le_two_pow
  have hs : sp (l ++ t).length = 2 ^ j := by
    rw [List.length_append]
    exact sp_unique (by omega) (by rw [Nat.pow_succ]; omega)
  rw [rt40_big (by rw [List.length_append]; omega) (by rw [List.length_append]; omega), hs, ← h, List.take_left, List.drop_left]
theorem stk_len {j k : Nat} {ps l : List Vh} (h : Stk j k ps l) : l.length = k * 2 ^ j := by
  induction h with
  | zero j => simp
  | @even j k ps l _ ih => rw [ih, Nat.pow_succ, Nat.mul_comm (2 ^ j) 2, ← Nat.mul_assoc, Nat.mul_comm k 2]
  | @odd j k ps l1 l2 h2 _ ih => rw [List.length_append, ih, h2, Nat.add_mul, Nat.pow_succ, Nat.one_mul, Nat.mul_comm (2 ^ j) 2, ← Nat.mul_assoc, Nat.mul_comm k 2]
theorem stk_fold {j k : Nat} {ps l : List Vh} (h : Stk j k ps l) : ∀ t : List Vh, 1 ≤ t.length → t.length ≤ 2 ^ j → l.length + t.length ≤ 512 → ps.foldl (fun r p => node p r) (rt 40 t) = rt 40 (l ++ t) := by
  induction h with
  | zero j => intro t _ _ _; rw [List.foldl_nil, List.nil_append]
  | even _ ih => intro t h1 h2 h3; exact ih t h1 (by rw [Nat.pow_succ]; omega) h3
  | odd hl _ ih =>
    intro t h1 h2 h3
    rw [List.length_append] at h3
    rw [List.foldl_cons, ← rt_cat hl h1 h2 (by omega), ih _ (by rw [List.length_append]; omega) (by rw [List.length_append, Nat.pow_succ]; omega) (by rw [List.length_append]; omega), List.append_assoc]
theorem stk_root {j k : Nat} {p : Vh} {ps l : List Vh} (h : Stk j k (p :: ps) l) (hb : l.length ≤ 512) : ps.foldl (fun r p => node p r) p = rt 40 l := by
  generalize hq : p :: ps = q at h
  induction h with
  | zero j => cases hq
  | even _ ih => exact ih hb hq
  | @odd j' k' ps' l1 l2 hl hs _ =>
    cases hq
    have h0 : 1 ≤ 2 ^ j' := Nat.one_le_two_pow
    rw [List.length_append] at hb
    exact stk_fold hs l2 (by omega) (by rw [Nat.pow_succ]; omega) hb
theorem clone_vh (l : List Vh) (h : l.length ≤ 900) : slices_Clone 1000 l = some l := by
  have hb : l.length * 32 ≤ 140737488355328 := by omega
  exact guardO_pos hb
theorem stk_ps {j k : Nat} {ps l : List Vh} (h : Stk j k ps l) : ps.length ≤ l.length := by
  induction h with
  | zero j => simp
  | even _ ih => exact ih
  | odd hl _ ih =>
    rename_i j' k' _ _ _ _
    have h0 : 1 ≤ 2 ^ j' := Nat.one_le_two_pow
    rw [List.length_cons, List.length_append]; omega
theorem add_ok (x : Vh) (l pk : List Vh) (n : Nat) (hs : Stk 0 n pk.reverse l) (hb : l.length ≤ 100) :
    ∃ pk', front_Front_Add 1000 (x, (n : Int), vgl_sha_keys, pk) = some (((n + 1 : Nat) : Int), ((n + 1 : Nat) : Int), pk') ∧ Stk 0 (n + 1) pk'.reverse (l ++ [x]) := by
  have hn := stk_len hs
  have hp := stk_ps hs
  rw [List.length_reverse] at hp
  rw [Nat.pow_zero, Nat.mul_one] at hn
  suffices hk : ∃ r, front_Front_Add 1000 (x, (n : Int), vgl_sha_keys, pk) = some r ∧ ∃ pk', r = (((n + 1 : Nat) : Int), ((n + 1 : Nat) : Int), pk') ∧ Stk 0 (n + 1) pk'.reverse (l ++ [x]) by
    obtain ⟨_, h1, pk', rfl, h2⟩ := hk
    exact ⟨pk', h1, h2⟩
  unfold front_Front_Add
  dsimp only
  rw [ige_f (show (n : Int) < 1099511627776 by omega), condO_false, clone_vh pk (by omega), Option.bind_some]
  refine loop_bindE (fun d h => ∃ (j k : Nat) (ps l' blk : List Vh), h = ((k : Int), rt 40 blk, ps.reverse) ∧ blk.length = 2 ^ j ∧ Stk j k ps l' ∧ l' ++ blk = l ++ [x] ∧ k < 2 ^ d ∧ d ≤ 10 ∧ ps.length ≤ 100 ∧ ∀ Q, Stk j (k + 1) Q (l ++ [x]) → Stk 0 (n + 1) Q (l ++ [x])) (fun e : Vh × List Vh => Stk 0 (n + 1) (e.1 :: e.2.reverse) (l ++ [x]) ∧ e.2.length ≤ 100) 10 (by omega)
    ⟨0, n, pk.reverse, l, [x], by rw [rt_small (by simp), List.reverse_reverse]; rfl, rfl, hs, rfl, by show n < 1024; omega, Nat.le_refl 10, by rw [List.length_reverse]; omega, fun Q h => h⟩ ?_ ?_
  · rintro d _ ⟨j, k, ps, l', blk, rfl, h1, h2, h3, h4, h5, h6, h7⟩
    dsimp only
    rw [guardO_pos (show nz 2 by decide)]
    have em : Int.tmod (k : Int) 2 = ((k % 2 : Nat) : Int) := rfl
    rw [em]
    have htot := congrArg List.length h3
    simp only [List.length_append, List.length_singleton] at htot
    cases h2 with
    | zero =>
      rw [ieq_t (by rfl), condO_true]
      refine .out ⟨?_, by simp⟩
      rw [List.reverse_reverse]
      rw [List.nil_append] at h3
      refine h7 _ ?_
      have := Stk.odd (j := j) (k := 0) (l2 := blk) h1 (Stk.zero (j + 1))
      rw [List.nil_append] at this
      rw [← h3]
      exact this
    | even hs' =>
      rename_i k'
      rw [ieq_t (by omega), condO_true]
      refine .out ⟨?_, by simpa using h6⟩
      rw [List.reverse_reverse]
      refine h7 _ ?_
      have := Stk.odd (j := j) (k := k') (l2 := blk) h1 hs'
      rw [h3] at this
      exact this
    | odd hl hs' =>
      rename_i k' ps' l1 l2
      rw [ieq_f (by omega), condO_false]
      have hlen : (rt 40 l2 :: ps').reverse.length = ps'.length + 1 := by simp
      have e1 : WK .i64 (llen (rt 40 l2 :: ps').reverse - 1) = ((ps'.length : Nat) : Int) := by
        have : llen (rt 40 l2 :: ps').reverse = (ps'.length : Int) + 1 := by unfold llen; rw [hlen]; omega
        rw [this, wk_i64 (by omega) (by simp at h6; omega)]; omega
      have e2 : at_ TV (rt 40 l2 :: ps').reverse ((ps'.length : Nat) : Int) = rt 40 l2 := by
        rw [at_nat (t := TV) (by rw [hlen]; omega)]
        simp
      have e3 : (rt 40 l2 :: ps').reverse.take ps'.length = ps'.reverse := by
        rw [List.reverse_cons, List.take_left' (by simp)]
      obtain ⟨d, rfl⟩ : ∃ d', d = d' + 1 := by
        cases d with
        | zero => rw [Nat.pow_zero] at h4; omega
        | succ d => exact ⟨d, rfl⟩
      have ek : WK .i64 (Int.tdiv ((2 * k' + 1 : Nat) : Int) 2) = (k' : Int) := by
        show WK .i64 (((2 * k' + 1) / 2 : Nat) : Int) = _
        rw [show (2 * k' + 1) / 2 = k' by omega]
        have : 2 ^ (d + 1) ≤ 2 ^ 10 := Nat.pow_le_pow_right (by omega) h5
        exact wk_nat (by omega)
      have hpw : 2 ^ (d + 1) = 2 * 2 ^ d := by rw [Nat.pow_succ, Nat.mul_comm]
      rw [e1, e2, guardO_pos ⟨by omega, by unfold llen; rw [hlen]; omega⟩, guardO_pos (node_cat1 _), guardO_pos (node_cat2 _ _), node_sha, Option.bind_some]
      rw [guardO_pos (show tkOk _ _ from ⟨by omega, by unfold llen; rw [hlen]; omega⟩), guardO_pos (show nz 2 by decide), ltake_nat, e3, ek]
      simp only [List.length_append] at htot
      have hj0 : 1 ≤ 2 ^ j := Nat.one_le_two_pow
      refine .on d (by omega) ⟨j + 1, k', ps', l1, l2 ++ blk, ?_, by rw [List.length_append, hl, h1, Nat.pow_succ]; omega, hs', by rw [← List.append_assoc]; exact h3, by omega, by omega, by simp at h6; omega, fun Q hQ => h7 Q (by have := Stk.even hQ; rw [show 2 * (k' + 1) = 2 * k' + 1 + 1 by omega] at this; exact this)⟩
      rw [rt_cat hl (by omega) (by omega) (by omega)]
  · rintro ⟨y, ps⟩ ⟨h1, h2⟩
    dsimp only at h1 h2 ⊢
    have e1 : WK .i64 ((n : Int) + 1) = ((n + 1 : Nat) : Int) := by rw [wk_i64 (by omega) (by omega)]; omega
    refine ⟨_, (guardO_pos (show appOk ps [y] 32 by unfold appOk; simp; omega)).trans rfl, ps ++ [y], ?_, ?_⟩
    · rw [e1]
    · rw [List.reverse_append]; exact h1
end Go.Proofs.YtindlajlkghneaaGreatDoor
/- A log of freezes: what is anchored, found and told. No condition. -/
set_option linter.unusedVariables false
set_option linter.unusedSimpArgs false
namespace Go.Proofs.YtindlajlkghneaaGreatDoor
open Go
/-- A log as it may stand. -/
structure Inv (all : List Fz) (lv : List Vh) (n : Int) (pk : List Vh) : Prop where
  lv_eq : lv = all.map lfF
  n_eq : n = (all.length : Int)
  stk : Stk 0 all.length pk.reverse lv
  may : ∀ g ∈ all, mayF g.1 g.2.1
theorem inv_nil : Inv [] [] 0 [] := ⟨rfl, rfl, Stk.zero 0, fun g h => by cases h⟩
/-- The last window; -1: there is none. -/
def lastW (all : List Fz) : Int := (all.getLast?.map (·.1)).getD (-1)
theorem lastW_app (all : List Fz) (f : Fz) : lastW (all ++ [f]) = f.1 := by simp [lastW]
theorem last_at {all : List Fz} (h : all ≠ []) : (at_ TF all ((all.length - 1 : Nat) : Int)).1 = lastW all := by
  have hl : 0 < all.length := List.length_pos_iff.2 h
  rw [at_nat (t := TF) (by omega)]
  unfold lastW
  rw [List.getLast?_eq_getElem?, List.getElem?_eq_getElem (by omega)]
  rfl
theorem anchor_arg {w c : Int} (r : Vh) (h : ¬ mayF w c) (all : List Fz) (lv : List Vh) (n : Int) (pk : List Vh) : super_Super_Anchor 1000 (w, c, r, vgl_sha_keys, all, lv, n, pk) = some (0, 1, n, all, lv, pk) := by
  unfold super_Super_Anchor
  refine bind_of (fz_no h r) ?_
  dsimp only
  rw [ine_t (show (1 : Int) ≠ 0 by decide), condO_true]
  rfl
theorem last_ix {all : List Fz} (h : all ≠ []) (hb : all.length ≤ 1000) : WK .i64 (llen all - 1) = ((all.length - 1 : Nat) : Int) := by
  have hl : 0 < all.length := List.length_pos_iff.2 h
  rw [wk_i64 (by unfold llen; omega) (by unfold llen; omega)]
  unfold llen; omega
theorem anchor_state {w c : Int} (r : Vh) (h : mayF w c) (all : List Fz) (lv : List Vh) (n : Int) (pk : List Vh) (hb : all.length ≤ 1000) (hw : w ≤ lastW all) : super_Super_Anchor 1000 (w, c, r, vgl_sha_keys, all, lv, n, pk) = some (0, 13, n, all, lv, pk) := by
  have hne : all ≠ [] := by
    rintro rfl
    have : lastW [] = -1 := rfl
    have := h.1
    omega
  have hl : 0 < all.length := List.length_pos_iff.2 hne
  unfold super_Super_Anchor
  refine bind_of (fz_yes h r) ?_
  dsimp only
  rw [ine_f (rfl : (0 : Int) = 0), condO_false, igt_t (show 0 < llen all by unfold llen; omega), condO_true, last_ix hne hb, guardO_pos ⟨by omega, by unfold llen; omega⟩]
  have e : (at_ T5 all ((all.length - 1 : Nat) : Int)).1 = lastW all := last_at hne
  rw [e, ile_t hw, condO_true]
  rfl
theorem anchor_go {w c : Int} (r : Vh) (h : mayF w c) {all : List Fz} {lv : List Vh} {n : Int} {pk : List Vh} (I : Inv all lv n pk) (hb : all.length ≤ 60) (hw : lastW all < w) :
    ∃ lv' n' pk', super_Super_Anchor 1000 (w, c, r, vgl_sha_keys, all, lv, n, pk) = some ((all.length : Int), 0, n', all ++ [(w, c, r)], lv', pk') ∧ Inv (all ++ [(w, c, r)]) lv' n' pk' := by
  have hlv : lv.length = all.length := by rw [I.lv_eq, List.length_map]
  obtain ⟨pk', h1, h2⟩ := add_ok (lfF (w, c, r)) lv pk all.length I.stk (by omega)
  refine ⟨lv ++ [lfF (w, c, r)], ((all.length + 1 : Nat) : Int), pk', ?_, ⟨by rw [I.lv_eq, List.map_append]; rfl, by simp, by rw [List.length_append]; exact h2, fun g hg => ?_⟩⟩
  · unfold super_Super_Anchor
    refine bind_of (fz_yes h r) ?_
    dsimp only
    have key : (condO (ine (0 : Int) 0) (some (.inl ((0 : Int), (1 : Int)))) (condO (igt (llen all) 0) (guardO ((inR (WK .i64 ((llen all) - 1)) (llen all))) (condO (ile w (at_ T5 all (WK .i64 ((llen all) - 1))).1) (some (.inl (0, 13))) (some (.inr (()))))) (some (.inr (())))) : Option ((Int × Int) ⊕ (Unit))) = some (.inr ()) := by
      rw [ine_f (rfl : (0 : Int) = 0), condO_false]
      by_cases hne : all = []
      · subst hne; rfl
      · have hl : 0 < all.length := List.length_pos_iff.2 hne
        rw [igt_t (show 0 < llen all by unfold llen; omega), condO_true, last_ix hne (by omega), guardO_pos ⟨by omega, by unfold llen; omega⟩]
        have e : (at_ T5 all ((all.length - 1 : Nat) : Int)).1 = lastW all := last_at hne
        rw [e, ile_f hw, condO_false]
    refine bind_of key ?_
    rw [caseS_inr]
    refine bind_of (fz_yes h r) (bind_of (leaf_sha h r) ?_)
    have t1 : ltake (llen all) all = all := by unfold ltake llen; rw [Int.toNat_natCast, List.take_length]
    have t2 : ltake (llen lv) lv = lv := by unfold ltake llen; rw [Int.toNat_natCast, List.take_length]
    rw [t1, t2]
    refine (guardO_pos ⟨by omega, by unfold llen; omega, by omega, rfl⟩).trans ?_
    refine (guardO_pos (show appOk _ _ _ from by unfold appOk; simp; omega)).trans ?_
    refine (guardO_pos ⟨by omega, by unfold llen; omega, by omega, rfl⟩).trans ?_
    refine (guardO_pos (show appOk _ _ _ from by unfold appOk; simp; omega)).trans ?_
    rw [I.n_eq]
    refine bind_of h1 ?_
    dsimp only
    rw [wk_i64 (x := ((all.length + 1 : Nat) : Int) - 1) (by omega) (by omega)]
    congr 2
    omega
  · rcases List.mem_append.1 hg with hg | hg
    · exact I.may g hg
    · rw [List.mem_singleton] at hg; subst hg; exact h
/-- What is found. -/
theorem find_ok (all : List Fz) (w : Int) (lv : List Vh) (n : Int) (pk : List Vh) (hb : all.length ≤ 900) :
    (∃ (i : Nat) (h : i < all.length), super_Super_Find 1000 (w, all, lv, n, pk) = some ((i : Int), true) ∧ (all[i]).1 = w ∧ ∀ j (hj : j < i), (all[j]'(by omega)).1 ≠ w) ∨
    (super_Super_Find 1000 (w, all, lv, n, pk) = some (0, false) ∧ ∀ g ∈ all, g.1 ≠ w) := by
  have key : ∃ r, slices_IndexFunc 1000 (all, w) = some r ∧ ((∃ (i : Nat) (h : i < all.length), r = (i : Int) ∧ (all[i]).1 = w ∧ ∀ j (hj : j < i), (all[j]'(by omega)).1 ≠ w) ∨ (r = -1 ∧ ∀ g ∈ all, g.1 ≠ w)) := by
    unfold slices_IndexFunc
    dsimp only
    refine loop_bindE (fun d h => ∃ i : Nat, h = (i : Int) ∧ i + d = all.length ∧ ∀ j (hj : j < all.length), j < i → (all[j]).1 ≠ w) (fun e : Int ⊕ Unit => match e with | .inl r => ∃ (i : Nat) (h : i < all.length), r = (i : Int) ∧ (all[i]).1 = w ∧ ∀ j (hj : j < i), (all[j]'(by omega)).1 ≠ w | .inr _ => ∀ g ∈ all, g.1 ≠ w) all.length (by omega) ⟨0, rfl, by omega, fun j _ h => by omega⟩ ?_ ?_
    · rintro d _ ⟨i, rfl, hi, hf⟩
      by_cases a : i < all.length
      · have e1 : at_ T5 all (i : Int) = all[i] := at_nat (t := TF) a
        rw [ilt_t (show (i : Int) < llen all by unfold llen; omega), condO_true, guardO_pos ⟨by omega, by unfold llen; omega⟩, e1]
        by_cases b : (all[i]).1 = w
        · rw [ieq_t b, condO_true]
          exact .out ⟨i, a, rfl, b, fun j hj => hf j (by omega) hj⟩
        · rw [ieq_f b, condO_false, wk_i64 (by omega) (by omega)]
          exact .on (d - 1) (by omega) ⟨i + 1, by omega, by omega, fun j hj hlt => by
            rcases Nat.lt_or_ge j i with h | h
            · exact hf j hj h
            · obtain rfl : j = i := by omega
              exact b⟩
      · rw [ilt_f (show llen all ≤ (i : Int) by unfold llen; omega), condO_false]
        refine .out ?_
        show ∀ g ∈ all, g.1 ≠ w
        intro g hg
        obtain ⟨j, hj, rfl⟩ := List.mem_iff_getElem.1 hg
        exact hf j hj (by omega)
    · rintro (r | u) h
      · exact ⟨r, rfl, .inl h⟩
      · exact ⟨-1, rfl, .inr ⟨rfl, h⟩⟩
  obtain ⟨r, h1, h2⟩ := key
  have e : super_Super_Find 1000 (w, all, lv, n, pk) = some (mxI r 0, ige r 0) := bind_of h1 rfl
  rcases h2 with ⟨i, h, rfl, h3, h4⟩ | ⟨rfl, h3⟩
  · refine .inl ⟨i, h, ?_, h3, h4⟩
    rw [e, ige_t (by omega)]
    unfold mxI
    rw [if_neg (by omega)]
  · exact .inr ⟨e, h3⟩
theorem at_yes (all : List Fz) (lv : List Vh) (n : Int) (pk : List Vh) {i : Nat} (h : i < all.length) : super_Super_At 1000 ((i : Int), all, lv, n, pk) = some ((all[i]).1, (all[i]).2.1, (all[i]).2.2, 0) := by
  unfold super_Super_At
  dsimp only
  have e1 : at_ T5 all (i : Int) = all[i] := at_nat (t := TF) h
  rw [ilt_f (by omega), condO_false, ige_f (show (i : Int) < llen all by unfold llen; omega), condO_false, guardO_pos ⟨by omega, by unfold llen; omega⟩, e1]
theorem at_no (all : List Fz) (lv : List Vh) (n : Int) (pk : List Vh) {i : Int} (h : i < 0 ∨ (all.length : Int) ≤ i) : super_Super_At 1000 (i, all, lv, n, pk) = some (0, 0, Vector.replicate 32 0, 19) := by
  unfold super_Super_At
  dsimp only
  by_cases h0 : i < 0
  · rw [ilt_t h0, condO_true]
  · rw [ilt_f (by omega), condO_false, ige_t (show llen all ≤ i by unfold llen; omega), condO_true]
theorem clone_fz (l : List Fz) (h : l.length ≤ 900) : slices_Clone_2 1000 l = some l := by
  have hb : l.length * 48 ≤ 140737488355328 := by omega
  exact guardO_pos hb
theorem awake_ok : law18_awake 1000 vgl_sha_keys = some true := by kernel_rfl
end Go.Proofs.YtindlajlkghneaaGreatDoor
/- A log that is grown out of roots; its root. No condition. -/
set_option linter.unusedVariables false
set_option linter.unusedSimpArgs false
namespace Go.Proofs.YtindlajlkghneaaGreatDoor
open Go
/-- The freezes of some roots. -/
def grownF (roots : List Vh) : List Fz := roots.zipIdx.map fun p => ((3 * (p.2 : Int)), (1 + (p.2 : Int)), p.1)
theorem grown_len (roots : List Vh) : (grownF roots).length = roots.length := by simp [grownF]
theorem grown_get (roots : List Vh) (i : Nat) (h : i < roots.length) : (grownF roots)[i]'(by rw [grown_len]; exact h) = ((3 * (i : Int)), (1 + (i : Int)), roots[i]) := by
  simp [grownF]
theorem grown_take (roots : List Vh) (i : Nat) (h : i < roots.length) : (grownF roots).take (i + 1) = (grownF roots).take i ++ [((3 * (i : Int)), (1 + (i : Int)), roots[i])] := by
  rw [List.take_add_one, List.getElem?_eq_getElem (by rw [grown_len]; exact h), grown_get roots i h]
  rfl
theorem grown_last (roots : List Vh) (i : Nat) (h : i ≤ roots.length) : lastW ((grownF roots).take i) < 3 * (i : Int) := by
  cases i with
  | zero => simp [lastW]
  | succ i =>
    rw [grown_take roots i (by omega), lastW_app]
    omega
def nodeStep (h p : Vh) : Option Vh := guardO ((catOk ⟨#[1]⟩ (strOfNums (Vector.toList p)))) (guardO ((catOk (⟨#[1]⟩ ++ (strOfNums (Vector.toList p))) (strOfNums (Vector.toList h)))) ((sha_Of 1000 (([((⟨#[1]⟩ ++ (strOfNums (Vector.toList p))) ++ (strOfNums (Vector.toList h)))] : List ByteArray), vgl_sha_keys)).bind fun r1 => some (r1)))
theorem nodeStep_ok (h p : Vh) : nodeStep h p = some (node p h) := by
  unfold nodeStep
  rw [guardO_pos (node_cat1 _), guardO_pos (node_cat2 _ _), node_sha, Option.bind_some]
theorem fold_node : ∀ (l : List Vh) (r : Vh), foldL l nodeStep r = some (l.foldl (fun r p => node p r) r)
  | [], r => by simp [foldL]
  | p :: l, r => by
    simp only [foldL]
    rw [nodeStep_ok, Option.bind_some, fold_node l, List.foldl_cons]
/-- The front's root. -/
theorem froot_ok {all : List Fz} {lv : List Vh} {n : Int} {pk : List Vh} (I : Inv all lv n pk) (h0 : all ≠ []) (hb : all.length ≤ 500) : front_Front_Root 1000 (n, vgl_sha_keys, pk) = some (rt 40 lv) := by
  have hl : 0 < all.length := List.length_pos_iff.2 h0
  have hlv : lv.length = all.length := by rw [I.lv_eq, List.length_map]
  have hps := stk_ps I.stk
  rw [List.length_reverse] at hps
  obtain ⟨p, ps, hpk⟩ : ∃ p ps, pk.reverse = p :: ps := by
    cases hq : pk.reverse with
    | nil =>
      have := I.stk
      rw [hq] at this
      have key : ∀ {j k : Nat} {ps l : List Vh}, Stk j k ps l → ps = [] → k = 0 := by
        intro j k ps l h
        induction h with
        | zero j => intro _; rfl
        | even _ ih => intro e; rw [ih e]
        | odd _ _ _ => intro e; cases e
      have := key this rfl
      omega
    | cons p ps => exact ⟨p, ps, rfl⟩
  have hst := I.stk
  rw [hpk] at hst
  have hroot := stk_root hst (by omega)
  have hpk2 : pk = ps.reverse ++ [p] := by
    have := congrArg List.reverse hpk
    simpa using this
  have hpl : pk.length = ps.length + 1 := by rw [hpk2]; simp
  unfold front_Front_Root
  dsimp only
  have e1 : WK .i64 (llen pk - 1) = ((ps.length : Nat) : Int) := by
    rw [wk_i64 (by unfold llen; omega) (by unfold llen; omega)]
    unfold llen; omega
  have e2 : at_ T0 pk ((ps.length : Nat) : Int) = p := by
    rw [at_nat (t := TV) (by omega)]
    simp [hpk2]
  have e3 : pk.take ps.length = ps.reverse := by rw [hpk2, List.take_left' (by simp)]
  rw [ieq_f (show n ≠ 0 by rw [I.n_eq]; omega), condO_false, e1, guardO_pos ⟨by omega, by unfold llen; omega⟩, guardO_pos ⟨by omega, by omega, by unfold llen; omega, rfl⟩, ltake_nat, e3, e2]
  have hf : foldL (backL ps.reverse) (fun h q => nodeStep h q.2) p = some (rt 40 lv) := by
    rw [foldL_back, fold_node, List.reverse_reverse, hroot]
  exact bind_of hf (Eq.refl (some (rt 40 lv)))
end Go.Proofs.YtindlajlkghneaaGreatDoor
/- The document's sums with a key. No condition. -/
set_option linter.unusedVariables false
set_option linter.unusedSimpArgs false
namespace Go.Proofs.YtindlajlkghneaaGreatDoor
open Go
def pdL (key : List UInt8) : List UInt8 := key ++ List.replicate (64 - key.length) 0
theorem pdL_len {key : List UInt8} (h : key.length ≤ 64) : (pdL key).length = 64 := by
  unfold pdL; rw [List.length_append, List.length_replicate]; omega
theorem blen_mkB' (l : List UInt8) : blen (mkB l) = (l.length : Int) := by
  show ((mkB l).size : Int) = _
  rw [mkB_size]
theorem rpad_ok (key : List UInt8) (h : key.length ≤ 64) : ref03_Pad 1000 (mkB key) = some (mkB (pdL key)) := by
  unfold ref03_Pad
  refine bind_of (a := mkB key) ((congrArg (condO · _ _) (igt_f (show blen (mkB key) ≤ 64 by rw [blen_mkB']; omega))).trans (condO_false _ _)) ?_
  refine bind_of (loopK_run (fun i : Nat => mkB (key ++ List.replicate i 0)) (64 - key.length) (mkB (pdL key)) 1000 (fun i hi => ?_) ?_ (by omega) |> fun h => (by simpa using h)) rfl
  · have hl : (key ++ List.replicate i (0 : UInt8)).length = key.length + i := by simp
    have e : mkB (key ++ List.replicate i 0) ++ ⟨#[0]⟩ = mkB (key ++ List.replicate (i + 1) 0) := by
      rw [show (⟨#[0]⟩ : ByteArray) = mkB [0] from rfl, mkB_app, List.append_assoc, List.replicate_succ']
    rw [ilt_t (show blen (mkB (key ++ List.replicate i 0)) < 64 by rw [blen_mkB', hl]; omega), condO_true, guardO_pos (cat_mkB (b := [0]) (by simp; omega)), e]
  · rw [ilt_f (show 64 ≤ blen (mkB (key ++ List.replicate (64 - key.length) 0)) by rw [blen_mkB']; simp; omega), condO_false]
    rfl
def xb (c : Int) (b : UInt8) : Int := xorK .u8 (b.toNat : Int) c
def xorL (l : List UInt8) (c : Int) : List UInt8 := l.map fun b => UInt8.ofNat (xb c b).toNat
theorem xorL_len (l : List UInt8) (c : Int) : (xorL l c).length = l.length := by simp [xorL]
theorem rxor_ok (l : List UInt8) (c : Int) (h : l.length ≤ 900) : ref03_xor 1000 (mkB l, c) = some (mkB (xorL l c)) := by
  unfold ref03_xor
  dsimp only
  rw [blen_mkB', guardO_pos (show mkOk (l.length : Int) (l.length : Int) 1 from ⟨by omega, rfl, by rw [Int.toNat_natCast]; omega, by omega⟩)]
  refine bind_of (loopK_run (fun i : Nat => ((i : Int), (l.take i).map (xb c) ++ List.replicate (l.length - i) 0)) l.length (l.map (xb c)) 1000 (fun i hi => ?_) ?_ (by omega) |> fun h => (by simpa [lrep] using h)) ?_
  · dsimp only
    have e1 : sAt (mkB l) (i : Int) = (l[i].toNat : Int) := by
      rw [sAt_mkB, Int.toNat_natCast, List.getD_eq_getElem?_getD, List.getElem?_eq_getElem hi]; rfl
    have hln : ((l.take i).map (xb c) ++ List.replicate (l.length - i) 0).length = l.length := by simp; omega
    rw [ilt_t (by omega), condO_true, guardO_pos ⟨by omega, by omega⟩, guardO_pos ⟨by omega, by unfold llen; omega⟩, e1, wk_i64 (by omega) (by omega)]
    have e2 : lset ((l.take i).map (xb c) ++ List.replicate (l.length - i) 0) (i : Int) (xorK .u8 (l[i].toNat : Int) c) = (l.take (i + 1)).map (xb c) ++ List.replicate (l.length - (i + 1)) 0 := by
      unfold lset
      rw [Int.toNat_natCast, List.set_append_right _ _ (by simp; omega)]
      have e3 : i - ((l.take i).map (xb c)).length = 0 := by simp; omega
      rw [e3, show l.length - i = (l.length - (i + 1)) + 1 by omega, List.replicate_succ, List.set_cons_zero, List.take_add_one, List.getElem?_eq_getElem hi, List.map_append]
      simp [xb]
    rw [e2]
    rfl
  · dsimp only
    rw [ilt_f (by omega), condO_false]
    simp
  · show some (strOfNums (l.map (xb c))) = _
    rw [nums_mkB, List.map_map]
    rfl
def macL (key t : List UInt8) : Vh := hsh (xorL (pdL key) 92 ++ vb (hsh (xorL (pdL key) 54 ++ t)))
theorem rmac_ok (key t : List UInt8) (hk : key.length ≤ 64) (ht : t.length ≤ 40000) : ref03_Of 1000 (mkB key, mkB t) = some (macL key t) := by
  have hp := pdL_len hk
  have hx := fun c => xorL_len (pdL key) c
  unfold ref03_Of
  dsimp only
  refine bind_of (rpad_ok key hk) (bind_of (rxor_ok _ _ (by omega)) ?_)
  refine (guardO_pos (cat_mkB (by rw [hx, hp]; omega))).trans ?_
  rw [mkB_app]
  refine bind_of (ref_of _ (by rw [List.length_append, hx, hp]; omega)) (bind_of (rxor_ok _ _ (by omega)) ?_)
  rw [vb_str]
  refine (guardO_pos (cat_mkB (by rw [hx, hp, vb_len]; omega))).trans ?_
  rw [mkB_app]
  exact bind_of (ref_of _ (by rw [List.length_append, hx, hp, vb_len]; omega)) rfl
end Go.Proofs.YtindlajlkghneaaGreatDoor
/- The program's sums with a key are the document's; heads. No condition. -/
set_option linter.unusedVariables false
set_option linter.unusedSimpArgs false
namespace Go.Proofs.YtindlajlkghneaaGreatDoor
open Go
theorem mkB_data (p : ByteArray) : mkB p.data.toList = p := by
  apply bytes_ext
  rfl
theorem data_len (p : ByteArray) : p.data.toList.length = p.size := by simp
theorem mpad_ok (key : List UInt8) (h : key.length ≤ 64) : mac_Pad 1000 (mkB key, vgl_sha_keys) = some (mkB (pdL key)) := by
  unfold mac_Pad
  dsimp only
  refine bind_of (a := mkB key) ((congrArg (condO · _ _) (igt_f (show blen (mkB key) ≤ 64 by rw [blen_mkB']; omega))).trans (condO_false _ _)) ?_
  have e : WK .i64 (64 - blen (mkB key)) = ((64 - key.length : Nat) : Int) := by rw [blen_mkB', wk_i64 (by omega) (by omega)]; omega
  rw [e]
  refine bind_of (rep_ok (n := 64 - key.length) (by omega)) ?_
  refine (guardO_pos (cat_mkB (by simp; omega))).trans ?_
  rw [mkB_app]
  rfl
theorem bytes_nums (l : List UInt8) : bytesOfStr (mkB l) = l.map fun b => (b.toNat : Int) := rfl
theorem begun_ok (c : Int) (l : List UInt8) (h : l.length = 64) : mac_begun_1_1 1000 (c, mkB l, vgl_sha_keys) = some (hState (xorL l c)) := by
  unfold mac_begun_1_1
  dsimp only
  refine (guardO_pos (show lenOk (mkB l) from by unfold lenOk; rw [mkB_size]; omega)).trans ?_
  rw [bytes_nums]
  have hll : llen (l.map fun b => (b.toNat : Int)) = 64 := by unfold llen; simp [h]
  rw [hll]
  refine bind_of (loopK_run (fun i : Nat => ((i : Int), (l.take i).map (xb c) ++ (l.drop i).map fun b => (b.toNat : Int))) 64 (l.map (xb c)) 1000 (fun i hi => ?_) ?_ (by omega) |> fun h => (by simpa using h)) ?_
  · have hil : i < l.length := by omega
    have hlen : ((l.take i).map (xb c) ++ (l.drop i).map fun b => (b.toNat : Int)).length = 64 := by simp; omega
    have hin : inR (i : Int) (llen ((l.take i).map (xb c) ++ (l.drop i).map fun b => (b.toNat : Int))) := ⟨by omega, by unfold llen; rw [hlen]; omega⟩
    have e1 : at_ (.int .u8) ((l.take i).map (xb c) ++ (l.drop i).map fun b => (b.toNat : Int)) (i : Int) = (l[i].toNat : Int) := by
      rw [at_nat (t := .int .u8) (by rw [hlen]; omega), List.getElem_append_right (by simp; omega)]
      simp [Nat.min_eq_left (Nat.le_of_lt hil)]
    dsimp only
    rw [ilt_t (by omega), condO_true, guardO_pos hin, guardO_pos hin, e1, wk_i64 (by omega) (by omega)]
    have e2 : lset ((l.take i).map (xb c) ++ (l.drop i).map fun b => (b.toNat : Int)) (i : Int) (xorK .u8 (l[i].toNat : Int) c) = (l.take (i + 1)).map (xb c) ++ (l.drop (i + 1)).map fun b => (b.toNat : Int) := by
      unfold lset
      rw [Int.toNat_natCast, List.set_append_right _ _ (by simp; omega)]
      have e3 : i - ((l.take i).map (xb c)).length = 0 := by simp; omega
      rw [e3, List.drop_eq_getElem_cons hil, List.map_cons, List.set_cons_zero, List.take_add_one, List.getElem?_eq_getElem hil, List.map_append]
      simp [xb]
    rw [e2]
    rfl
  · dsimp only
    rw [ilt_f (by omega), condO_false, List.take_of_length_le (by omega), List.drop_eq_nil_of_le (by omega), List.map_nil, List.append_nil]
  · have e4 : strOfNums (l.map (xb c)) = mkB (xorL l c) := by rw [nums_mkB, List.map_map]; rfl
    rw [e4]
    exact bind_of (write_first (xorL l c) (by rw [xorL_len]; omega) _) rfl
theorem msum_ok (t A B : List UInt8) (ht : t.length ≤ 40000) (hA : A.length = 64) (hB : B.length = 64) :
    mac_Maker_Sum 1000 (([mkB t] : List ByteArray), vgl_sha_keys, (hState A).1, (hState A).2.1, (hState A).2.2.1, (hState A).2.2.2, (hState B).1, (hState B).2.1, (hState B).2.2.1, (hState B).2.2.2) = some (hsh (B ++ vb (hsh (A ++ t)))) := by
  unfold mac_Maker_Sum
  dsimp only
  refine bind_of (a := hState (A ++ t)) ?_ ?_
  · refine loopK_run (fun i : Nat => ((i : Int), if i = 0 then hState A else hState (A ++ t))) 1 _ 1000 (fun i hi => ?_) ?_ (by omega)
    · obtain rfl : i = 0 := by omega
      rw [if_pos rfl, if_neg (by decide)]
      dsimp only
      rw [ilt_t (show ((0 : Nat) : Int) < llen [mkB t] by unfold llen; simp), condO_true, guardO_pos ⟨by omega, by unfold llen; simp⟩]
      have e1 : at_ .str ([mkB t] : List ByteArray) ((0 : Nat) : Int) = mkB t := rfl
      rw [e1, write_next A t (by omega), Option.bind_some]
      rfl
    · rw [if_neg (by decide)]
      dsimp only
      rw [ilt_f (show llen [mkB t] ≤ ((1 : Nat) : Int) by unfold llen; simp), condO_false]
  · have hs1 := sum_ok (hState (A ++ t)) (A ++ t) (by simp; omega) (.inl rfl)
    refine bind_of hs1 ?_
    rw [vb_str]
    refine bind_of (write_next B (vb (hsh (A ++ t))) (by rw [vb_len]; omega)) ?_
    exact bind_of (sum_ok (hState (B ++ vb (hsh (A ++ t)))) _ (by rw [List.length_append, vb_len]; omega) (.inl rfl)) rfl
/-- What a head says. -/
def headL (n : Nat) (r : Vh) (t : Int) : List UInt8 := ([72] ++ putL n) ++ (putL 32 ++ vb r) ++ putL t.toNat
theorem head_same (key : List UInt8) (hk : key.length ≤ 64) (n : Nat) (hn : n ≤ 4000) (r : Vh) (t : Int) :
    ∃ m, seal_Head 1000 (mkB key, (n : Int), r, t, vgl_sha_keys) = some ((n : Int), r, t, m) ∧ ref16_Head 1000 (mkB key, (n : Int), r, t) = some ((n : Int), r, t, m) := by
  unfold seal_Head ref16_Head
  dsimp only
  by_cases hc : 0 ≤ t ∧ t ≤ 1125899906842624
  · have a := put_small (x := n) (by omega)
    have b := put_small (x := t.toNat) (by omega)
    have d := put_small (x := 32) (by decide)
    have hl : (headL n r t).length ≤ 100 := by
      unfold headL
      simp only [List.length_append, vb_len, List.length_singleton]
      omega
    refine ⟨macL key (headL n r t), ?_, ?_⟩
    · have hsay : seal_headSays 1000 ((n : Int), r, t, Vector.replicate 32 0) = some (mkB (headL n r t), 0) := by
        unfold seal_headSays
        dsimp only
        rw [ige_t (show (0 : Int) ≤ (n : Int) by omega), condO_true, ile_t (show (n : Int) ≤ 1099511627776 by omega), Bool.not_true, condO_false, ige_t hc.1, condO_true, ile_t hc.2, Bool.not_true, condO_false]
        refine bind_of (put_of (x := (n : Int)) (by omega) (by omega)) ?_
        rw [vb_blen]
        refine bind_of (put_of (x := 32) (by decide) (by decide)) ?_
        refine (guardO_pos (cat_mkB (a := putL 32) (b := vb r) (by rw [vb_len]; omega))).trans ?_
        refine bind_of (put_of hc.1 hc.2) ?_
        rw [vb_str, show mkB (putL (32 : Int).toNat) ++ mkB (vb r) = mkB (putL 32 ++ vb r) from mkB_app _ _]
        refine bind_of (a := mkB (headL n r t)) ?_ rfl
        show L_strings_Join 1000 _ = _
        unfold L_strings_Join
        have hj : Lib.join (([⟨#[72]⟩, mkB (putL (n : Int).toNat), mkB (putL 32 ++ vb r), mkB (putL t.toNat)] : List ByteArray).map (·.data.toList)) (str0 : ByteArray).data.toList = headL n r t := by
          simp [Lib.join, headL, mkB]
        have hb : (Lib.join (([⟨#[72]⟩, mkB (putL (n : Int).toNat), mkB (putL 32 ++ vb r), mkB (putL t.toNat)] : List ByteArray).map (·.data.toList)) (str0 : ByteArray).data.toList).length ≤ 140737488355328 := by
          rw [hj]; omega
        refine (guardO_pos ⟨by simp, by simp, hb⟩).trans ?_
        exact congrArg (fun l => some (mkB l)) hj
      refine bind_of hsay ?_
      dsimp only
      rw [ine_f rfl, condO_false]
      have hp := pdL_len hk
      refine bind_of (mpad_ok key hk) (bind_of (begun_ok 54 _ hp) (bind_of (begun_ok 92 _ hp) ?_))
      exact bind_of (msum_ok (headL n r t) _ _ (by omega) (by rw [xorL_len, hp]) (by rw [xorL_len, hp])) rfl
    · have hsay : ref16_headSays 1000 ((n : Int), r, t, Vector.replicate 32 0) = some (mkB (headL n r t), true) := by
        unfold ref16_headSays
        dsimp only
        rw [ilt_f (show (0 : Int) ≤ (n : Int) by omega), condO_false, igt_f (show (n : Int) ≤ 1099511627776 by omega), condO_false, ilt_f hc.1, condO_false, igt_f hc.2, condO_false]
        refine bind_of (rput_of (x := (n : Int)) (by omega) (by omega)) ?_
        refine (guardO_pos (cat_mkB (a := [72]) (b := putL (n : Int).toNat) (by simp; omega))).trans ?_
        rw [show (⟨#[72]⟩ : ByteArray) ++ mkB (putL (n : Int).toNat) = mkB ([72] ++ putL n) from mkB_app [72] _, vb_blen]
        refine bind_of (rput_of (x := 32) (by decide) (by decide)) ?_
        refine (guardO_pos (cat_mkB (a := putL 32) (b := vb r) (by rw [vb_len]; omega))).trans ?_
        rw [vb_str, show mkB (putL (32 : Int).toNat) ++ mkB (vb r) = mkB (putL 32 ++ vb r) from mkB_app _ _]
        refine (guardO_pos (cat_mkB (by simp [vb_len]; omega))).trans ?_
        rw [mkB_app]
        refine bind_of (rput_of hc.1 hc.2) ?_
        refine (guardO_pos (cat_mkB (by simp [vb_len]; omega))).trans ?_
        rw [mkB_app]
        rfl
      refine bind_of hsay ?_
      dsimp only
      refine bind_of (a := ((n : Int), r, t, macL key (headL n r t))) ?_ rfl
      exact (condO_true _ _).trans (bind_of (rmac_ok key _ hk (by omega)) rfl)
  · refine ⟨Vector.replicate 32 0, ?_, ?_⟩
    · have hsay : seal_headSays 1000 ((n : Int), r, t, Vector.replicate 32 0) = some (str0, 1) := by
        unfold seal_headSays
        dsimp only
        rw [ige_t (show (0 : Int) ≤ (n : Int) by omega), condO_true, ile_t (show (n : Int) ≤ 1099511627776 by omega), Bool.not_true, condO_false]
        by_cases h0 : t < 0
        · rw [ige_f h0, condO_false]
        · rw [ige_t (show 0 ≤ t by omega), condO_true, ile_f (show 1125899906842624 < t by omega), Bool.not_false, condO_true]
      refine bind_of hsay ?_
      dsimp only
      rw [ine_t (show (1 : Int) ≠ 0 by decide), condO_true]
      rfl
    · have hsay : ref16_headSays 1000 ((n : Int), r, t, Vector.replicate 32 0) = some (str0, false) := by
        unfold ref16_headSays
        dsimp only
        rw [ilt_f (show (0 : Int) ≤ (n : Int) by omega), condO_false, igt_f (show (n : Int) ≤ 1099511627776 by omega), condO_false]
        by_cases h0 : t < 0
        · rw [ilt_t h0, condO_true]
        · rw [ilt_f (show 0 ≤ t by omega), condO_false, igt_t (show 1125899906842624 < t by omega), condO_true]
      exact bind_of hsay rfl
end Go.Proofs.YtindlajlkghneaaGreatDoor
/- Paths in trees: what the program's and the document's functions of numbers compute. No condition. -/
set_option linter.unusedVariables false
set_option linter.unusedSimpArgs false
namespace Go.Proofs.YtindlajlkghneaaGreatDoor
open Go
theorem len_code (k : Nat) {n : Nat} (h0 : 2 ≤ n) (h : n ≤ 1099511627776) : bits_Len64 k (WK .u64 (WK .i64 ((n : Int) - 1))) = some ((Nat.log2 (n - 1) + 1 : Nat) : Int) := by
  rw [wk_i64 (by omega) (by omega), wk_u64 (by omega) (by omega)]
  show L_math_bits_Len64 k _ = _
  unfold L_math_bits_Len64
  rw [guardO_pos ⟨by omega, by omega⟩]
  have e : ((n : Int) - 1).toNat = n - 1 := by omega
  rw [e, bitLen_log2 (n - 1) (by omega) (by omega)]
theorem sp_code {n : Nat} (h0 : 2 ≤ n) (h : n ≤ 1099511627776) : WK .i64 (((Nat.log2 (n - 1) + 1 : Nat) : Int) - 1) = ((Nat.log2 (n - 1) : Nat) : Int) ∧ shlK .i64 1 ((Nat.log2 (n - 1) : Nat) : Int) = ((sp n : Nat) : Int) := by
  have := log2_le40 h0 h
  refine ⟨?_, shl_pow _ (by omega)⟩
  rw [wk_i64 (by omega) (by omega)]
  omega
/-- The steps down from all n to the place m; w: to the part that ends behind m. -/
def stp (w : Bool) : Nat → Nat → Nat → List (Bool × Nat × Nat)
  | 0, _, _ => []
  | d + 1, m, n => if n < 2 ∨ (w = true ∧ m = n) then [] else if m < sp n ∨ (w = true ∧ m = sp n) then (false, sp n, m) :: stp w d m (sp n) else (true, n - sp n, m - sp n) :: stp w d (m - sp n) (n - sp n)
theorem stp_len (w : Bool) : ∀ d m n, (stp w d m n).length ≤ d
  | 0, _, _ => by simp [stp]
  | d + 1, m, n => by
    have h1 := stp_len w d m (sp n)
    have h2 := stp_len w d (m - sp n) (n - sp n)
    simp only [stp]
    split
    · simp
    · split <;> simp <;> omega
abbrev cst3 (p : Bool × Nat × Nat) : Bool × Int × Int := (p.1, (p.2.1 : Int), (p.2.2 : Int))
/-- Is it a place that there is? -/
def plc (w : Bool) (m n : Nat) : Prop := if w = true then 1 ≤ m ∧ m ≤ n else m < n
theorem stp_nil {w : Bool} {m n : Nat} (h : n < 2 ∨ (w = true ∧ m = n)) (d : Nat) : stp w d m n = [] := by
  cases d with
  | zero => rfl
  | succ d => simp only [stp, if_pos h]
theorem plc_left {w : Bool} {m n : Nat} (hp : plc w m n) (b : m < sp n ∨ (w = true ∧ m = sp n)) : plc w m (sp n) := by
  unfold plc at *
  cases w
  · simp at b hp ⊢; exact b
  · simp at b hp ⊢; omega
theorem plc_right {w : Bool} {m n : Nat} (h2 : 2 ≤ n) (hp : plc w m n) (b : ¬ (m < sp n ∨ (w = true ∧ m = sp n))) : plc w (m - sp n) (n - sp n) := by
  have := sp_spec h2
  unfold plc at *
  cases w
  · simp at b hp ⊢; omega
  · simp at b hp ⊢; omega
theorem down_ok {w : Bool} {m n : Nat} (hp : plc w m n) (hn : n ≤ 1099511627776) : path_down 1000 ((m : Int), (n : Int), w) = some ((stp w 40 m n).map cst3) := by
  obtain ⟨L, hL⟩ : ∃ L, L = (stp w 40 m n).map cst3 := ⟨_, rfl⟩
  rw [← hL]
  unfold path_down
  refine loop_bind (fun d h => ∃ (m n : Nat) (out : List (Bool × Int × Int)), h = ((m : Int), (n : Int), out) ∧ n ≤ 2 ^ d ∧ n ≤ 1099511627776 ∧ plc w m n ∧ out.length + d ≤ 40 ∧ out ++ (stp w d m n).map cst3 = L) (fun e => e.2.2 = L) 40 (by omega) ⟨m, n, [], rfl, hn, hn, hp, by simp, by simp [hL]⟩ ?_ (fun e he => by rw [he])
  clear hL hp hn
  rintro d _ ⟨m, n, out, rfl, h1, h2, h3, h4, h5⟩
  dsimp only
  by_cases a : n < 2 ∨ (w = true ∧ m = n)
  · have e1 : (condO (ilt (n : Int) 2) (some (.inl ())) (condO w (condO (ieq (m : Int) (n : Int)) (some (.inl ())) (some (.inr (())))) (some (.inr (())))) : Option ((Unit) ⊕ (Unit))) = some (.inl ()) := by
      by_cases a1 : n < 2
      · rw [ilt_t (by omega), condO_true]
      · obtain ⟨rfl, rfl⟩ := a.resolve_left a1
        rw [ilt_f (by omega), condO_false, condO_true, ieq_t rfl, condO_true]
    rw [e1]
    simp only [Option.bind_some, caseS_inl]
    refine .out ?_
    rw [stp_nil a] at h5
    simpa using h5
  · have a1 : 2 ≤ n := by omega
    have e1 : (condO (ilt (n : Int) 2) (some (.inl ())) (condO w (condO (ieq (m : Int) (n : Int)) (some (.inl ())) (some (.inr (())))) (some (.inr (())))) : Option ((Unit) ⊕ (Unit))) = some (.inr ()) := by
      rw [ilt_f (by omega), condO_false]
      cases w
      · rfl
      · rw [condO_true, ieq_f (by simp at a; omega), condO_false]
    rw [e1]
    obtain ⟨d, rfl⟩ := pow_le_two a1 h1
    obtain ⟨s1, s2, s3⟩ := sp_spec a1
    have s4 := sp_le a1 h1
    simp only [Option.bind_some, caseS_inr, ilt_f (show (2 : Int) ≤ (n : Int) by omega), condO_false, len_code 1000 a1 h2, (sp_code a1 h2).1, (sp_code a1 h2).2]
    rw [guardO_pos (show nn ((Nat.log2 (n - 1) : Nat) : Int) by unfold nn; omega)]
    simp only [stp, if_neg a] at h5
    have ap : ∀ x : Bool × Int × Int, appOk out [x] 24 := fun x => by unfold appOk; simp; omega
    have r1 : WK .i64 ((m : Int) - (sp n : Nat)) = (m : Int) - (sp n : Nat) := wk_i64 (by unfold plc at h3; cases w <;> simp at h3 <;> omega) (by unfold plc at h3; cases w <;> simp at h3 <;> omega)
    have r2 : WK .i64 ((n : Int) - (sp n : Nat)) = ((n - sp n : Nat) : Int) := by rw [wk_i64 (by omega) (by omega)]; omega
    by_cases b : m < sp n ∨ (w = true ∧ m = sp n)
    · rw [if_pos b] at h5
      have key : Goes (fun d h => ∃ (m n : Nat) (out : List (Bool × Int × Int)), h = ((m : Int), (n : Int), out) ∧ n ≤ 2 ^ d ∧ n ≤ 1099511627776 ∧ plc w m n ∧ out.length + d ≤ 40 ∧ out ++ (stp w d m n).map cst3 = L) (fun e : Int × Int × List (Bool × Int × Int) => e.2.2 = L) (d + 1) (some (.inl ((m : Int), (sp n : Int), out ++ [(false, (sp n : Int), (m : Int))]))) :=
        .on d (by omega) ⟨m, sp n, _, rfl, s4, by omega, plc_left h3 b, by simp; omega, by simpa [cst3] using h5⟩
      by_cases b1 : m < sp n
      · rw [ilt_t (by omega), condO_true, guardO_pos (ap _)]
        exact key
      · obtain ⟨rfl, b2⟩ := b.resolve_left b1
        rw [ilt_f (by omega), condO_false, condO_true, ieq_t (by omega), condO_true, guardO_pos (ap _)]
        exact key
    · rw [if_neg b] at h5
      have hm : sp n ≤ m := by omega
      have r1' : WK .i64 ((m : Int) - (sp n : Nat)) = ((m - sp n : Nat) : Int) := by rw [r1]; omega
      have key : Goes (fun d h => ∃ (m n : Nat) (out : List (Bool × Int × Int)), h = ((m : Int), (n : Int), out) ∧ n ≤ 2 ^ d ∧ n ≤ 1099511627776 ∧ plc w m n ∧ out.length + d ≤ 40 ∧ out ++ (stp w d m n).map cst3 = L) (fun e : Int × Int × List (Bool × Int × Int) => e.2.2 = L) (d + 1) (some (.inl (((m - sp n : Nat) : Int), ((n - sp n : Nat) : Int), out ++ [(true, ((n - sp n : Nat) : Int), ((m - sp n : Nat) : Int))]))) :=
        .on d (by omega) ⟨m - sp n, n - sp n, _, rfl, by omega, by omega, plc_right a1 h3 b, by simp; omega, by simpa [cst3] using h5⟩
      rw [ilt_f (by omega), condO_false, r1', r2]
      cases w
      · rw [condO_false, guardO_pos (ap _)]
        exact key
      · rw [condO_true, ieq_f (by simp at b; omega), condO_false, guardO_pos (ap _)]
        exact key
end Go.Proofs.YtindlajlkghneaaGreatDoor
/- Paths in trees: lengths and sides. No condition. -/
set_option linter.unusedVariables false
set_option linter.unusedSimpArgs false
namespace Go.Proofs.YtindlajlkghneaaGreatDoor
open Go
/-- Did a step go behind what was known? -/
theorem index_ok (l : List (Bool × Int × Int)) (hl : l.length ≤ 900) : ∃ r, slices_IndexFunc_2 1000 l = some r ∧ ige r 0 = l.any (·.1) := by
  unfold slices_IndexFunc_2
  refine loop_bindE (fun d h => ∃ i : Nat, h = (i : Int) ∧ i + d = l.length ∧ ∀ j (hj : j < l.length), j < i → (l[j]).1 = false) (fun e => match e with | .inl i => 0 ≤ i ∧ l.any (·.1) = true | .inr _ => l.any (·.1) = false) l.length (by omega) ⟨0, rfl, by omega, fun j _ h => by omega⟩ ?_ ?_
  · rintro d _ ⟨i, rfl, hi, hf⟩
    by_cases a : i < l.length
    · have e1 : at_ (.pair .bool (.pair (.int .i64) (.int .i64))) l (i : Int) = l[i] := at_nat (t := .pair .bool (.pair (.int .i64) (.int .i64))) a
      rw [ilt_t (show (i : Int) < llen l by unfold llen; omega), condO_true, guardO_pos ⟨by omega, by unfold llen; omega⟩]
      by_cases b : (l[i]).1 = true
      · have e2 : (at_ T6 l (i : Int)).1 = true := (congrArg (·.1) e1).trans b
        rw [e2, condO_true]
        exact .out ⟨by omega, List.any_eq_true.2 ⟨l[i], List.getElem_mem a, b⟩⟩
      · have b' : (l[i]).1 = false := by simpa using b
        have e2 : (at_ T6 l (i : Int)).1 = false := (congrArg (·.1) e1).trans b'
        rw [e2, condO_false, wk_i64 (by omega) (by omega)]
        exact .on (d - 1) (by omega) ⟨i + 1, by omega, by omega, fun j hj hlt => by
          rcases Nat.lt_or_ge j i with h | h
          · exact hf j hj h
          · obtain rfl : j = i := by omega
            exact b'⟩
    · rw [ilt_f (show llen l ≤ (i : Int) by unfold llen; omega), condO_false]
      refine .out ?_
      show l.any (·.1) = false
      rw [List.any_eq_false]
      intro x hx
      obtain ⟨j, hj, rfl⟩ := List.mem_iff_getElem.1 hx
      have := hf j hj (by omega)
      rw [this]
      decide
  · rintro (i | u) h
    · exact ⟨i, rfl, by rw [h.2]; exact ige_t h.1⟩
    · exact ⟨-1, rfl, by rw [show l.any (·.1) = false from h]; rfl⟩
theorem stp_left {w : Bool} {d m n : Nat} (a : ¬ (n < 2 ∨ (w = true ∧ m = n))) (b : m < sp n ∨ (w = true ∧ m = sp n)) : stp w (d + 1) m n = (false, sp n, m) :: stp w d m (sp n) := by
  rw [stp, if_neg a, if_pos b]
theorem stp_right {w : Bool} {d m n : Nat} (a : ¬ (n < 2 ∨ (w = true ∧ m = n))) (b : ¬ (m < sp n ∨ (w = true ∧ m = sp n))) : stp w (d + 1) m n = (true, n - sp n, m - sp n) :: stp w d (m - sp n) (n - sp n) := by
  rw [stp, if_neg a, if_neg b]
/-- How many links there are. -/
def lnk (m n : Nat) : Int := ((stp true 40 m n).length : Int) + if (stp true 40 m n).any (·.1) = true then 1 else 0
end Go.Proofs.YtindlajlkghneaaGreatDoor
/- Trees of hashes: the root, level by level, is the root by halves. No condition. -/
set_option linter.unusedVariables false
set_option linter.unusedSimpArgs false
namespace Go.Proofs.YtindlajlkghneaaGreatDoor
open Go
/-- The row above. -/
def ab : List Vh → List Vh
  | a :: b :: r => node a b :: ab r
  | [x] => [x]
  | [] => []
theorem ab_one (x : Vh) : ab [x] = [x] := by simp [ab]
theorem ab_nil : ab [] = [] := by simp [ab]
theorem ab_len : ∀ l : List Vh, (ab l).length = (l.length + 1) / 2
  | [] => by simp [ab]
  | [_] => by simp [ab]
  | a :: b :: r => by simp only [ab, List.length_cons, ab_len r]; omega
theorem ab_get : ∀ (l : List Vh) (i : Nat) (h : 2 * i + 1 < l.length), (ab l)[i]'(by rw [ab_len]; omega) = node l[2 * i] l[2 * i + 1]
  | [], i, h => by simp at h
  | [_], i, h => by simp at h
  | a :: b :: r, 0, h => rfl
  | a :: b :: r, i + 1, h => by
    have := ab_get r i (by simp at h; omega)
    simpa [ab, Nat.mul_add] using this
theorem ab_last : ∀ (l : List Vh) (h : l.length % 2 = 1), ab l = (ab l).take (l.length / 2) ++ [l[l.length - 1]'(by omega)]
  | [], h => by simp at h
  | [x], h => by simp [ab]
  | a :: b :: r, h => by
    have hr : r.length % 2 = 1 := by simp at h; omega
    have := ab_last r hr
    have e : (a :: b :: r).length / 2 = r.length / 2 + 1 := by simp; omega
    rw [e]
    simp only [ab, List.take_succ_cons, List.cons_append, List.cons.injEq, true_and]
    rw [this]
    congr 1
    · rw [List.take_append_of_le_length (by rw [List.length_take, ab_len]; omega), List.take_take, Nat.min_self]
    · have h1 : (a :: b :: r).length - 1 = (r.length - 1) + 1 + 1 := by simp; omega
      simp only [h1, List.getElem_cons_succ]
theorem ab_app : ∀ (l r : List Vh), l.length % 2 = 0 → ab (l ++ r) = ab l ++ ab r
  | [], r, _ => rfl
  | [_], r, h => by simp at h
  | a :: b :: l, r, h => by
    simp only [ab, List.cons_append]
    rw [ab_app l r (by simp at h; omega)]
/-- Level by level, or by halves. -/
theorem rt_ab : ∀ (d : Nat) (l : List Vh), 2 ≤ l.length → l.length ≤ 2 ^ (d + 1) → rt (d + 1) l = rt d (ab l) := by
  intro d
  induction d with
  | zero =>
    intro l h1 h2
    match l, h1, h2 with
    | [a, b], _, _ => rfl
    | a :: b :: c :: r, _, h2 => simp at h2 <;> omega
  | succ d ih =>
    intro l h1 h2
    by_cases h3 : l.length = 2
    · match l, h3 with
      | [a, b], _ =>
        have e2 : sp [a, b].length = 1 := rfl
        rw [rt_big (by simp), rt_small (l := ab [a, b]) (by simp [ab]), e2, rt_small (l := [a, b].take 1) (by simp), rt_small (l := [a, b].drop 1) (by simp)]
        rfl
    · obtain ⟨a1, a2, a3⟩ := sp_spec (n := l.length) h1
      have a4 := sp_le (n := l.length) (d := d + 1) h1 h2
      obtain ⟨j, hj⟩ : ∃ j, sp l.length = 2 ^ j := ⟨_, rfl⟩
      have hj0 : j ≠ 0 := by
        rintro rfl
        rw [Nat.pow_zero] at hj
        omega
      obtain ⟨j, rfl⟩ : ∃ i, j = i + 1 := ⟨j - 1, by omega⟩
      rw [Nat.pow_succ] at hj
      have hpd : 2 ^ (d + 1) = 2 * 2 ^ d := by rw [Nat.pow_succ, Nat.mul_comm]
      have hs : sp ((ab l).length) = 2 ^ j := by
        rw [ab_len]
        apply sp_unique
        · omega
        · rw [Nat.pow_succ]; omega
      have hl : (ab l).length = (l.length + 1) / 2 := ab_len l
      have e : ab l = ab (l.take (2 ^ j * 2)) ++ ab (l.drop (2 ^ j * 2)) := by
        rw [← ab_app _ _ (by rw [List.length_take]; omega), List.take_append_drop]
      have et : (ab l).take (2 ^ j) = ab (l.take (2 ^ j * 2)) := by
        rw [e, List.take_left']
        rw [ab_len, List.length_take]; omega
      have ed : (ab l).drop (2 ^ j) = ab (l.drop (2 ^ j * 2)) := by
        rw [e, List.drop_left']
        rw [ab_len, List.length_take]; omega
      rw [rt_big h1, rt_big (l := ab l) (d := d) (by omega), hs, hj, et, ed]
      congr 1
      · exact ih _ (by rw [List.length_take]; omega) (by rw [List.length_take]; omega)
      · by_cases h5 : (l.drop (2 ^ j * 2)).length = 1
        · obtain ⟨x, hx⟩ := List.length_eq_one_iff.1 h5
          rw [hx, rt_small (by simp), rt_small (by simp [ab])]
          rfl
        · rw [List.length_drop] at h5
          exact ih _ (by rw [List.length_drop]; omega) (by rw [List.length_drop]; omega)
theorem above_ok (l : List Vh) (hl : l.length ≤ 900) : leaf_above 1000 (l, vgl_sha_keys) = some (ab l) := by
  have h0 := ab_len l
  unfold leaf_above
  dsimp only
  refine (guardO_pos (by decide)).trans ?_
  have ed : WK .i64 (Int.tdiv (llen l) 2) = ((l.length / 2 : Nat) : Int) := by
    show WK .i64 ((l.length / 2 : Nat) : Int) = _
    exact wk_nat (by omega)
  rw [ed]
  refine bind_of (loopK_run (fun i : Nat => ((i : Int), (ab l).take i)) (l.length / 2) ((ab l).take (l.length / 2)) 1000 (fun i hi => ?_) ?_ (by omega)) ?_
  · dsimp only
    refine (congrArg (condO · _ _) (ilt_t (by omega))).trans ((condO_true _ _).trans ?_)
    have e1 : WK .i64 (2 * (i : Int)) = ((2 * i : Nat) : Int) := by rw [wk_i64 (by omega) (by omega)]; omega
    have e2 : WK .i64 (((2 * i : Nat) : Int) + 1) = ((2 * i + 1 : Nat) : Int) := by rw [wk_i64 (by omega) (by omega)]; omega
    have e3 : at_ T0 l ((2 * i : Nat) : Int) = l[2 * i] := at_nat (t := T0) (by omega)
    have e4 : at_ T0 l ((2 * i + 1 : Nat) : Int) = l[2 * i + 1] := at_nat (t := T0) (by omega)
    rw [e1, e2, e3, e4]
    refine (guardO_pos ⟨by omega, by unfold llen; omega⟩).trans ((guardO_pos ⟨by omega, by unfold llen; omega⟩).trans ?_)
    refine (guardO_pos (node_cat1 _)).trans ((guardO_pos (node_cat2 _ _)).trans (bind_of (node_sha _ _) ?_))
    refine (guardO_pos (show appOk _ _ _ from by unfold appOk; simp; omega)).trans ?_
    rw [wk_i64 (x := (i : Int) + 1) (by omega) (by omega), List.take_add_one, List.getElem?_eq_getElem (by omega), ab_get l i (by omega)]
    rfl
  · dsimp only
    exact (congrArg (condO · _ _) (ilt_f (by omega))).trans (condO_false _ _)
  · have key : (guardO ((nz 2)) (condO (ieq (Int.tmod (llen l) 2) 1) (guardO ((inR (WK .i64 ((llen l) - 1)) (llen l))) (guardO ((appOk ((ab l).take (l.length / 2)) ([(at_ T0 l (WK .i64 ((llen l) - 1)))] : List Vh) 32)) (some ((((ab l).take (l.length / 2)) ++ ([(at_ T0 l (WK .i64 ((llen l) - 1)))] : List Vh)))))) (some ((ab l).take (l.length / 2)))) : Option (List Vh)) = some (ab l) := by
      refine (guardO_pos (by decide)).trans ?_
      have em : Int.tmod (llen l) 2 = ((l.length % 2 : Nat) : Int) := rfl
      rw [em]
      by_cases h1 : l.length % 2 = 1
      · refine (congrArg (condO · _ _) (ieq_t (by omega))).trans ((condO_true _ _).trans ?_)
        have e1 : WK .i64 (llen l - 1) = ((l.length - 1 : Nat) : Int) := by rw [wk_i64 (by unfold llen; omega) (by unfold llen; omega)]; unfold llen; omega
        have e2 : at_ T0 l ((l.length - 1 : Nat) : Int) = l[l.length - 1] := at_nat (t := T0) (by omega)
        rw [e1, e2]
        refine (guardO_pos ⟨by omega, by unfold llen; omega⟩).trans ((guardO_pos (show appOk _ _ _ from by unfold appOk; simp; omega)).trans ?_)
        exact congrArg some (ab_last l h1).symm
      · refine (congrArg (condO · _ _) (ieq_f (by omega))).trans ((condO_false _ _).trans ?_)
        rw [List.take_of_length_le (by omega)]
    exact bind_of key rfl
theorem clone_ok (l : List Vh) (h : l.length ≤ 900) : slices_Clone 1000 l = some l := by
  have hb : l.length * 32 ≤ 140737488355328 := by omega
  exact guardO_pos hb
/-- The program's root. -/
theorem root_ok {d : Nat} (l : List Vh) (h : l.length ≤ 2 ^ d) (hd : d ≤ 9) : leaf_Root 1000 (l, vgl_sha_keys) = some (rt d l) := by
  have hb : l.length ≤ 512 := Nat.le_trans h (Nat.le_trans (Nat.pow_le_pow_right (by omega) hd) (by decide))
  unfold leaf_Root
  dsimp only
  by_cases h0 : l.length = 0
  · have : l = [] := List.eq_nil_of_length_eq_zero h0
    subst this
    refine (congrArg (condO · _ _) (ieq_t (by simp))).trans ((condO_true _ _).trans ?_)
    refine bind_of (sha_of [] (by simp) (by simp)) ?_
    rw [rt_small (by simp)]; rfl
  · refine (congrArg (condO · _ _) (ieq_f (by unfold llen; omega))).trans ((condO_false _ _).trans ?_)
    have hL : ∃ r, leaf_Levels 1000 (l, vgl_sha_keys) = some r ∧ ∃ o, r = o ++ [[rt d l]] ∧ o.length ≤ 30 := by
      unfold leaf_Levels
      dsimp only
      rw [clone_ok l (by omega), Option.bind_some]
      refine loop_bindE (fun e h => ∃ (row : List Vh) (o : List (List Vh)), h = (row, o ++ [row]) ∧ row.length ≤ 2 ^ e ∧ row ≠ [] ∧ rt e row = rt d l ∧ o.length + e ≤ d ∧ row.length ≤ 900) (fun e => ∃ o, e = o ++ [[rt d l]] ∧ o.length ≤ 30) d (by omega) ⟨l, [], rfl, h, by intro e; subst e; exact h0 rfl, rfl, by simp, by omega⟩ ?_ (fun e he => ⟨e, rfl, he⟩)
      rintro e _ ⟨row, o, rfl, r1, r2, r3, r4, r5⟩
      dsimp only
      by_cases a : row.length < 2
      · refine (congrArg (fun b => Goes _ _ _ (condO b _ _)) (ilt_t (a := llen row) (b := 2) (by unfold llen; omega))).mpr ?_
        rw [condO_true]
        refine .out ⟨o, ?_, by omega⟩
        have h1 : row.length = 1 := by
          have : row.length ≠ 0 := fun e => r2 (List.eq_nil_of_length_eq_zero e)
          omega
        obtain ⟨x, rfl⟩ := List.length_eq_one_iff.1 h1
        rw [rt_small (by simp)] at r3
        rw [← r3]; rfl
      · refine (congrArg (fun b => Goes _ _ _ (condO b _ _)) (ilt_f (a := llen row) (b := 2) (by unfold llen; omega))).mpr ?_
        obtain ⟨e, rfl⟩ := pow_le_two (n := row.length) (by omega) r1
        have hal := ab_len row
        rw [condO_false, above_ok row r5, Option.bind_some, guardO_pos (show appOk _ _ _ from by unfold appOk; simp; omega)]
        have hpd : 2 ^ (e + 1) = 2 * 2 ^ e := by rw [Nat.pow_succ, Nat.mul_comm]
        exact .on e (by omega) ⟨ab row, o ++ [row], by simp, by omega, by intro h; rw [h] at hal; simp at hal; omega, by rw [← rt_ab e row (by omega) r1]; exact r3, by simp; omega, by omega⟩
    obtain ⟨_, hL, o, rfl, ho⟩ := hL
    refine bind_of hL ?_
    have e1 : WK .i64 (llen (o ++ [[rt d l]]) - 1) = ((o.length : Nat) : Int) := by
      rw [show llen (o ++ [[rt d l]]) = (o.length : Int) + 1 by unfold llen; simp]
      rw [wk_i64 (by omega) (by omega)]; omega
    have e2 : at_ T7 (o ++ [[rt d l]]) ((o.length : Nat) : Int) = [rt d l] := by
      rw [at_nat (t := T7) (by simp)]; simp
    have e3 : llen (o ++ [[rt d l]]) = (o.length : Int) + 1 := by unfold llen; simp
    rw [e1, e2, e3]
    exact (guardO_pos ⟨by omega, by omega⟩).trans ((guardO_pos ⟨by decide, by show (0 : Int) < 1; decide⟩).trans rfl)
end Go.Proofs.YtindlajlkghneaaGreatDoor
/- Paths in trees: the program's is the document's. No condition. -/
set_option linter.unusedVariables false
set_option linter.unusedSimpArgs false
namespace Go.Proofs.YtindlajlkghneaaGreatDoor
open Go
theorem reverse_ok (l : List Vh) (hl : l.length ≤ 900) : slices_Reverse 1000 l = some l.reverse := by
  unfold slices_Reverse
  refine loop_bind (fun d h => ∃ (t : Nat) (L : List Vh), h = ((t : Int), (l.length : Int) - 1 - (t : Int), L) ∧ d = l.length - t ∧ t ≤ l.length ∧ L.length = l.length ∧ ∀ j, j < l.length → L[j]? = if j < t ∨ l.length - t ≤ j then l[l.length - 1 - j]? else l[j]?) (fun e => e = l.reverse) l.length (by omega)
    ⟨0, l, by rw [wk_i64 (by unfold llen; omega) (by unfold llen; omega)]; unfold llen; simp, by omega, by omega, rfl, fun j hj => by rw [if_neg (by omega)]⟩ ?_ (fun e he => by rw [he])
  rintro d _ ⟨t, L, rfl, hd, ht, hL, hj⟩
  dsimp only
  by_cases a : (t : Int) < (l.length : Int) - 1 - (t : Int)
  · have e0 : (l.length : Int) - 1 - (t : Int) = ((l.length - 1 - t : Nat) : Int) := by omega
    rw [ilt_t a, condO_true, e0]
    rw [guardO_pos ⟨by omega, by unfold llen; omega⟩, guardO_pos ⟨by omega, by unfold llen; omega⟩, guardO_pos ⟨by omega, by unfold llen; omega⟩, guardO_pos ⟨by omega, by unfold llen; rw [List.length_set]; omega⟩]
    have e1 : WK .i64 ((t : Int) + 1) = ((t + 1 : Nat) : Int) := by rw [wk_i64 (by omega) (by omega)]; omega
    have e2 : WK .i64 (((l.length - 1 - t : Nat) : Int) - 1) = (l.length : Int) - 1 - ((t + 1 : Nat) : Int) := by rw [wk_i64 (by omega) (by omega)]; omega
    have e3 : at_ T0 L ((l.length - 1 - t : Nat) : Int) = L[l.length - 1 - t] := at_nat (t := T0) (by omega)
    have e4 : at_ T0 L (t : Int) = L[t] := at_nat (t := T0) (by omega)
    rw [e1, e2, e3, e4]
    unfold lset
    rw [Int.toNat_natCast, Int.toNat_natCast]
    refine .on (l.length - (t + 1)) (by omega) ⟨t + 1, _, rfl, rfl, by omega, by simp [hL], fun j hjl => ?_⟩
    have g1 := hj t (by omega)
    have g2 := hj (l.length - 1 - t) (by omega)
    rw [if_neg (by omega), List.getElem?_eq_getElem (by omega)] at g1 g2
    rw [List.getElem?_set, List.getElem?_set]
    simp only [List.length_set]
    by_cases b1 : l.length - 1 - t = j
    · rw [if_pos b1, if_pos (by omega), if_pos (by omega), g1]
      congr 1; omega
    · rw [if_neg b1]
      by_cases b2 : t = j
      · rw [if_pos b2, if_pos (by omega), if_pos (by omega), g2]
        congr 1; omega
      · rw [if_neg b2, hj j hjl]
        by_cases b3 : j < t ∨ l.length - t ≤ j
        · rw [if_pos b3, if_pos (by omega)]
        · rw [if_neg b3, if_neg (by omega)]
  · rw [ilt_f (by omega), condO_false]
    refine .out ?_
    apply List.ext_getElem?
    intro j
    by_cases b : j < l.length
    · rw [hj j b, List.getElem?_reverse b]
      split
      · rfl
      · congr 1; omega
    · rw [List.getElem?_eq_none (by omega), List.getElem?_eq_none (by simp; omega)]
theorem root40 (l : List Vh) (h : l.length ≤ 512) : leaf_Root 1000 (l, vgl_sha_keys) = some (rt 40 l) := by
  rw [root_ok (d := 9) l (by simpa using h) (by omega), rt_deep 9 l (by simpa using h) 40 (by omega)]
/-- What stands beside the way down, the last one first. -/
def pth (w : Bool) : Nat → Nat → List Vh → List Vh
  | 0, _, _ => []
  | d + 1, m, l => if l.length < 2 ∨ (w = true ∧ m = l.length) then [] else
    if m < sp l.length ∨ (w = true ∧ m = sp l.length) then pth w d m (l.take (sp l.length)) ++ [rt 40 (l.drop (sp l.length))] else pth w d (m - sp l.length) (l.drop (sp l.length)) ++ [rt 40 (l.take (sp l.length))]
theorem pth_nil {w : Bool} {m : Nat} {l : List Vh} (h : l.length < 2 ∨ (w = true ∧ m = l.length)) (d : Nat) : pth w d m l = [] := by
  cases d with
  | zero => rfl
  | succ d => rw [pth, if_pos h]
theorem pth_left {w : Bool} {d m : Nat} {l : List Vh} (a : ¬ (l.length < 2 ∨ (w = true ∧ m = l.length))) (b : m < sp l.length ∨ (w = true ∧ m = sp l.length)) : pth w (d + 1) m l = pth w d m (l.take (sp l.length)) ++ [rt 40 (l.drop (sp l.length))] := by
  rw [pth, if_neg a, if_pos b]
theorem pth_right {w : Bool} {d m : Nat} {l : List Vh} (a : ¬ (l.length < 2 ∨ (w = true ∧ m = l.length))) (b : ¬ (m < sp l.length ∨ (w = true ∧ m = sp l.length))) : pth w (d + 1) m l = pth w d (m - sp l.length) (l.drop (sp l.length)) ++ [rt 40 (l.take (sp l.length))] := by
  rw [pth, if_neg a, if_neg b]
theorem pth_len (w : Bool) : ∀ d m (l : List Vh), (pth w d m l).length = (stp w d m l.length).length
  | 0, _, _ => rfl
  | d + 1, m, l => by
    by_cases a : l.length < 2 ∨ (w = true ∧ m = l.length)
    · rw [pth_nil a, stp_nil a]; rfl
    · by_cases b : m < sp l.length ∨ (w = true ∧ m = sp l.length)
      · rw [pth_left a b, stp_left a b, List.length_append, pth_len w d, len_take l (by omega)]; rfl
      · rw [pth_right a b, stp_right a b, List.length_append, pth_len w d, List.length_drop]; rfl
theorem beside_ok (w : Bool) (m : Nat) (l : List Vh) (hl : l.length ≤ 512) : path_beside 1000 (l, (stp w 40 m l.length).map cst3, vgl_sha_keys) = some (pth w 40 m l) := by
  obtain ⟨S, hS⟩ : ∃ S, S = (stp w 40 m l.length).map cst3 := ⟨_, rfl⟩
  have hSl : S.length ≤ 40 := by rw [hS, List.length_map]; exact stp_len ..
  have hP := pth_len w 40 m l
  have hP2 : (pth w 40 m l).length ≤ 40 := by rw [hP]; exact stp_len ..
  obtain ⟨R, hR⟩ : ∃ R, R = pth w 40 m l := ⟨_, rfl⟩
  rw [← hR] at hP2
  rw [← hS, ← hR]
  unfold path_beside
  dsimp only
  refine loop_bind (fun e h => ∃ (i d m' : Nat) (l' out : List Vh), h = ((i : Int), l', out) ∧ i + e = S.length ∧ S.drop i = (stp w d m' l'.length).map cst3 ∧ l'.length ≤ 512 ∧ out ++ (pth w d m' l').reverse = R.reverse) (fun e => e = R.reverse) S.length (by omega) ⟨0, 40, m, l, [], rfl, by omega, by simp [hS], hl, by simp [hR]⟩ ?_ ?_
  · clear hP hS hR
    rintro e _ ⟨i, d, m', l', out, rfl, hi, hd, hl', ho⟩
    dsimp only
    by_cases a : i < S.length
    · have hne : stp w d m' l'.length ≠ [] := by
        intro h
        rw [h, List.map_nil] at hd
        have := congrArg List.length hd
        rw [List.length_drop] at this
        simp at this; omega
      have h1 : ¬ (l'.length < 2 ∨ (w = true ∧ m' = l'.length)) := fun h => hne (stp_nil h d)
      obtain ⟨d, rfl⟩ : ∃ d', d = d' + 1 := by
        cases d with
        | zero => exact absurd rfl hne
        | succ d => exact ⟨d, rfl⟩
      have h2 : 2 ≤ l'.length := by omega
      obtain ⟨s1, s2, s3⟩ := sp_spec h2
      have hdr : S.drop i = S[i] :: S.drop (i + 1) := List.drop_eq_getElem_cons a
      have hat : at_ T6 S (i : Int) = S[i] := at_nat (t := T6) a
      have hlen : (pth w (d + 1) m' l').length + out.length ≤ 40 := by
        have := congrArg List.length ho
        simp at this; omega
      rw [ilt_t (show (i : Int) < llen S by unfold llen; omega), condO_true, guardO_pos ⟨by omega, by unfold llen; omega⟩, hat]
      have ei : WK .i64 ((i : Int) + 1) = ((i + 1 : Nat) : Int) := wk_i64 (by omega) (by omega)
      have ap : ∀ x : Vh, appOk out [x] 32 := fun x => by unfold appOk; simp; omega
      by_cases b : m' < sp l'.length ∨ (w = true ∧ m' = sp l'.length)
      · rw [stp_left h1 b, hdr, List.map_cons, List.cons.injEq] at hd
        obtain ⟨hd1, hd2⟩ := hd
        rw [pth_left h1 b] at ho
        rw [hd1]
        dsimp only
        rw [condO_false, ltake_nat, ldrop_nat]
        rw [guardO_pos ⟨by omega, by unfold llen; omega, by omega, by omega⟩, root40 _ (by rw [List.length_drop]; omega), Option.bind_some, guardO_pos (ap _), guardO_pos ⟨by omega, by omega, by unfold llen; omega, by omega⟩, ei]
        refine .on (e - 1) (by omega) ⟨i + 1, d, m', l'.take (sp l'.length), _, rfl, by omega, by rw [len_take l' h2]; exact hd2, by rw [List.length_take]; omega, ?_⟩
        simpa using ho
      · rw [stp_right h1 b, hdr, List.map_cons, List.cons.injEq] at hd
        obtain ⟨hd1, hd2⟩ := hd
        rw [pth_right h1 b] at ho
        rw [hd1]
        dsimp only
        have ek : WK .i64 (llen l' - ((l'.length - sp l'.length : Nat) : Int)) = ((sp l'.length : Nat) : Int) := by rw [wk_i64 (by unfold llen; omega) (by unfold llen; omega)]; unfold llen; omega
        rw [condO_true, ek, ltake_nat, ldrop_nat]
        rw [guardO_pos ⟨by omega, by omega, by unfold llen; omega, by omega⟩, root40 _ (by rw [List.length_take]; omega), Option.bind_some, guardO_pos (ap _), guardO_pos ⟨by omega, by unfold llen; omega, by omega, by omega⟩, ei]
        refine .on (e - 1) (by omega) ⟨i + 1, d, m' - sp l'.length, l'.drop (sp l'.length), _, rfl, by omega, by rw [List.length_drop]; exact hd2, by rw [List.length_drop]; omega, ?_⟩
        simpa using ho
    · rw [ilt_f (show llen S ≤ (i : Int) by unfold llen; omega), condO_false]
      refine .out ?_
      have hd0 : stp w d m' l'.length = [] := by
        rw [List.drop_eq_nil_of_le (by omega)] at hd
        simpa using hd.symm
      have hp0 : pth w d m' l' = [] := List.eq_nil_of_length_eq_zero (by rw [pth_len, hd0]; rfl)
      rw [hp0] at ho
      simpa using ho
  · intro e he
    rw [he]
    refine bind_of (reverse_ok _ (by simp; omega)) ?_
    simp
theorem path_ok {m : Nat} {l : List Vh} (hm : m < l.length) (hl : l.length ≤ 512) : path_Path 1000 ((m : Int), l, vgl_sha_keys) = some (true, pth false 40 m l) := by
  unfold path_Path
  dsimp only
  rw [ilt_f (by omega), condO_false, ige_f (show (m : Int) < llen l by unfold llen; omega), condO_false]
  refine bind_of (down_ok (w := false) (show plc false m l.length by simpa [plc] using hm) (by omega)) (bind_of (beside_ok false m l hl) rfl)
theorem ppath_bad {a : Int} {l : List Vh} (h : a < 0 ∨ (l.length : Int) ≤ a) : path_Path 1000 (a, l, vgl_sha_keys) = some (false, []) := by
  unfold path_Path
  dsimp only
  by_cases h0 : a < 0
  · rw [ilt_t h0, condO_true]
  · rw [ilt_f (by omega), condO_false, ige_t (show llen l ≤ a by unfold llen; omega), condO_true]
theorem path_bad {a : Int} {l : List Vh} (h : a < 0 ∨ (l.length : Int) ≤ a) : path_Path 1000 (a, l, vgl_sha_keys) = some (false, []) ∧ ref10_Path 1000 (a, l) = some (false, []) := by
  refine ⟨ppath_bad h, ?_⟩
  unfold ref10_Path
  dsimp only
  by_cases h0 : a < 0
  · rw [ilt_t h0, condO_true]
  · rw [ilt_f (by omega), condO_false, ige_t (show llen l ≤ a by unfold llen; omega), condO_true]
theorem rsplit {l : List Vh} (h : 2 ≤ l.length) (hl : l.length ≤ 512) : ref09_Split 1000 (llen l) = some ((sp l.length : Nat) : Int) := by
  have := split_ok (n := l.length) (by omega)
  rw [if_neg (by omega)] at this
  exact this
theorem rpath_rec : ∀ (d r m : Nat) (l : List Vh), l.length ≤ 2 ^ d → m < l.length → l.length ≤ 512 → d < r → r ≤ 1000 → recN ref10_path_B r 1000 ((m : Int), l) = some (pth false d m l)
  | d, 0, m, l, _, _, _, h, _ => by omega
  | d, r + 1, m, l, h, hm, hb, hr, hr2 => by
    show ref10_path_B (recN ref10_path_B r) 1000 ((m : Int), l) = _
    unfold ref10_path_B
    dsimp only
    by_cases h1 : l.length = 1
    · refine (congrArg (condO · _ _) (ieq_t (by unfold llen; omega))).trans ((condO_true _ _).trans ?_)
      rw [pth_nil (.inl (by omega))]
    · refine (congrArg (condO · _ _) (ieq_f (by unfold llen; omega))).trans ((condO_false _ _).trans ?_)
      have h2 : 2 ≤ l.length := by omega
      obtain ⟨d, rfl⟩ := pow_le_two h2 h
      obtain ⟨a1, a2, a3⟩ := sp_spec h2
      have a4 := sp_le h2 h
      have a : ¬ (l.length < 2 ∨ (false = true ∧ m = l.length)) := by simp; omega
      have hlen := pth_len false d
      refine bind_of (rsplit h2 hb) ?_
      rw [ltake_nat, ldrop_nat]
      by_cases b : m < sp l.length
      · refine (congrArg (condO · _ _) (ilt_t (by omega))).trans ((condO_true _ _).trans ?_)
        repeat refine (guardO_pos ⟨by first | omega | (unfold llen; omega), by first | omega | (unfold llen; omega), by first | omega | (unfold llen; omega), by first | omega | (unfold llen; omega)⟩).trans ?_
        refine bind_of (rpath_rec d r m (l.take (sp l.length)) (by rw [List.length_take]; omega) (by rw [List.length_take]; omega) (by rw [List.length_take]; omega) (by omega) (by omega)) ?_
        refine bind_of (rroot40 _ (by rw [List.length_drop]; omega)) ?_
        have hle := hlen m (l.take (sp l.length))
        have hle2 := stp_len false d m (l.take (sp l.length)).length
        rw [pth_left a (.inl b)]
        exact guardO_pos (show appOk _ _ _ from by unfold appOk; simp; omega)
      · refine (congrArg (condO · _ _) (ilt_f (by omega))).trans ((condO_false _ _).trans ?_)
        repeat refine (guardO_pos ⟨by first | omega | (unfold llen; omega), by first | omega | (unfold llen; omega), by first | omega | (unfold llen; omega), by first | omega | (unfold llen; omega)⟩).trans ?_
        have e1 : WK .i64 ((m : Int) - ((sp l.length : Nat) : Int)) = ((m - sp l.length : Nat) : Int) := by rw [wk_i64 (by omega) (by omega)]; omega
        rw [e1]
        refine bind_of (rpath_rec d r (m - sp l.length) (l.drop (sp l.length)) (by rw [List.length_drop]; omega) (by rw [List.length_drop]; omega) (by rw [List.length_drop]; omega) (by omega) (by omega)) ?_
        refine bind_of (rroot40 _ (by rw [List.length_take]; omega)) ?_
        have hle := hlen (m - sp l.length) (l.drop (sp l.length))
        have hle2 := stp_len false d (m - sp l.length) (l.drop (sp l.length)).length
        rw [pth_right a (by simp; omega)]
        exact guardO_pos (show appOk _ _ _ from by unfold appOk; simp; omega)
theorem rpath_ok {m : Nat} {l : List Vh} (hm : m < l.length) (hl : l.length ≤ 512) : ref10_Path 1000 ((m : Int), l) = some (true, pth false 40 m l) := by
  unfold ref10_Path
  dsimp only
  rw [ilt_f (by omega), condO_false, ige_f (show (m : Int) < llen l by unfold llen; omega), condO_false]
  exact bind_of (rpath_rec 40 1000 m l (by omega) hm hl (by omega) (by omega)) rfl
end Go.Proofs.YtindlajlkghneaaGreatDoor
/- Links between two sizes of a tree: the program's are the document's. No condition. -/
set_option linter.unusedVariables false
set_option linter.unusedSimpArgs false
namespace Go.Proofs.YtindlajlkghneaaGreatDoor
open Go
/-- The part that both sizes have whole. -/
def part : Nat → Nat → List Vh → List Vh
  | 0, _, l => l
  | d + 1, m, l => if l.length < 2 ∨ m = l.length then l else if m ≤ sp l.length then part d m (l.take (sp l.length)) else part d (m - sp l.length) (l.drop (sp l.length))
theorem part_nil {m : Nat} {l : List Vh} (h : l.length < 2 ∨ m = l.length) (d : Nat) : part d m l = l := by
  cases d with
  | zero => rfl
  | succ d => rw [part, if_pos h]
theorem part_left {d m : Nat} {l : List Vh} (a : ¬ (l.length < 2 ∨ m = l.length)) (b : m ≤ sp l.length) : part (d + 1) m l = part d m (l.take (sp l.length)) := by
  rw [part, if_neg a, if_pos b]
theorem part_right {d m : Nat} {l : List Vh} (a : ¬ (l.length < 2 ∨ m = l.length)) (b : ¬ m ≤ sp l.length) : part (d + 1) m l = part d (m - sp l.length) (l.drop (sp l.length)) := by
  rw [part, if_neg a, if_neg b]
theorem part_len : ∀ (d m : Nat) (l : List Vh), (part d m l).length ≤ l.length
  | 0, _, _ => Nat.le_refl _
  | d + 1, m, l => by
    rw [part]
    split
    · exact Nat.le_refl _
    · split
      · exact Nat.le_trans (part_len d _ _) (by rw [List.length_take]; omega)
      · exact Nat.le_trans (part_len d _ _) (by rw [List.length_drop]; omega)
theorem part_end {d m : Nat} {l : List Vh} (h : stp true d m l.length = []) : part d m l = l := by
  cases d with
  | zero => rfl
  | succ d =>
    by_cases a : l.length < 2 ∨ m = l.length
    · rw [part_nil a]
    · exfalso
      have a2 : ¬ (l.length < 2 ∨ (true = true ∧ m = l.length)) := by simpa using a
      by_cases b : m < sp l.length ∨ (true = true ∧ m = sp l.length)
      · rw [stp_left a2 b] at h; cases h
      · rw [stp_right a2 b] at h; cases h
/-- Links: the part, if not all of the first size is known by itself, then what stands beside. -/
def lks (m : Nat) (l : List Vh) : List Vh := (if (stp true 40 m l.length).any (·.1) = true then [rt 40 (part 40 m l)] else []) ++ pth true 40 m l
def lksW (d m : Nat) (w : Bool) (l : List Vh) : List Vh := (if w = true ∧ (stp true d m l.length).any (·.1) = false then [] else [rt 40 (part d m l)]) ++ pth true d m l
theorem lksW_true (m : Nat) (l : List Vh) : lksW 40 m true l = lks m l := by
  unfold lksW lks
  cases (stp true 40 m l.length).any (·.1) <;> simp
theorem lksW_len (d m : Nat) (w : Bool) (l : List Vh) : (lksW d m w l).length ≤ 1 + d := by
  unfold lksW
  have := pth_len true d m l
  have := stp_len true d m l.length
  rw [List.length_append]
  split <;> simp <;> omega
theorem insert_ok (x : Vh) (l : List Vh) (h1 : 1 ≤ l.length) (h : l.length ≤ 900) : slices_Insert 1000 (0, l, [x]) = some (x :: l) :=
  guardO_pos (p := (0 : Int) = 0 ∧ 1 ≤ l.length ∧ (l.length + 1) * 32 ≤ 140737488355328) ⟨rfl, h1, by omega⟩
theorem plinks_ok {m : Nat} {l : List Vh} (h0 : 1 ≤ m) (hm : m ≤ l.length) (hl : l.length ≤ 512) : path_Links 1000 ((m : Int), l, vgl_sha_keys) = some (true, lks m l) := by
  have hsl := stp_len true 40 m l.length
  obtain ⟨S, hS⟩ : ∃ S, S = (stp true 40 m l.length).map cst3 := ⟨_, rfl⟩
  have hSl : S.length ≤ 40 := by rw [hS, List.length_map]; exact hsl
  obtain ⟨r, hr, hr2⟩ := index_ok S (by omega)
  have ha : S.any (·.1) = (stp true 40 m l.length).any (·.1) := by rw [hS, List.any_map]; rfl
  rw [ha] at hr2
  unfold path_Links
  dsimp only
  rw [ilt_f (by omega), condO_false, igt_f (show (m : Int) ≤ llen l by unfold llen; omega), condO_false]
  refine bind_of (down_ok (w := true) (show plc true m l.length by simp [plc]; omega) (by omega)) ?_
  refine bind_of (beside_ok true m l hl) ?_
  rw [← hS]
  refine bind_of hr ?_
  rw [hr2]
  unfold lks
  have hpl := pth_len true 40 m l
  cases hb : (stp true 40 m l.length).any (·.1)
  · rw [Bool.not_false, condO_true]; simp
  · rw [Bool.not_true, condO_false, if_pos rfl]
    have hne : 1 ≤ (pth true 40 m l).length := by
      rw [hpl]
      rcases hx : stp true 40 m l.length with _ | ⟨y, ys⟩
      · rw [hx] at hb; cases hb
      · simp
    obtain ⟨R, hR⟩ : ∃ R, R = pth true 40 m l := ⟨_, rfl⟩
    rw [← hR] at hne hpl ⊢
    refine loop_bind (fun e h => ∃ (i d m' a n : Nat), h = ((a : Int), (n : Int), (i : Int)) ∧ i + e = S.length ∧ a + n ≤ l.length ∧ S.drop i = (stp true d m' n).map cst3 ∧ part d m' ((l.drop a).take n) = part 40 m l) (fun e => ∃ a n : Nat, e = ((a : Int), (n : Int)) ∧ a + n ≤ l.length ∧ (l.drop a).take n = part 40 m l) S.length (by omega) ⟨0, 40, m, 0, l.length, rfl, by omega, by omega, by simp [hS], by simp⟩ ?_ ?_
    · clear hR hpl hr hr2 ha hS
      rintro e _ ⟨i, d, m', a, n, rfl, hi, han, hd, hp⟩
      dsimp only
      have hln : ((l.drop a).take n).length = n := by rw [List.length_take, List.length_drop]; omega
      by_cases c : i < S.length
      · have hne : stp true d m' n ≠ [] := by
          intro h
          rw [h, List.map_nil] at hd
          have := congrArg List.length hd
          rw [List.length_drop] at this
          simp at this; omega
        have h1 : ¬ (n < 2 ∨ (true = true ∧ m' = n)) := fun h => hne (stp_nil h d)
        have h1' : ¬ (((l.drop a).take n).length < 2 ∨ m' = ((l.drop a).take n).length) := by rw [hln]; simpa using h1
        obtain ⟨d, rfl⟩ : ∃ d', d = d' + 1 := by
          cases d with
          | zero => exact absurd rfl hne
          | succ d => exact ⟨d, rfl⟩
        have h2 : 2 ≤ n := by omega
        obtain ⟨s1, s2, s3⟩ := sp_spec h2
        have hdr : S.drop i = S[i] :: S.drop (i + 1) := List.drop_eq_getElem_cons c
        have hat : at_ T6 S (i : Int) = S[i] := at_nat (t := T6) c
        have ei : WK .i64 ((i : Int) + 1) = ((i + 1 : Nat) : Int) := wk_i64 (by omega) (by omega)
        rw [ilt_t (show (i : Int) < llen S by unfold llen; omega), condO_true, guardO_pos ⟨by omega, by unfold llen; omega⟩, hat, ei]
        by_cases b : m' < sp n ∨ (true = true ∧ m' = sp n)
        · have b' : m' ≤ sp ((l.drop a).take n).length := by rw [hln]; simp at b; omega
          rw [stp_left h1 b, hdr, List.map_cons, List.cons.injEq] at hd
          obtain ⟨hd1, hd2⟩ := hd
          rw [part_left h1' b', hln, List.take_take, Nat.min_eq_left (by omega)] at hp
          rw [hd1]
          dsimp only
          rw [condO_false]
          exact .on (e - 1) (by omega) ⟨i + 1, d, m', a, sp n, rfl, by omega, by omega, hd2, hp⟩
        · have b' : ¬ m' ≤ sp ((l.drop a).take n).length := by rw [hln]; simp at b; omega
          rw [stp_right h1 b, hdr, List.map_cons, List.cons.injEq] at hd
          obtain ⟨hd1, hd2⟩ := hd
          rw [part_right h1' b', hln, List.drop_take, List.drop_drop] at hp
          rw [hd1]
          dsimp only
          rw [condO_true]
          have ek : WK .i64 ((a : Int) + WK .i64 ((n : Int) - ((n - sp n : Nat) : Int))) = ((a + sp n : Nat) : Int) := by
            rw [wk_i64 (x := (n : Int) - ((n - sp n : Nat) : Int)) (by omega) (by omega), wk_i64 (by omega) (by omega)]; omega
          rw [ek]
          exact .on (e - 1) (by omega) ⟨i + 1, d, m' - sp n, a + sp n, n - sp n, rfl, by omega, by omega, hd2, hp⟩
      · rw [ilt_f (show llen S ≤ (i : Int) by unfold llen; omega), condO_false]
        refine .out ⟨a, n, rfl, han, ?_⟩
        have hd0 : stp true d m' n = [] := by
          rw [List.drop_eq_nil_of_le (by omega)] at hd
          simpa using hd.symm
        rw [part_end (by rw [hln]; exact hd0)] at hp
        exact hp
    · rintro _ ⟨a, n, rfl, han, hp⟩
      dsimp only
      have e1 : WK .i64 ((a : Int) + (n : Int)) = ((a + n : Nat) : Int) := by rw [wk_i64 (by omega) (by omega)]; omega
      rw [e1, guardO_pos ⟨by omega, by omega, by unfold llen; omega, by omega⟩, ltake_nat, ldrop_nat]
      have e2 : (l.take (a + n)).drop a = (l.drop a).take n := by rw [List.drop_take]; congr 1; omega
      rw [e2, hp]
      have hpl2 := part_len 40 m l
      refine bind_of (root40 _ (by omega)) (bind_of (insert_ok _ _ hne (by omega)) rfl)
theorem rlinks_rec : ∀ (d r m : Nat) (w : Bool) (l : List Vh), l.length ≤ 2 ^ d → 1 ≤ m → m ≤ l.length → l.length ≤ 512 → d < r → r ≤ 1000 → recN ref10_links_B r 1000 ((m : Int), w, l) = some (lksW d m w l)
  | d, 0, m, w, l, _, _, _, _, h, _ => by omega
  | d, r + 1, m, w, l, h, h0, hm, hb, hr, hr2 => by
    show ref10_links_B (recN ref10_links_B r) 1000 ((m : Int), w, l) = _
    unfold ref10_links_B
    dsimp only
    by_cases h1 : m = l.length
    · refine (congrArg (condO · _ _) (ieq_t (by unfold llen; omega))).trans ((condO_true _ _).trans ?_)
      unfold lksW
      rw [stp_nil (.inr ⟨rfl, h1⟩), pth_nil (.inr ⟨rfl, h1⟩), part_nil (.inr h1)]
      cases w
      · rw [condO_false]
        exact bind_of (rroot40 _ hb) (by simp)
      · rw [condO_true]; simp
    · refine (congrArg (condO · _ _) (ieq_f (by unfold llen; omega))).trans ((condO_false _ _).trans ?_)
      have h2 : 2 ≤ l.length := by omega
      obtain ⟨d, rfl⟩ := pow_le_two h2 h
      obtain ⟨a1, a2, a3⟩ := sp_spec h2
      have a4 := sp_le h2 h
      have a : ¬ (l.length < 2 ∨ (true = true ∧ m = l.length)) := by simp; omega
      have a' : ¬ (l.length < 2 ∨ m = l.length) := by omega
      refine bind_of (rsplit h2 hb) ?_
      rw [ltake_nat, ldrop_nat]
      by_cases b : m ≤ sp l.length
      · have hlw := lksW_len d m w (l.take (sp l.length))
        refine (congrArg (condO · _ _) (ile_t (by omega))).trans ((condO_true _ _).trans ?_)
        repeat refine (guardO_pos ⟨by first | omega | (unfold llen; omega), by first | omega | (unfold llen; omega), by first | omega | (unfold llen; omega), by first | omega | (unfold llen; omega)⟩).trans ?_
        refine bind_of (rlinks_rec d r m w (l.take (sp l.length)) (by rw [List.length_take]; omega) h0 (by rw [List.length_take]; omega) (by rw [List.length_take]; omega) (by omega) (by omega)) ?_
        refine bind_of (rroot40 _ (by rw [List.length_drop]; omega)) ?_
        refine (guardO_pos (show appOk _ _ _ from by unfold appOk; simp; omega)).trans ?_
        have b2 : m < sp l.length ∨ (true = true ∧ m = sp l.length) := by simp; omega
        unfold lksW
        rw [pth_left a b2, part_left a' b, stp_left a b2, len_take l h2, List.any_cons, Bool.false_or, List.append_assoc]
      · have hlw := lksW_len d (m - sp l.length) false (l.drop (sp l.length))
        refine (congrArg (condO · _ _) (ile_f (by omega))).trans ((condO_false _ _).trans ?_)
        repeat refine (guardO_pos ⟨by first | omega | (unfold llen; omega), by first | omega | (unfold llen; omega), by first | omega | (unfold llen; omega), by first | omega | (unfold llen; omega)⟩).trans ?_
        have e1 : WK .i64 ((m : Int) - ((sp l.length : Nat) : Int)) = ((m - sp l.length : Nat) : Int) := by rw [wk_i64 (by omega) (by omega)]; omega
        rw [e1]
        refine bind_of (rlinks_rec d r (m - sp l.length) false (l.drop (sp l.length)) (by rw [List.length_drop]; omega) (by omega) (by rw [List.length_drop]; omega) (by rw [List.length_drop]; omega) (by omega) (by omega)) ?_
        refine bind_of (rroot40 _ (by rw [List.length_take]; omega)) ?_
        refine (guardO_pos (show appOk _ _ _ from by unfold appOk; simp; omega)).trans ?_
        have b2 : ¬ (m < sp l.length ∨ (true = true ∧ m = sp l.length)) := by simp; omega
        unfold lksW
        rw [pth_right a b2, part_right a' b, stp_right a b2]
        simp
theorem rlinksL_ok {m : Nat} {l : List Vh} (h0 : 1 ≤ m) (hm : m ≤ l.length) (hl : l.length ≤ 512) : ref10_Links 1000 ((m : Int), l) = some (true, lks m l) := by
  unfold ref10_Links
  dsimp only
  rw [ilt_f (by omega), condO_false, igt_f (show (m : Int) ≤ llen l by unfold llen; omega), condO_false]
  exact bind_of (rlinks_rec 40 1000 m true l (by omega) h0 hm hl (by omega) (by omega)) (by rw [lksW_true])
theorem plinks_bad {a : Int} {l : List Vh} (h : a < 1 ∨ (l.length : Int) < a) : path_Links 1000 (a, l, vgl_sha_keys) = some (false, []) ∧ ref10_Links 1000 (a, l) = some (false, []) := by
  constructor
  · unfold path_Links
    dsimp only
    by_cases h0 : a < 1
    · rw [ilt_t h0, condO_true]
    · rw [ilt_f (by omega), condO_false, igt_t (show llen l < a by unfold llen; omega), condO_true]
  · unfold ref10_Links
    dsimp only
    by_cases h0 : a < 1
    · rw [ilt_t h0, condO_true]
    · rw [ilt_f (by omega), condO_false, igt_t (show llen l < a by unfold llen; omega), condO_true]
theorem same_self (l : List Vh) (h : l.length ≤ 900) : ref09_Same 1000 (l, l) = some true := by
  unfold ref09_Same
  dsimp only
  rw [ine_f rfl, condO_false]
  refine bind_of (a := (Sum.inr () : Bool ⊕ Unit)) ?_ rfl
  refine loopK_run (fun i : Nat => (i : Int)) l.length _ 1000 (fun i hi => ?_) ?_ (by omega)
  · have hi' : (i : Int) < llen l := by unfold llen; omega
    have e3 : at_ T0 l (i : Int) = l[i] := at_nat (t := T0) hi
    rw [e3, sameI_self, ilt_t hi', condO_true, guardO_pos ⟨by omega, hi'⟩, guardO_pos ⟨by omega, hi'⟩, wk_i64 (by omega) (by omega)]
    rfl
  · rw [ilt_f (show llen l ≤ (l.length : Int) by unfold llen; omega), condO_false]
theorem path_both (a : Int) (l : List Vh) (hl : l.length ≤ 512) : ∃ ok P, P.length ≤ 900 ∧ path_Path 1000 (a, l, vgl_sha_keys) = some (ok, P) ∧ ref10_Path 1000 (a, l) = some (ok, P) := by
  by_cases h : a < 0 ∨ (l.length : Int) ≤ a
  · exact ⟨false, [], by simp, path_bad h⟩
  · obtain ⟨m, rfl⟩ : ∃ m : Nat, a = m := ⟨a.toNat, by omega⟩
    exact ⟨true, _, by rw [pth_len]; exact Nat.le_trans (stp_len ..) (by omega), path_ok (by omega) hl, rpath_ok (by omega) hl⟩
theorem lks_len (m : Nat) (l : List Vh) : (lks m l).length ≤ 41 := by
  have := lksW_len 40 m true l
  rw [lksW_true] at this
  omega
theorem links_both (a : Int) (l : List Vh) (hl : l.length ≤ 512) : ∃ ok P, P.length ≤ 900 ∧ path_Links 1000 (a, l, vgl_sha_keys) = some (ok, P) ∧ ref10_Links 1000 (a, l) = some (ok, P) := by
  by_cases h : a < 1 ∨ (l.length : Int) < a
  · exact ⟨false, [], by simp, plinks_bad h⟩
  · obtain ⟨m, rfl⟩ : ∃ m : Nat, a = m := ⟨a.toNat, by omega⟩
    exact ⟨true, _, Nat.le_trans (lks_len m l) (by omega), plinks_ok (by omega) (by omega) hl, rlinksL_ok (by omega) (by omega) hl⟩
theorem stp_deep (w : Bool) : ∀ (d m n : Nat), n ≤ 2 ^ d → ∀ e, d ≤ e → stp w e m n = stp w d m n
  | 0, m, n, h, e, _ => by rw [stp_nil (.inl (by simp at h; omega)), stp_nil (.inl (by simp at h; omega))]
  | d + 1, m, n, h, e, he => by
    obtain ⟨e, rfl⟩ : ∃ f, e = f + 1 := ⟨e - 1, by omega⟩
    by_cases a : n < 2 ∨ (w = true ∧ m = n)
    · rw [stp_nil a, stp_nil a]
    · obtain ⟨a1, a2, a3⟩ := sp_spec (n := n) (by omega)
      have a4 := sp_le (n := n) (d := d) (by omega) h
      by_cases b : m < sp n ∨ (w = true ∧ m = sp n)
      · rw [stp_left a b, stp_left a b, stp_deep w d _ _ (by omega) e (by omega)]
      · rw [stp_right a b, stp_right a b, stp_deep w d _ _ (by omega) e (by omega)]
end Go.Proofs.YtindlajlkghneaaGreatDoor
/- The document's verification: what a tree has is right, and goes together. No condition. -/
set_option linter.unusedVariables false
set_option linter.unusedSimpArgs false
namespace Go.Proofs.YtindlajlkghneaaGreatDoor
open Go
theorem fold_root : ∀ (d m : Nat) (l : List Vh) (hm : m < l.length), l.length ≤ 2 ^ d → l.length ≤ 512 →
    (((stp false d m l.length).map (·.1)).reverse.zip (pth false d m l)).foldl (fun x p => if p.1 = true then node p.2 x else node x p.2) l[m] = rt 40 l
  | 0, m, l, hm, h, _ => by
    have h1 : l.length = 1 := by rw [Nat.pow_zero] at h; omega
    obtain ⟨x, rfl⟩ := List.length_eq_one_iff.1 h1
    rw [rt_small (by simp)]
    simp [stp]
  | d + 1, m, l, hm, h, hb => by
    by_cases h1 : l.length < 2
    · have h1 : l.length = 1 := by omega
      obtain ⟨x, rfl⟩ := List.length_eq_one_iff.1 h1
      rw [stp_nil (.inl (by simp)), rt_small (by simp)]
      simp
    · have h2 : 2 ≤ l.length := by omega
      obtain ⟨a1, a2, a3⟩ := sp_spec h2
      have a4 := sp_le h2 h
      have a : ¬ (l.length < 2 ∨ (false = true ∧ m = l.length)) := by simp; omega
      rw [rt40_big h2 hb]
      by_cases b : m < sp l.length
      · have ih := fold_root d m (l.take (sp l.length)) (by rw [List.length_take]; omega) (by rw [List.length_take]; omega) (by rw [List.length_take]; omega)
        simp only [List.getElem_take, len_take l h2] at ih
        rw [stp_left a (.inl b), pth_left a (.inl b), List.map_cons, List.reverse_cons, List.zip_append (by rw [List.length_reverse, List.length_map, pth_len, len_take l h2]), List.foldl_append]
        rw [ih]
        rfl
      · have ih := fold_root d (m - sp l.length) (l.drop (sp l.length)) (by rw [List.length_drop]; omega) (by rw [List.length_drop]; omega) (by rw [List.length_drop]; omega)
        have e : (l.drop (sp l.length))[m - sp l.length]'(by rw [List.length_drop]; omega) = l[m] := by
          rw [List.getElem_drop]
          congr 1; omega
        rw [e, List.length_drop] at ih
        rw [stp_right a (by simp; omega), pth_right a (by simp; omega), List.map_cons, List.reverse_cons, List.zip_append (by rw [List.length_reverse, List.length_map, pth_len, List.length_drop]), List.foldl_append]
        rw [ih]
        rfl
theorem foldl_take_succ {α β : Type} (f : β → α → β) (l : List α) (b : β) (i : Nat) (h : i < l.length) : (l.take (i + 1)).foldl f b = f ((l.take i).foldl f b) l[i] := by
  rw [List.take_add_one, List.getElem?_eq_getElem h, List.foldl_append]; rfl
/-- The root of the first ones, by the same halves. -/
theorem rt_first {m : Nat} {l : List Vh} (h2 : 2 ≤ l.length) (hb : l.length ≤ 512) (h1 : sp l.length < m) (hm : m ≤ l.length) : rt 40 (l.take m) = node (rt 40 (l.take (sp l.length))) (rt 40 ((l.drop (sp l.length)).take (m - sp l.length))) := by
  obtain ⟨a1, a2, a3⟩ := sp_spec h2
  have hlm : (l.take m).length = m := by rw [List.length_take]; omega
  have hs : sp (l.take m).length = sp l.length := by
    rw [hlm]
    unfold sp at a2 h1 ⊢
    exact sp_unique h1 (by rw [Nat.pow_succ]; omega)
  rw [rt40_big (by omega) (by omega), hs, List.take_take, Nat.min_eq_left (by omega), List.drop_take]
end Go.Proofs.YtindlajlkghneaaGreatDoor
/- The log: links and paths of its first ones. No condition. -/
set_option linter.unusedVariables false
set_option linter.unusedSimpArgs false
namespace Go.Proofs.YtindlajlkghneaaGreatDoor
open Go
theorem first_yes {b : Nat} (all : List Fz) (lv : List Vh) (n : Int) (pk : List Vh) (h1 : 1 ≤ b) (h : b ≤ lv.length) : super_Super_first 1000 ((b : Int), all, lv, n, pk) = some (0, lv.take b) := by
  unfold super_Super_first
  dsimp only
  rw [ilt_f (by omega), condO_false, igt_f (show (b : Int) ≤ llen lv by unfold llen; omega), condO_false, guardO_pos ⟨by omega, by omega, by unfold llen; omega, by omega⟩, ltake_nat]
theorem first_no {b : Int} (all : List Fz) (lv : List Vh) (n : Int) (pk : List Vh) (h : b < 1 ∨ (lv.length : Int) < b) : super_Super_first 1000 (b, all, lv, n, pk) = some (19, []) := by
  unfold super_Super_first
  dsimp only
  by_cases h1 : b < 1
  · rw [ilt_t h1, condO_true]
  · rw [ilt_f (by omega), condO_false, igt_t (show llen lv < b by unfold llen; omega), condO_true]
theorem slinks_ok {a b : Nat} (all : List Fz) (lv : List Vh) (n : Int) (pk : List Vh) (h1 : 1 ≤ a) (hab : a ≤ b) (h : b ≤ lv.length) (hl : lv.length ≤ 512) : super_Super_Links 1000 ((a : Int), (b : Int), vgl_sha_keys, all, lv, n, pk) = some (0, lks a (lv.take b)) := by
  unfold super_Super_Links
  dsimp only
  refine bind_of (first_yes all lv n pk (by omega) h) ?_
  dsimp only
  rw [ine_f (rfl : (0 : Int) = 0), condO_false]
  refine bind_of (plinks_ok h1 (by rw [List.length_take]; omega) (by rw [List.length_take]; omega)) ?_
  dsimp only
  rw [Bool.not_true, condO_false]
theorem spath_ok {m b : Nat} (all : List Fz) (lv : List Vh) (n : Int) (pk : List Vh) (hmb : m < b) (h : b ≤ lv.length) (hl : lv.length ≤ 512) : super_Super_Path 1000 ((m : Int), (b : Int), vgl_sha_keys, all, lv, n, pk) = some (0, pth false 40 m (lv.take b)) := by
  unfold super_Super_Path
  dsimp only
  refine bind_of (first_yes all lv n pk (by omega) h) ?_
  dsimp only
  rw [ine_f (rfl : (0 : Int) = 0), condO_false]
  refine bind_of (path_ok (by rw [List.length_take]; omega) (by rw [List.length_take]; omega)) ?_
  dsimp only
  rw [Bool.not_true, condO_false]
theorem leaf_cat {f : Fz} (h : mayF f.1 f.2.1) : catOk ⟨#[0]⟩ (mkB (fzL f.1 f.2.1 f.2.2)) := by
  have hl := fzL_len h f.2.2
  exact cat_mkB (a := [0]) (by simp; omega)
theorem leaf_ref {f : Fz} (h : mayF f.1 f.2.1) : ref02_Of 1000 (⟨#[0]⟩ ++ mkB (fzL f.1 f.2.1 f.2.2)) = some (lfF f) := by
  have hl := fzL_len h f.2.2
  have e : (⟨#[0]⟩ : ByteArray) ++ mkB (fzL f.1 f.2.1 f.2.2) = mkB ([0] ++ fzL f.1 f.2.1 f.2.2) := mkB_app [0] _
  rw [e, ref_of _ (by simp; omega)]
  rfl
theorem place_of (x : Int) {n : Nat} (h : 0 < n) (hn : n ≤ 512) : ∃ m : Nat, m < n ∧ Int.tmod (WK .i64 (Int.tmod x (n : Int) + (n : Int))) (n : Int) = (m : Int) := by
  have h1 : Int.tmod x (n : Int) < (n : Int) := Int.tmod_lt_of_pos x (by omega)
  have h2 : -(n : Int) < Int.tmod x (n : Int) := Int.lt_tmod_of_pos x (b := (n : Int)) (by omega)
  rw [wk_i64 (by omega) (by omega)]
  have h3 : Int.tmod (Int.tmod x (n : Int) + (n : Int)) (n : Int) < (n : Int) := Int.tmod_lt_of_pos _ (by omega)
  have h4 : 0 ≤ Int.tmod (Int.tmod x (n : Int) + (n : Int)) (n : Int) := Int.tmod_nonneg _ (by omega)
  exact ⟨(Int.tmod (Int.tmod x (n : Int) + (n : Int)) (n : Int)).toNat, by omega, by omega⟩
theorem size_of (x : Int) {n : Nat} (h : 0 < n) (hn : n ≤ 512) : ∃ m : Nat, 1 ≤ m ∧ m ≤ n ∧ WK .i64 (1 + Int.tmod (WK .i64 (Int.tmod x (n : Int) + (n : Int))) (n : Int)) = (m : Int) := by
  obtain ⟨m, h1, h2⟩ := place_of x h hn
  refine ⟨m + 1, by omega, by omega, ?_⟩
  rw [h2, wk_i64 (by omega) (by omega)]; omega
end Go.Proofs.YtindlajlkghneaaGreatDoor
/- The log and the document's. No condition. -/
set_option linter.unusedVariables false
set_option linter.unusedSimpArgs false
namespace Go.Proofs.YtindlajlkghneaaGreatDoor
open Go
theorem take_snoc (l : List Fz) (i : Nat) (h : i < l.length) : l.take (i + 1) = l.take i ++ [l[i]] := by
  rw [List.take_add_one, List.getElem?_eq_getElem h]; rfl
theorem ranchor_arg {w c : Int} (r : Vh) (h : ¬ mayF w c) (all : List Fz) : ref18_Super_Anchor 1000 (w, c, r, all) = some (0, 1, all) := by
  unfold ref18_Super_Anchor
  refine bind_of (rfz_no h r) ?_
  dsimp only
  rw [ine_t (show (1 : Int) ≠ 0 by decide), condO_true]
theorem ranchor_state {w c : Int} (r : Vh) (h : mayF w c) (all : List Fz) (hb : all.length ≤ 1000) (hw : w ≤ lastW all) : ref18_Super_Anchor 1000 (w, c, r, all) = some (0, 13, all) := by
  have hne : all ≠ [] := by
    rintro rfl
    have : lastW [] = -1 := rfl
    have := h.1
    omega
  have hl : 0 < all.length := List.length_pos_iff.2 hne
  unfold ref18_Super_Anchor
  refine bind_of (rfz_yes h r) ?_
  dsimp only
  rw [ine_f (rfl : (0 : Int) = 0), condO_false, igt_t (show 0 < llen all by unfold llen; omega), condO_true, last_ix hne hb, guardO_pos ⟨by omega, by unfold llen; omega⟩]
  have e : (at_ T5 all ((all.length - 1 : Nat) : Int)).1 = lastW all := last_at hne
  rw [e, ige_t hw, condO_true]
  rfl
theorem ranchor_go {w c : Int} (r : Vh) (h : mayF w c) (all : List Fz) (hb : all.length ≤ 60) (hw : lastW all < w) : ref18_Super_Anchor 1000 (w, c, r, all) = some ((all.length : Int), 0, all ++ [(w, c, r)]) := by
  unfold ref18_Super_Anchor
  refine bind_of (rfz_yes h r) ?_
  dsimp only
  have key : (condO (igt (llen all) 0) (guardO ((inR (WK .i64 ((llen all) - 1)) (llen all))) (condO (ige (at_ T5 all (WK .i64 ((llen all) - 1))).1 w) (some (.inl (0, 13))) (some (.inr (()))))) (some (.inr (()))) : Option ((Int × Int) ⊕ (Unit))) = some (.inr ()) := by
    by_cases hne : all = []
    · subst hne; rfl
    · have hl : 0 < all.length := List.length_pos_iff.2 hne
      rw [igt_t (show 0 < llen all by unfold llen; omega), condO_true, last_ix hne (by omega), guardO_pos ⟨by omega, by unfold llen; omega⟩]
      have e : (at_ T5 all ((all.length - 1 : Nat) : Int)).1 = lastW all := last_at hne
      rw [e, ige_f hw, condO_false]
  rw [ine_f (rfl : (0 : Int) = 0), condO_false]
  refine bind_of key ?_
  rw [caseS_inr, guardO_pos (show appOk _ _ _ from by unfold appOk; simp; omega)]
  have e1 : WK .i64 (llen (all ++ [(w, c, r)]) - 1) = (all.length : Int) := by
    have : llen (all ++ [(w, c, r)]) = (all.length : Int) + 1 := by unfold llen; simp
    rw [this, wk_i64 (by omega) (by omega)]; omega
  rw [e1]
theorem same_ok (l : List Fz) (hb : l.length ≤ 900) : ref18_Same 1000 (l, l) = some true := by
  unfold ref18_Same
  dsimp only
  rw [ine_f (rfl : llen l = llen l), condO_false]
  refine bind_of (a := (Sum.inr () : Bool ⊕ Unit)) ?_ rfl
  refine loopK_run (fun i : Nat => (i : Int)) l.length _ 1000 (fun i hi => ?_) ?_ (by omega)
  · have hi' : (i : Int) < llen l := by unfold llen; omega
    rw [ilt_t hi', condO_true, guardO_pos ⟨by omega, hi'⟩, guardO_pos ⟨by omega, hi'⟩, sameI_self, ieq_t (rfl : (at_ T5 l (i : Int)).1 = _), ieq_t (rfl : (at_ T5 l (i : Int)).2.1 = _), wk_i64 (by omega) (by omega)]
    rfl
  · rw [ilt_f (show llen l ≤ (l.length : Int) by unfold llen; omega), condO_false]
theorem leaves_ok (l : List Fz) (hb : l.length ≤ 500) (hm : ∀ g ∈ l, mayF g.1 g.2.1) : ref18_Super_Leaves 1000 l = some (l.map lfF) := by
  unfold ref18_Super_Leaves
  refine bind_of (loopK_run (fun i : Nat => ((i : Int), (l.take i).map lfF)) l.length (l.map lfF) 1000 (fun i hi => ?_) ?_ (by omega)) rfl
  · dsimp only
    have hi' : (i : Int) < llen l := by unfold llen; omega
    have ea : at_ T5 l (i : Int) = l[i] := at_nat (t := TF) hi
    have hmi := hm l[i] (List.getElem_mem hi)
    have hfl := fzL_len hmi (l[i]).2.2
    rw [ilt_t hi', condO_true, guardO_pos ⟨by omega, hi'⟩, ea, rfz_yes hmi, Option.bind_some]
    dsimp only
    rw [guardO_pos (cat_mkB (a := [0]) (b := fzL (l[i]).1 (l[i]).2.1 (l[i]).2.2) (by simp; omega))]
    rw [show (⟨#[0]⟩ : ByteArray) ++ mkB (fzL (l[i]).1 (l[i]).2.1 (l[i]).2.2) = mkB ([0] ++ fzL (l[i]).1 (l[i]).2.1 (l[i]).2.2) from mkB_app [0] _]
    rw [ref_of _ (by simp; omega), Option.bind_some, guardO_pos (show appOk _ _ _ from by unfold appOk; simp; omega), wk_i64 (by omega) (by omega), take_snoc l i hi, List.map_append]
    rfl
  · dsimp only
    rw [ilt_f (show llen l ≤ (l.length : Int) by unfold llen; omega), condO_false, List.take_of_length_le (Nat.le_refl _)]
end Go.Proofs.YtindlajlkghneaaGreatDoor
/- The plain law of SuperPlays. No condition. -/
set_option linter.unusedVariables false
set_option linter.unusedSimpArgs false
namespace Go.Proofs.YtindlajlkghneaaGreatDoor
open Go
def SuperPlaysPure : Prop := ∀ (z0 : Ty.den (.sl 34 (.pair (.int .i64) (.pair (.int .i64) (.arr 32 (.int .u8)))))) (z1 : Ty.den (.arr 3 (.int .i64))) (z2 : Ty.den .str), wfT (.sl 34 (.pair (.int .i64) (.pair (.int .i64) (.arr 32 (.int .u8))))) z0 → wfT (.arr 3 (.int .i64)) z1 → wfT .str z2 → ∃ k, law18_SuperPlays k (z1, z2, z0, vgl_sha_keys) = some true
abbrev ST := Int × List Vh × List Fz × List Vh × List Fz
theorem anchor_same {all : List Fz} {lv : List Vh} {n : Int} {pk : List Vh} (I : Inv all lv n pk) (hb : all.length ≤ 50) (w c : Int) (r : Vh) :
    ∃ (i x n' : Int) (all' : List Fz) (lv' pk' : List Vh), super_Super_Anchor 1000 (w, c, r, vgl_sha_keys, all, lv, n, pk) = some (i, x, n', all', lv', pk') ∧ ref18_Super_Anchor 1000 (w, c, r, all) = some (i, x, all') ∧ Inv all' lv' n' pk' ∧ all'.length ≤ all.length + 1 := by
  by_cases h : mayF w c
  · by_cases hw : w ≤ lastW all
    · exact ⟨0, 13, n, all, lv, pk, anchor_state r h all lv n pk (by omega) hw, ranchor_state r h all (by omega) hw, I, by omega⟩
    · obtain ⟨lv', n', pk', h1, I'⟩ := anchor_go r h I (by omega) (by omega)
      exact ⟨(all.length : Int), 0, n', all ++ [(w, c, r)], lv', pk', h1, ranchor_go r h all (by omega) (by omega), I', by simp⟩
  · exact ⟨0, 1, n, all, lv, pk, anchor_arg r h all lv n pk, ranchor_arg r h all, I, by omega⟩
theorem find_same {all : List Fz} (lv : List Vh) (n : Int) (pk : List Vh) (hb : all.length ≤ 900) (w : Int) : ∃ (i : Int) (x : Bool), super_Super_Find 1000 (w, all, lv, n, pk) = some (i, x) ∧ ref18_Super_Find 1000 (w, all) = some (i, x) := by
  rcases find_ok all w lv n pk hb with ⟨i, hi, h1, h2, h3⟩ | ⟨h1, h2⟩
  · refine ⟨_, _, h1, ?_⟩
    unfold ref18_Super_Find
    dsimp only
    refine bind_of (a := (Sum.inl ((i : Int), true) : (Int × Bool) ⊕ Unit)) ?_ rfl
    refine loopK_run (fun j : Nat => (j : Int)) i _ 1000 (fun j hj => ?_) ?_ (by omega)
    · have ea : at_ T5 all (j : Int) = all[j]'(by omega) := at_nat (t := TF) (by omega)
      rw [ilt_t (show (j : Int) < llen all by unfold llen; omega), condO_true, guardO_pos ⟨by omega, by unfold llen; omega⟩, ea, ieq_f (h3 j hj), condO_false, wk_i64 (by omega) (by omega)]
      rfl
    · have ea : at_ T5 all (i : Int) = all[i] := at_nat (t := TF) hi
      rw [ilt_t (show (i : Int) < llen all by unfold llen; omega), condO_true, guardO_pos ⟨by omega, by unfold llen; omega⟩, ea, ieq_t h2, condO_true]
  · refine ⟨_, _, h1, ?_⟩
    unfold ref18_Super_Find
    dsimp only
    refine bind_of (a := (Sum.inr () : (Int × Bool) ⊕ Unit)) ?_ rfl
    refine loopK_run (fun j : Nat => (j : Int)) all.length _ 1000 (fun j hj => ?_) ?_ (by omega)
    · have ea : at_ T5 all (j : Int) = all[j] := at_nat (t := TF) hj
      rw [ilt_t (show (j : Int) < llen all by unfold llen; omega), condO_true, guardO_pos ⟨by omega, by unfold llen; omega⟩, ea, ieq_f (h2 _ (List.getElem_mem hj)), condO_false, wk_i64 (by omega) (by omega)]
      rfl
    · rw [ilt_f (show llen all ≤ (all.length : Int) by unfold llen; omega), condO_false]
theorem path_same {all : List Fz} {lv : List Vh} {n : Int} {pk : List Vh} (I : Inv all lv n pk) (hb : all.length ≤ 50) (i q : Int) :
    ∃ (x : Int) (l : List Vh), l.length ≤ 900 ∧ super_Super_Path 1000 (i, q, vgl_sha_keys, all, lv, n, pk) = some (x, l) ∧ ref18_Super_Path 1000 (i, q, all) = some (x, l) := by
  have hl : lv.length = all.length := by rw [I.lv_eq, List.length_map]
  unfold super_Super_Path ref18_Super_Path
  dsimp only
  by_cases h1 : q < 1
  · rw [first_no all lv n pk (.inl h1), Option.bind_some]
    dsimp only
    rw [ine_t (show (19 : Int) ≠ 0 by decide), condO_true, ilt_t h1, condO_true]; exact ⟨_, _, by simp, rfl, rfl⟩
  · rw [ilt_f (show 1 ≤ q by omega), condO_false]
    by_cases h2 : (all.length : Int) < q
    · rw [first_no all lv n pk (.inr (by omega)), Option.bind_some]
      dsimp only
      rw [ine_t (show (19 : Int) ≠ 0 by decide), condO_true, igt_t (show llen all < q by unfold llen; omega), condO_true]; exact ⟨_, _, by simp, rfl, rfl⟩
    · obtain ⟨Q, rfl⟩ : ∃ Q : Nat, q = (Q : Int) := ⟨q.toNat, by omega⟩
      have hlQ : (lv.take Q).length = Q := by rw [List.length_take]; omega
      rw [first_yes all lv n pk (by omega) (by omega), Option.bind_some]
      dsimp only
      rw [ine_f rfl, condO_false, igt_f (show (Q : Int) ≤ llen all by unfold llen; omega), condO_false]
      by_cases h3 : i < 0
      · rw [ppath_bad (.inl h3), Option.bind_some, ilt_t h3, condO_true]; exact ⟨_, _, by simp, rfl, rfl⟩
      · rw [ilt_f (show 0 ≤ i by omega), condO_false]
        by_cases h4 : (Q : Int) ≤ i
        · rw [ppath_bad (.inr (by rw [hlQ]; exact h4)), Option.bind_some, ige_t h4, condO_true]; exact ⟨_, _, by simp, rfl, rfl⟩
        · obtain ⟨m, rfl⟩ : ∃ m : Nat, i = (m : Int) := ⟨i.toNat, by omega⟩
          rw [ige_f (show (m : Int) < (Q : Int) by omega), condO_false, path_ok (by rw [hlQ]; omega) (by rw [hlQ]; omega), Option.bind_some, leaves_ok all (by omega) I.may, Option.bind_some, guardO_pos ⟨by omega, by omega, by unfold llen; rw [List.length_map]; omega, by omega⟩, ltake_nat, ← I.lv_eq, rpath_ok (by rw [hlQ]; omega) (by rw [hlQ]; omega), Option.bind_some]
          refine ⟨_, _, ?_, rfl, rfl⟩
          rw [pth_len]; exact Nat.le_trans (stp_len ..) (by omega)
theorem links_same {all : List Fz} {lv : List Vh} {n : Int} {pk : List Vh} (I : Inv all lv n pk) (hb : all.length ≤ 50) (i q : Int) :
    ∃ (x : Int) (l : List Vh), l.length ≤ 900 ∧ super_Super_Links 1000 (i, q, vgl_sha_keys, all, lv, n, pk) = some (x, l) ∧ ref18_Super_Links 1000 (i, q, all) = some (x, l) := by
  have hl : lv.length = all.length := by rw [I.lv_eq, List.length_map]
  unfold super_Super_Links ref18_Super_Links
  dsimp only
  by_cases h1 : q < 1
  · rw [first_no all lv n pk (.inl h1), Option.bind_some]
    dsimp only
    rw [ine_t (show (19 : Int) ≠ 0 by decide), condO_true, ilt_t h1, condO_true]; exact ⟨_, _, by simp, rfl, rfl⟩
  · rw [ilt_f (show 1 ≤ q by omega), condO_false]
    by_cases h2 : (all.length : Int) < q
    · rw [first_no all lv n pk (.inr (by omega)), Option.bind_some]
      dsimp only
      rw [ine_t (show (19 : Int) ≠ 0 by decide), condO_true, igt_t (show llen all < q by unfold llen; omega), condO_true]; exact ⟨_, _, by simp, rfl, rfl⟩
    · obtain ⟨Q, rfl⟩ : ∃ Q : Nat, q = (Q : Int) := ⟨q.toNat, by omega⟩
      have hlQ : (lv.take Q).length = Q := by rw [List.length_take]; omega
      rw [first_yes all lv n pk (by omega) (by omega), Option.bind_some]
      dsimp only
      rw [ine_f rfl, condO_false, igt_f (show (Q : Int) ≤ llen all by unfold llen; omega), condO_false]
      by_cases h3 : i < 1
      · rw [(plinks_bad (.inl h3)).1, Option.bind_some, ilt_t h3, condO_true]; exact ⟨_, _, by simp, rfl, rfl⟩
      · rw [ilt_f (show 1 ≤ i by omega), condO_false]
        by_cases h4 : (Q : Int) < i
        · rw [(plinks_bad (.inr (by rw [hlQ]; exact h4))).1, Option.bind_some, igt_t h4, condO_true]; exact ⟨_, _, by simp, rfl, rfl⟩
        · obtain ⟨m, rfl⟩ : ∃ m : Nat, i = (m : Int) := ⟨i.toNat, by omega⟩
          rw [igt_f (show (m : Int) ≤ (Q : Int) by omega), condO_false, plinks_ok (by omega) (by rw [hlQ]; omega) (by rw [hlQ]; omega), Option.bind_some, leaves_ok all (by omega) I.may, Option.bind_some, guardO_pos ⟨by omega, by omega, by unfold llen; rw [List.length_map]; omega, by omega⟩, ltake_nat, ← I.lv_eq, rlinksL_ok (by omega) (by rw [hlQ]; omega) (by rw [hlQ]; omega), Option.bind_some]
          exact ⟨_, _, Nat.le_trans (lks_len ..) (by omega), rfl, rfl⟩
/-- The document's root is the front's. -/
theorem root_same {all : List Fz} {lv : List Vh} {n : Int} {pk : List Vh} (I : Inv all lv n pk) (hb : all.length ≤ 50) : ref18_Super_Leaves 1000 all = some lv ∧ ref09_Root 1000 lv = some (rt 40 lv) ∧ (all = [] → sha_Of 1000 (([] : List ByteArray), vgl_sha_keys) = some (rt 40 lv)) ∧ (all ≠ [] → front_Front_Root 1000 (n, vgl_sha_keys, pk) = some (rt 40 lv)) := by
  have hl : lv.length = all.length := by rw [I.lv_eq, List.length_map]
  refine ⟨?_, rroot40 lv (by omega), fun h => ?_, fun h => froot_ok I h (by omega)⟩
  · have := leaves_ok all (by omega) I.may
    rw [← I.lv_eq] at this
    exact this
  · subst h
    have e : lv = [] := List.eq_nil_of_length_eq_zero hl
    subst e
    have := sha_of [] (by simp) (by simp)
    rw [rt_small (by simp)]
    exact this
theorem plays_body (qq : Vector Int 3) (key : List UInt8) (hk : key.length ≤ 64) (r : List Fz) (hr : r.length ≤ 16) : ((loopK (H := Int × Int × (List (Vector Int 32)) × (List (Int × (Int × (Vector Int 32)))) × (List (Vector Int 32)) × (List (Int × (Int × (Vector Int 32))))) (E := (Bool × Int × (List (Vector Int 32)) × (List (Int × (Int × (Vector Int 32)))) × (List (Vector Int 32)) × (List (Int × (Int × (Vector Int 32))))) ⊕ (Int × (List (Vector Int 32)) × (List (Int × (Int × (Vector Int 32)))) × (List (Vector Int 32)) × (List (Int × (Int × (Vector Int 32)))))) 1000 (fun h2 => condO (ilt h2.1 (llen r)) (guardO ((inR h2.1 (llen r))) ((super_Super_Anchor 1000 ((at_ T5 r h2.1).1, (at_ T5 r h2.1).2.1, (at_ T5 r h2.1).2.2, vgl_sha_keys, h2.2.2.2.1, h2.2.2.2.2.1, h2.2.1, h2.2.2.1)).bind fun r3 => guardO ((inR h2.1 (llen r))) ((ref18_Super_Anchor 1000 ((at_ T5 r h2.1).1, (at_ T5 r h2.1).2.1, (at_ T5 r h2.1).2.2, h2.2.2.2.2.2)).bind fun r4 => condO (ine r3.1 r4.1) (some (.inr (.inl (false, r3.2.2.1, r3.2.2.2.2.2, r3.2.2.2.1, r3.2.2.2.2.1, r4.2.2)))) (condO (ine r3.2.1 r4.2.1) (some (.inr (.inl (false, r3.2.2.1, r3.2.2.2.2.2, r3.2.2.2.1, r3.2.2.2.2.1, r4.2.2)))) (condO (ine (llen r3.2.2.2.1) (llen r4.2.2)) (some (.inr (.inl (false, r3.2.2.1, r3.2.2.2.2.2, r3.2.2.2.1, r3.2.2.2.2.1, r4.2.2)))) (condO (ieq (llen r3.2.2.2.1) 0) ((sha_Of 1000 (([] : List ByteArray), vgl_sha_keys)).bind fun r5 => (ref18_Super_Leaves 1000 r4.2.2).bind fun r6 => (ref09_Root 1000 r6).bind fun r7 => condO (!(sameI 32 r5 r7 (List.range 32))) (some (.inr (.inl (false, r3.2.2.1, r3.2.2.2.2.2, r3.2.2.2.1, r3.2.2.2.2.1, r4.2.2)))) (some (.inl (((WK .i64 (h2.1 + 1)), r3.2.2.1, r3.2.2.2.2.2, r3.2.2.2.1, r3.2.2.2.2.1, r4.2.2))))) ((front_Front_Root 1000 (r3.2.2.1, vgl_sha_keys, r3.2.2.2.2.2)).bind fun r5 => (ref18_Super_Leaves 1000 r4.2.2).bind fun r6 => (ref09_Root 1000 r6).bind fun r7 => condO (!(sameI 32 r5 r7 (List.range 32))) (some (.inr (.inl (false, r3.2.2.1, r3.2.2.2.2.2, r3.2.2.2.1, r3.2.2.2.2.1, r4.2.2)))) (some (.inl (((WK .i64 (h2.1 + 1)), r3.2.2.1, r3.2.2.2.2.2, r3.2.2.2.1, r3.2.2.2.2.1, r4.2.2))))))))))) (some (.inr (.inr ((h2.2.1, h2.2.2.1, h2.2.2.2.1, h2.2.2.2.2.1, h2.2.2.2.2.2)))))) ((0, 0, ([] : List (Vector Int 32)), ([] : List (Int × (Int × (Vector Int 32)))), ([] : List (Vector Int 32)), ([] : List (Int × (Int × (Vector Int 32))))))).bind fun r2 => caseS r2 (fun r2 => some (r2.1)) (fun r2 => guardO ((inR 0 3)) ((super_Super_At 1000 ((vAt 0 qq 0), r2.2.2.1, r2.2.2.2.1, r2.1, r2.2.1)).bind fun r3 => (guardO ((inR 0 3)) (condO (ige (vAt 0 qq 0) 0) (guardO ((inR 0 3)) (condO (ilt (vAt 0 qq 0) (llen r2.2.2.2.2)) (guardO ((inR 0 3)) (guardO ((inR (vAt 0 qq 0) (llen r2.2.2.2.2))) (some ((0, (at_ T5 r2.2.2.2.2 (vAt 0 qq 0)).1, (at_ T5 r2.2.2.2.2 (vAt 0 qq 0)).2.1, (at_ T5 r2.2.2.2.2 (vAt 0 qq 0)).2.2))))) (some ((19, 0, 0, (Vector.replicate 32 0)))))) (some ((19, 0, 0, (Vector.replicate 32 0))))) : Option (Int × Int × Int × (Vector Int 32))).bind fun r4 => guardO ((inR 2 3)) ((super_Super_Find 1000 ((vAt 0 qq 2), r2.2.2.1, r2.2.2.2.1, r2.1, r2.2.1)).bind fun r5 => guardO ((inR 2 3)) ((ref18_Super_Find 1000 ((vAt 0 qq 2), r2.2.2.2.2)).bind fun r6 => guardO ((inR 0 3)) (guardO ((inR 1 3)) ((super_Super_Path 1000 ((vAt 0 qq 0), (vAt 0 qq 1), vgl_sha_keys, r2.2.2.1, r2.2.2.2.1, r2.1, r2.2.1)).bind fun r7 => guardO ((inR 0 3)) (guardO ((inR 1 3)) ((ref18_Super_Path 1000 ((vAt 0 qq 0), (vAt 0 qq 1), r2.2.2.2.2)).bind fun r8 => guardO ((inR 0 3)) (guardO ((inR 1 3)) ((super_Super_Links 1000 ((vAt 0 qq 0), (vAt 0 qq 1), vgl_sha_keys, r2.2.2.1, r2.2.2.2.1, r2.1, r2.2.1)).bind fun r9 => guardO ((inR 0 3)) (guardO ((inR 1 3)) ((ref18_Super_Links 1000 ((vAt 0 qq 0), (vAt 0 qq 1), r2.2.2.2.2)).bind fun r10 => (ref09_Same 1000 (r7.2, r8.2)).bind fun r11 => (ref09_Same 1000 (r9.2, r10.2)).bind fun r12 => (slices_Clone_2 1000 r2.2.2.1).bind fun r13 => (ref18_Same 1000 (r13, r2.2.2.2.2)).bind fun r14 => condO true (condO ((ieq r3.1 r4.2.1) && ((ieq r3.2.1 r4.2.2.1) && ((sameI 32 r3.2.2.1 r4.2.2.2 (List.range 32)) && true))) (condO (ieq r3.2.2.2 r4.1) (condO (ieq r5.1 r6.1) (condO (beq r5.2 r6.2) (condO r11 (condO (ieq r7.1 r8.1) (condO r12 (condO (ieq r9.1 r10.1) (condO r14 (guardO ((inR 2 3)) (guardO ((inR 2 3)) (condO (ieq (llen r2.2.2.1) 0) ((sha_Of 1000 (([] : List ByteArray), vgl_sha_keys)).bind fun r15 => (seal_Head 1000 ((mkB key), (llen r2.2.2.1), r15, (vAt 0 qq 2), vgl_sha_keys)).bind fun r16 => (ref18_Super_Leaves 1000 r2.2.2.2.2).bind fun r17 => (ref09_Root 1000 r17).bind fun r18 => (ref16_Head 1000 ((mkB key), (llen r2.2.2.2.2), r18, (vAt 0 qq 2))).bind fun r19 => some (((ieq r16.1 r19.1) && ((sameI 32 r16.2.1 r19.2.1 (List.range 32)) && ((ieq r16.2.2.1 r19.2.2.1) && ((sameI 32 r16.2.2.2 r19.2.2.2 (List.range 32)) && true)))))) ((front_Front_Root 1000 (r2.1, vgl_sha_keys, r2.2.1)).bind fun r15 => (seal_Head 1000 ((mkB key), (llen r2.2.2.1), r15, (vAt 0 qq 2), vgl_sha_keys)).bind fun r16 => (ref18_Super_Leaves 1000 r2.2.2.2.2).bind fun r17 => (ref09_Root 1000 r17).bind fun r18 => (ref16_Head 1000 ((mkB key), (llen r2.2.2.2.2), r18, (vAt 0 qq 2))).bind fun r19 => some (((ieq r16.1 r19.1) && ((sameI 32 r16.2.1 r19.2.1 (List.range 32)) && ((ieq r16.2.2.1 r19.2.2.1) && ((sameI 32 r16.2.2.2 r19.2.2.2 (List.range 32)) && true))))))))) (some (false))) (some (false))) (some (false))) (some (false))) (some (false))) (some (false))) (some (false))) (some (false))) (some (false))) (some (false))))))))))))))) = some true := by
  refine loop_bind (fun dd h => ∃ (i : Nat) (n : Int) (pk : List Vh) (all : List Fz) (lv : List Vh), h = ((i : Int), n, pk, all, lv, all) ∧ i + dd = r.length ∧ all.length ≤ i ∧ Inv all lv n pk)
    (fun e => ∃ (n : Int) (pk : List Vh) (all : List Fz) (lv : List Vh), e = .inr (n, pk, all, lv, all) ∧ all.length ≤ 50 ∧ Inv all lv n pk) r.length (by omega) ⟨0, 0, [], [], [], rfl, by omega, by simp, inv_nil⟩ ?_ ?_
  · rintro dd _ ⟨i, n, pk, all, lv, rfl, hi, hn, I⟩
    dsimp only
    by_cases a : i < r.length
    · obtain ⟨ix, x, n', all', lv', pk', h1, h2, I', hn'⟩ := anchor_same I (by omega) (at_ T5 r (i : Int)).1 (at_ T5 r (i : Int)).2.1 (at_ T5 r (i : Int)).2.2
      obtain ⟨g1, g2, g3, g4⟩ := root_same I' (by omega)
      have hin : inR (i : Int) (llen r) := ⟨by omega, by unfold llen; omega⟩
      rw [ilt_t (show (i : Int) < llen r by unfold llen; omega), condO_true, guardO_pos hin, h1, Option.bind_some, guardO_pos hin, h2, Option.bind_some]
      dsimp only
      rw [ine_f rfl, condO_false, ine_f rfl, condO_false, ine_f rfl, condO_false, wk_i64 (by omega) (by omega)]
      by_cases e0 : all' = []
      · rw [ieq_t (show llen all' = 0 by rw [e0]; rfl), condO_true, g3 e0, Option.bind_some, g1, Option.bind_some, g2, Option.bind_some, sameI_self, Bool.not_true, condO_false]
        exact .on (dd - 1) (by omega) ⟨i + 1, n', pk', all', lv', rfl, by omega, by omega, I'⟩
      · have hl : 0 < all'.length := List.length_pos_iff.2 e0
        rw [ieq_f (show llen all' ≠ 0 by unfold llen; omega), condO_false, g4 e0, Option.bind_some, g1, Option.bind_some, g2, Option.bind_some, sameI_self, Bool.not_true, condO_false]
        exact .on (dd - 1) (by omega) ⟨i + 1, n', pk', all', lv', rfl, by omega, by omega, I'⟩
    · rw [ilt_f (show llen r ≤ (i : Int) by unfold llen; omega), condO_false]
      exact .out ⟨n, pk, all, lv, rfl, by omega, I⟩
  · rintro _ ⟨n, pk, all, lv, rfl, hb, I⟩
    have hl : lv.length = all.length := by rw [I.lv_eq, List.length_map]
    have in0 : inR 0 3 := by decide
    have in1 : inR 1 3 := by decide
    have in2 : inR 2 3 := by decide
    rw [caseS_inr]
    dsimp only
    obtain ⟨q0, hq0⟩ : ∃ q : Int, q = vAt 0 qq 0 := ⟨_, rfl⟩
    obtain ⟨q1, hq1⟩ : ∃ q : Int, q = vAt 0 qq 1 := ⟨_, rfl⟩
    obtain ⟨q2, hq2⟩ : ∃ q : Int, q = vAt 0 qq 2 := ⟨_, rfl⟩
    rw [← hq0, ← hq1, ← hq2]
    obtain ⟨g1, g2, g3, g4⟩ := root_same I hb
    -- what is at a place
    have hat : ∃ (A B : Int) (C : Vh) (e : Int), super_Super_At 1000 (q0, all, lv, n, pk) = some (A, B, C, e) ∧ (guardO ((inR 0 3)) (condO (ige q0 0) (guardO ((inR 0 3)) (condO (ilt q0 (llen all)) (guardO ((inR 0 3)) (guardO ((inR q0 (llen all))) (some ((0, (at_ T5 all q0).1, (at_ T5 all q0).2.1, (at_ T5 all q0).2.2))))) (some ((19, 0, 0, (Vector.replicate 32 0)))))) (some ((19, 0, 0, (Vector.replicate 32 0))))) : Option (Int × Int × Int × (Vector Int 32))) = some (e, A, B, C) := by
      rw [guardO_pos in0, guardO_pos in0, guardO_pos in0]
      by_cases h : 0 ≤ q0 ∧ q0 < (all.length : Int)
      · obtain ⟨i, rfl⟩ : ∃ i : Nat, q0 = (i : Int) := ⟨q0.toNat, by omega⟩
        have ea : at_ T5 all (i : Int) = all[i]'(by omega) := at_nat (t := TF) (by omega)
        refine ⟨_, _, _, _, at_yes all lv n pk (by omega), ?_⟩
        rw [ige_t h.1, condO_true, ilt_t (show (i : Int) < llen all by unfold llen; omega), condO_true, guardO_pos ⟨by omega, by unfold llen; omega⟩, ea]
      · refine ⟨_, _, _, _, at_no all lv n pk (by omega), ?_⟩
        by_cases h0 : 0 ≤ q0
        · rw [ige_t h0, condO_true, ilt_f (show llen all ≤ q0 by unfold llen; omega), condO_false]
        · rw [ige_f (by omega), condO_false]
    obtain ⟨A, B, C, e, ha1, ha2⟩ := hat
    refine (guardO_pos in0).trans (bind_of ha1 (bind_of ha2 ?_))
    obtain ⟨fi, fx, hf1, hf2⟩ := find_same (all := all) lv n pk (by omega) q2
    refine (guardO_pos in2).trans (bind_of hf1 ((guardO_pos in2).trans (bind_of hf2 ?_)))
    obtain ⟨px, pl, hpl, hp1, hp2⟩ := path_same I hb q0 q1
    refine (guardO_pos in0).trans ((guardO_pos in1).trans (bind_of hp1 ((guardO_pos in0).trans ((guardO_pos in1).trans (bind_of hp2 ?_)))))
    obtain ⟨kx, kl, hkl, hk1, hk2⟩ := links_same I hb q0 q1
    refine (guardO_pos in0).trans ((guardO_pos in1).trans (bind_of hk1 ((guardO_pos in0).trans ((guardO_pos in1).trans (bind_of hk2 ?_)))))
    refine bind_of (same_self pl hpl) (bind_of (same_self kl hkl) (bind_of (clone_fz all (by omega)) (bind_of (same_ok all (by omega)) ?_)))
    dsimp only
    obtain ⟨m, hm1, hm2⟩ := head_same key hk all.length (by omega) (rt 40 lv) q2
    have ell : llen all = (all.length : Int) := rfl
    rw [condO_true, ieq_t rfl, ieq_t rfl, sameI_self]
    refine (condO_true _ _).trans ?_
    rw [ieq_t rfl, condO_true, ieq_t rfl, condO_true, show beq fx fx = true by cases fx <;> rfl, condO_true, condO_true, ieq_t rfl, condO_true, condO_true, ieq_t rfl, condO_true, condO_true, guardO_pos in2, guardO_pos in2, ell]
    by_cases e0 : all = []
    · rw [ieq_t (show (all.length : Int) = 0 by rw [e0]; rfl), condO_true, g3 e0, Option.bind_some, hm1, Option.bind_some, g1, Option.bind_some, g2, Option.bind_some, hm2, Option.bind_some]
      dsimp only
      rw [ieq_t rfl, ieq_t rfl, sameI_self, sameI_self]
      rfl
    · have hl : 0 < all.length := List.length_pos_iff.2 e0
      rw [ieq_f (show (all.length : Int) ≠ 0 by omega), condO_false, g4 e0, Option.bind_some, hm1, Option.bind_some, g1, Option.bind_some, g2, Option.bind_some, hm2, Option.bind_some]
      dsimp only
      rw [ieq_t rfl, ieq_t rfl, sameI_self, sameI_self]
      rfl
theorem superPlays_law : SuperPlaysPure := by
  intro l q key _ _ _
  refine ⟨1000, ?_⟩
  unfold law18_SuperPlays
  refine bind_of awake_ok ?_
  dsimp only
  have hkey : ∃ k : List UInt8, k.length ≤ 64 ∧ (condO (igt (blen key) 20) (guardO ((cutOk 0 20 (blen key))) (some ((scut key 0 20)))) (some (key)) : Option (ByteArray)) = some (mkB k) := by
    by_cases c : 20 < ByteArray.size key
    · have hs : (scut key 0 20).size ≤ 20 := by
        unfold scut
        simp [ByteArray.size_extract]
        omega
      refine ⟨(scut key 0 20).data.toList, by rw [data_len]; omega, ?_⟩
      rw [igt_t (show (20 : Int) < blen key by show (20 : Int) < ((ByteArray.size key : Nat) : Int); omega), condO_true, guardO_pos (show cutOk 0 20 (blen key) from ⟨by omega, by omega, by show (20 : Int) ≤ ((ByteArray.size key : Nat) : Int); omega⟩), mkB_data]
    · refine ⟨key.data.toList, by rw [data_len]; omega, ?_⟩
      rw [igt_f (show blen key ≤ 20 by show ((ByteArray.size key : Nat) : Int) ≤ 20; omega), condO_false, mkB_data]
  obtain ⟨k, hk1, hk2⟩ := hkey
  refine bind_of hk2 ?_
  refine condO_eq (fun h => ?_) (fun h => ?_)
  · have h16 : (16 : Int) < (l.length : Int) := by simpa [llen] using h
    refine (guardO_pos ⟨by omega, by omega, by unfold llen; omega, by omega⟩).trans ?_
    have hr : (ltake 16 l).length ≤ 16 := by unfold ltake; rw [List.length_take]; omega
    exact plays_body q k hk1 (ltake 16 l) hr
  · have hr : (l.length : Int) ≤ 16 := by simpa [llen] using h
    have hr : l.length ≤ 16 := by omega
    exact plays_body q k hk1 l hr
end Go.Proofs.YtindlajlkghneaaGreatDoor
