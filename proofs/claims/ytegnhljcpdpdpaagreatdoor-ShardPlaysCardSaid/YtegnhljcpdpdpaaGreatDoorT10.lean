/- Texts of the proof, put together: part 10. No condition. -/
import Derived.Test.YtegnhljcpdpdpaaGreatDoorT9
/- A log of freezes: its leaves, its peaks, what is anchored. No condition. -/
set_option linter.unusedVariables false
set_option linter.unusedSimpArgs false
namespace Go.Proofs.YtegnhljcpdpdpaaGreatDoor
open Go
abbrev Fz := Int × Int × Vh
abbrev TV : Ty := .arr 32 (.int .u8)
abbrev TF : Ty := .pair (.int .i64) (.pair (.int .i64) TV)
/-- May it be anchored at all? -/
def mayF (w c : Int) : Prop := 0 ≤ w ∧ w ≤ 1125899906842624 ∧ 1 ≤ c ∧ c ≤ 4000
instance (w c : Int) : Decidable (mayF w c) := by unfold mayF; infer_instance
def fzL (w c : Int) (r : Vh) : List UInt8 := [70] ++ putL w.toNat ++ putL c.toNat ++ (putL 32 ++ vb r)
theorem put_small {x : Nat} (h : x < 18446744073709551616) : (putL x).length ≤ 9 := by
  have := wdt_le h
  rw [putL_len]; omega
theorem fzL_len {w c : Int} (h : mayF w c) (r : Vh) : (fzL w c r).length ≤ 70 := by
  obtain ⟨h1, h2, h3, h4⟩ := h
  have a := put_small (x := w.toNat) (by omega)
  have b := put_small (x := c.toNat) (by omega)
  have d := put_small (x := 32) (by decide)
  simp only [fzL, List.length_append, vb_len, List.length_singleton]
  omega
theorem put_of {x : Int} (h0 : 0 ≤ x) (h1 : x ≤ 1125899906842624) : octet_Put 1000 (WK .u64 x) = some (mkB (putL x.toNat)) := by
  rw [wk_u64 h0 (by omega)]
  obtain ⟨n, rfl⟩ := Int.eq_ofNat_of_zero_le h0
  rw [put_ok 1000 (by decide) (by omega)]
  rfl
theorem rput_of {x : Int} (h0 : 0 ≤ x) (h1 : x ≤ 1125899906842624) : ref01_Put 1000 (WK .u64 x) = some (mkB (putL x.toNat)) := by
  rw [wk_u64 h0 (by omega)]
  obtain ⟨n, rfl⟩ := Int.eq_ofNat_of_zero_le h0
  rw [rput_ok 1000 (by decide) (by omega)]
  rfl
theorem vb_blen (r : Vh) : blen (strOfNums (Vector.toList r)) = 32 := by
  rw [vb_str, blen_mkB, vb_len]; rfl
theorem fz_yes {w c : Int} (h : mayF w c) (r : Vh) : seal_FreezeBytes 1000 (w, c, r) = some (mkB (fzL w c r), 0) := by
  obtain ⟨h1, h2, h3, h4⟩ := h
  have hl := fzL_len (show mayF w c from ⟨h1, h2, h3, h4⟩) r
  unfold seal_FreezeBytes
  dsimp only
  rw [ige_t h1, condO_true, ile_t h2, Bool.not_true, condO_false, ieq_f (show c ≠ 0 by omega), condO_false, ige_t (show 0 ≤ c by omega), condO_true, ile_t h4, Bool.not_true, condO_false]
  refine bind_of (put_of h1 h2) (bind_of (put_of (by omega) (by omega)) ?_)
  rw [vb_blen]
  refine bind_of (put_of (x := 32) (by decide) (by decide)) ?_
  have d := put_small (x := 32) (by decide)
  refine (guardO_pos (cat_mkB (a := putL 32) (b := vb r) (by rw [vb_len]; omega))).trans ?_
  rw [vb_str, show mkB (putL (32 : Int).toNat) ++ mkB (vb r) = mkB (putL 32 ++ vb r) from mkB_app _ _]
  refine bind_of (a := mkB (fzL w c r)) ?_ rfl
  show L_strings_Join 1000 _ = _
  unfold L_strings_Join
  have hj : Lib.join (([⟨#[70]⟩, mkB (putL w.toNat), mkB (putL c.toNat), mkB (putL 32 ++ vb r)] : List ByteArray).map (·.data.toList)) (str0 : ByteArray).data.toList = fzL w c r := by
    simp [Lib.join, fzL, mkB]
  have hb : (Lib.join (([⟨#[70]⟩, mkB (putL w.toNat), mkB (putL c.toNat), mkB (putL 32 ++ vb r)] : List ByteArray).map (·.data.toList)) (str0 : ByteArray).data.toList).length ≤ 140737488355328 := by
    rw [hj]; omega
  refine (guardO_pos ⟨by simp, by simp, hb⟩).trans ?_
  exact congrArg (fun l => some (mkB l)) hj
theorem fz_no {w c : Int} (h : ¬ mayF w c) (r : Vh) : seal_FreezeBytes 1000 (w, c, r) = some (str0, 1) := by
  unfold seal_FreezeBytes
  dsimp only
  by_cases h1 : 0 ≤ w
  · rw [ige_t h1, condO_true]
    by_cases h2 : w ≤ 1125899906842624
    · rw [ile_t h2, Bool.not_true, condO_false]
      by_cases h3 : c = 0
      · rw [ieq_t h3, condO_true]
      · rw [ieq_f h3, condO_false]
        by_cases h4 : 0 ≤ c
        · rw [ige_t h4, condO_true, ile_f (by unfold mayF at h; omega), Bool.not_false, condO_true]
        · rw [ige_f (by omega), condO_false]
    · rw [ile_f (by omega), Bool.not_false, condO_true]
  · rw [ige_f (by omega), condO_false]
theorem rfz_yes {w c : Int} (h : mayF w c) (r : Vh) : ref16_FreezeBytes 1000 (w, c, r) = some (mkB (fzL w c r), 0) := by
  obtain ⟨h1, h2, h3, h4⟩ := h
  have a := put_small (x := w.toNat) (by omega)
  have b := put_small (x := c.toNat) (by omega)
  have d := put_small (x := 32) (by decide)
  unfold ref16_FreezeBytes
  dsimp only
  rw [ilt_f h1, condO_false, igt_f h2, condO_false, ilt_f h3, condO_false, igt_f h4, condO_false]
  refine bind_of (rput_of h1 h2) ?_
  refine (guardO_pos (cat_mkB (a := [70]) (b := putL w.toNat) (by simp; omega))).trans ?_
  rw [show (⟨#[70]⟩ : ByteArray) ++ mkB (putL w.toNat) = mkB ([70] ++ putL w.toNat) from mkB_app [70] _]
  refine bind_of (rput_of (by omega) (by omega)) ?_
  refine (guardO_pos (cat_mkB (b := putL c.toNat) (by simp; omega))).trans ?_
  rw [vb_blen]
  refine bind_of (rput_of (x := 32) (by decide) (by decide)) ?_
  refine (guardO_pos (cat_mkB (a := putL 32) (b := vb r) (by rw [vb_len]; omega))).trans ?_
  rw [vb_str, show mkB (putL (32 : Int).toNat) ++ mkB (vb r) = mkB (putL 32 ++ vb r) from mkB_app _ _, mkB_app]
  refine (guardO_pos (cat_mkB (by simp [vb_len]; omega))).trans ?_
  rw [mkB_app]
  rfl
theorem rfz_no {w c : Int} (h : ¬ mayF w c) (r : Vh) : ref16_FreezeBytes 1000 (w, c, r) = some (str0, 1) := by
  unfold ref16_FreezeBytes
  dsimp only
  by_cases h1 : w < 0
  · rw [ilt_t h1, condO_true]
  · rw [ilt_f (by omega), condO_false]
    by_cases h2 : 1125899906842624 < w
    · rw [igt_t h2, condO_true]
    · rw [igt_f (by omega), condO_false]
      by_cases h3 : c < 1
      · rw [ilt_t h3, condO_true]
      · rw [ilt_f (by omega), condO_false, igt_t (by unfold mayF at h; omega), condO_true]
/-- A freeze's leaf. -/
def lfF (f : Fz) : Vh := hsh ([0] ++ fzL f.1 f.2.1 f.2.2)
theorem leaf_sha {w c : Int} (h : mayF w c) (r : Vh) : sha_Of 1000 ([⟨#[0]⟩, mkB (fzL w c r)], vgl_sha_keys) = some (lfF (w, c, r)) := by
  have hl := fzL_len h r
  have := sha_of [[0], fzL w c r] (by simp) (by simp; omega)
  simpa [lfF] using this
/-! ### peaks -/
inductive Stk : Nat → Nat → List Vh → List Vh → Prop
  | zero (j : Nat) : Stk j 0 [] []
  | even {j k : Nat} {ps l : List Vh} : Stk (j + 1) k ps l → Stk j (2 * k) ps l
  | odd {j k : Nat} {ps l1 l2 : List Vh} : l2.length = 2 ^ j → Stk (j + 1) k ps l1 → Stk j (2 * k + 1) (rt 40 l2 :: ps) (l1 ++ l2)
theorem rt_cat {j : Nat} {l t : List Vh} (h : l.length = 2 ^ j) (h1 : 1 ≤ t.length) (h2 : t.length ≤ 2 ^ j) (hb : l.length + t.length ≤ 512) : rt 40 (l ++ t) = node (rt 40 l) (rt 40 t) := by
  have h0 : 1 ≤ 2 ^ j := Nat.one_le_two_pow
  have hs : sp (l ++ t).length = 2 ^ j := by
    rw [List.length_append]
    exact sp_unique (by omega) (by rw [Nat.pow_succ]; omega)
  rw [rt40_big (by rw [List.length_append]; omega) (by rw [List.length_append]; omega), hs, ← h, List.take_left, List.drop_left]
theorem stk_len {j k : Nat} {ps l : List Vh} (h : Stk j k ps l) : l.length = k * 2 ^ j := by
  induction h with
  | zero j => simp
  | @even j k ps l _ ih => rw [ih, Nat.pow_succ, Nat.mul_comm (2 ^ j) 2, ← Nat.mul_assoc, Nat.mul_comm k 2]
  | @odd j k ps l1 l2 h2 _ ih => rw [List.length_append, ih, h2, Nat.add_mul, Nat.pow_succ, Nat.one_mul, Nat.mul_comm (2 ^ j) 2, ← Nat.mul_assoc, Nat.mul_comm k 2]
theorem stk_fold {j k : Nat} {ps l : List Vh} (h : Stk j k ps l) : ∀ t : List Vh, 1 ≤ t.length → t.length ≤ 2 ^ j → l.length + t.length ≤ 512 → ps.foldl (fun r p => node p r) (rt 40 t) = rt 40 (l ++ t) := by
  induction h with
  | zero j => intro t _ _ _; rw [List.foldl_nil, List.nil_append]
  | even _ ih => intro t h1 h2 h3; exact ih t h1 (by rw [Nat.pow_succ]; omega) h3
  | odd hl _ ih =>
    intro t h1 h2 h3
    rw [List.length_append] at h3
    rw [List.foldl_cons, ← rt_cat hl h1 h2 (by omega), ih _ (by rw [List.length_append]; omega) (by rw [List.length_append, Nat.pow_succ]; omega) (by rw [List.length_append]; omega), List.append_assoc]
theorem stk_root {j k : Nat} {p : Vh} {ps l : List Vh} (h : Stk j k (p :: ps) l) (hb : l.length ≤ 512) : ps.foldl (fun r p => node p r) p = rt 40 l := by
  generalize hq : p :: ps = q at h
  induction h with
  | zero j => cases hq
  | even _ ih => exact ih hb hq
  | @odd j' k' ps' l1 l2 hl hs _ =>
    cases hq
    have h0 : 1 ≤ 2 ^ j' := Nat.one_le_two_pow
    rw [List.length_append] at hb
    exact stk_fold hs l2 (by omega) (by rw [Nat.pow_succ]; omega) hb
theorem clone_vh (l : List Vh) (h : l.length ≤ 900) : slices_Clone 1000 l = some l := by
  have hb : l.length * 32 ≤ 140737488355328 := by omega
  exact guardO_pos hb
theorem stk_ps {j k : Nat} {ps l : List Vh} (h : Stk j k ps l) : ps.length ≤ l.length := by
  induction h with
  | zero j => simp
  | even _ ih => exact ih
  | odd hl _ ih =>
    rename_i j' k' _ _ _ _
    have h0 : 1 ≤ 2 ^ j' := Nat.one_le_two_pow
    rw [List.length_cons, List.length_append]; omega
theorem add_ok (x : Vh) (l pk : List Vh) (n : Nat) (hs : Stk 0 n pk.reverse l) (hb : l.length ≤ 100) :
    ∃ pk', front_Front_Add 1000 (x, (n : Int), vgl_sha_keys, pk) = some (((n + 1 : Nat) : Int), ((n + 1 : Nat) : Int), pk') ∧ Stk 0 (n + 1) pk'.reverse (l ++ [x]) := by
  have hn := stk_len hs
  have hp := stk_ps hs
  rw [List.length_reverse] at hp
  rw [Nat.pow_zero, Nat.mul_one] at hn
  suffices hk : ∃ r, front_Front_Add 1000 (x, (n : Int), vgl_sha_keys, pk) = some r ∧ ∃ pk', r = (((n + 1 : Nat) : Int), ((n + 1 : Nat) : Int), pk') ∧ Stk 0 (n + 1) pk'.reverse (l ++ [x]) by
    obtain ⟨_, h1, pk', rfl, h2⟩ := hk
    exact ⟨pk', h1, h2⟩
  unfold front_Front_Add
  dsimp only
  rw [ige_f (show (n : Int) < 1099511627776 by omega), condO_false, clone_vh pk (by omega), Option.bind_some]
  refine loop_bindE (fun d h => ∃ (j k : Nat) (ps l' blk : List Vh), h = ((k : Int), rt 40 blk, ps.reverse) ∧ blk.length = 2 ^ j ∧ Stk j k ps l' ∧ l' ++ blk = l ++ [x] ∧ k < 2 ^ d ∧ d ≤ 10 ∧ ps.length ≤ 100 ∧ ∀ Q, Stk j (k + 1) Q (l ++ [x]) → Stk 0 (n + 1) Q (l ++ [x])) (fun e : Vh × List Vh => Stk 0 (n + 1) (e.1 :: e.2.reverse) (l ++ [x]) ∧ e.2.length ≤ 100) 10 (by omega)
    ⟨0, n, pk.reverse, l, [x], by rw [rt_small (by simp), List.reverse_reverse]; rfl, rfl, hs, rfl, by show n < 1024; omega, Nat.le_refl 10, by rw [List.length_reverse]; omega, fun Q h => h⟩ ?_ ?_
  · rintro d _ ⟨j, k, ps, l', blk, rfl, h1, h2, h3, h4, h5, h6, h7⟩
    dsimp only
    rw [guardO_pos (show nz 2 by decide)]
    have em : Int.tmod (k : Int) 2 = ((k % 2 : Nat) : Int) := rfl
    rw [em]
    have htot := congrArg List.length h3
    simp only [List.length_append, List.length_singleton] at htot
    cases h2 with
    | zero =>
      rw [ieq_t (by rfl), condO_true]
      refine .out ⟨?_, by simp⟩
      rw [List.reverse_reverse]
      rw [List.nil_append] at h3
      refine h7 _ ?_
      have := Stk.odd (j := j) (k := 0) (l2 := blk) h1 (Stk.zero (j + 1))
      rw [List.nil_append] at this
      rw [← h3]
      exact this
    | even hs' =>
      rename_i k'
      rw [ieq_t (by omega), condO_true]
      refine .out ⟨?_, by simpa using h6⟩
      rw [List.reverse_reverse]
      refine h7 _ ?_
      have := Stk.odd (j := j) (k := k') (l2 := blk) h1 hs'
      rw [h3] at this
      exact this
    | odd hl hs' =>
      rename_i k' ps' l1 l2
      rw [ieq_f (by omega), condO_false]
      have hlen : (rt 40 l2 :: ps').reverse.length = ps'.length + 1 := by simp
      have e1 : WK .i64 (llen (rt 40 l2 :: ps').reverse - 1) = ((ps'.length : Nat) : Int) := by
        have : llen (rt 40 l2 :: ps').reverse = (ps'.length : Int) + 1 := by unfold llen; rw [hlen]; omega
        rw [this, wk_i64 (by omega) (by simp at h6; omega)]; omega
      have e2 : at_ TV (rt 40 l2 :: ps').reverse ((ps'.length : Nat) : Int) = rt 40 l2 := by
        rw [at_nat (t := TV) (by rw [hlen]; omega)]
        simp
      have e3 : (rt 40 l2 :: ps').reverse.take ps'.length = ps'.reverse := by
        rw [List.reverse_cons, List.take_left' (by simp)]
      obtain ⟨d, rfl⟩ : ∃ d', d = d' + 1 := by
        cases d with
        | zero => rw [Nat.pow_zero] at h4; omega
        | succ d => exact ⟨d, rfl⟩
      have ek : WK .i64 (Int.tdiv ((2 * k' + 1 : Nat) : Int) 2) = (k' : Int) := by
        show WK .i64 (((2 * k' + 1) / 2 : Nat) : Int) = _
        rw [show (2 * k' + 1) / 2 = k' by omega]
        have : 2 ^ (d + 1) ≤ 2 ^ 10 := Nat.pow_le_pow_right (by omega) h5
        exact wk_nat (by omega)
      have hpw : 2 ^ (d + 1) = 2 * 2 ^ d := by rw [Nat.pow_succ, Nat.mul_comm]
      rw [e1, e2, guardO_pos ⟨by omega, by unfold llen; rw [hlen]; omega⟩, guardO_pos (node_cat1 _), guardO_pos (node_cat2 _ _), node_sha, Option.bind_some]
      rw [guardO_pos (show tkOk _ _ from ⟨by omega, by unfold llen; rw [hlen]; omega⟩), guardO_pos (show nz 2 by decide), ltake_nat, e3, ek]
      simp only [List.length_append] at htot
      have hj0 : 1 ≤ 2 ^ j := Nat.one_le_two_pow
      refine .on d (by omega) ⟨j + 1, k', ps', l1, l2 ++ blk, ?_, by rw [List.length_append, hl, h1, Nat.pow_succ]; omega, hs', by rw [← List.append_assoc]; exact h3, by omega, by omega, by simp at h6; omega, fun Q hQ => h7 Q (by have := Stk.even hQ; rw [show 2 * (k' + 1) = 2 * k' + 1 + 1 by omega] at this; exact this)⟩
      rw [rt_cat hl (by omega) (by omega) (by omega)]
  · rintro ⟨y, ps⟩ ⟨h1, h2⟩
    dsimp only at h1 h2 ⊢
    have e1 : WK .i64 ((n : Int) + 1) = ((n + 1 : Nat) : Int) := by rw [wk_i64 (by omega) (by omega)]; omega
    refine ⟨_, (guardO_pos (show appOk ps [y] 32 by unfold appOk; simp; omega)).trans rfl, ps ++ [y], ?_, ?_⟩
    · rw [e1]
    · rw [List.reverse_append]; exact h1
end Go.Proofs.YtegnhljcpdpdpaaGreatDoor
/- The document's sums with a key. No condition. -/
set_option linter.unusedVariables false
set_option linter.unusedSimpArgs false
namespace Go.Proofs.YtegnhljcpdpdpaaGreatDoor
open Go
def pdL (key : List UInt8) : List UInt8 := key ++ List.replicate (64 - key.length) 0
theorem pdL_len {key : List UInt8} (h : key.length ≤ 64) : (pdL key).length = 64 := by
  unfold pdL; rw [List.length_append, List.length_replicate]; omega
theorem blen_mkB' (l : List UInt8) : blen (mkB l) = (l.length : Int) := by
  show ((mkB l).size : Int) = _
  rw [mkB_size]
theorem rpad_ok (key : List UInt8) (h : key.length ≤ 64) : ref03_Pad 1000 (mkB key) = some (mkB (pdL key)) := by
  unfold ref03_Pad
  refine bind_of (a := mkB key) ((congrArg (condO · _ _) (igt_f (show blen (mkB key) ≤ 64 by rw [blen_mkB']; omega))).trans (condO_false _ _)) ?_
  refine bind_of (loopK_run (fun i : Nat => mkB (key ++ List.replicate i 0)) (64 - key.length) (mkB (pdL key)) 1000 (fun i hi => ?_) ?_ (by omega) |> fun h => (by simpa using h)) rfl
  · have hl : (key ++ List.replicate i (0 : UInt8)).length = key.length + i := by simp
    have e : mkB (key ++ List.replicate i 0) ++ ⟨#[0]⟩ = mkB (key ++ List.replicate (i + 1) 0) := by
      rw [show (⟨#[0]⟩ : ByteArray) = mkB [0] from rfl, mkB_app, List.append_assoc, List.replicate_succ']
    rw [ilt_t (show blen (mkB (key ++ List.replicate i 0)) < 64 by rw [blen_mkB', hl]; omega), condO_true, guardO_pos (cat_mkB (b := [0]) (by simp; omega)), e]
  · rw [ilt_f (show 64 ≤ blen (mkB (key ++ List.replicate (64 - key.length) 0)) by rw [blen_mkB']; simp; omega), condO_false]
    rfl
def xb (c : Int) (b : UInt8) : Int := xorK .u8 (b.toNat : Int) c
def xorL (l : List UInt8) (c : Int) : List UInt8 := l.map fun b => UInt8.ofNat (xb c b).toNat
theorem xorL_len (l : List UInt8) (c : Int) : (xorL l c).length = l.length := by simp [xorL]
theorem rxor_ok (l : List UInt8) (c : Int) (h : l.length ≤ 900) : ref03_xor 1000 (mkB l, c) = some (mkB (xorL l c)) := by
  unfold ref03_xor
  dsimp only
  rw [blen_mkB', guardO_pos (show mkOk (l.length : Int) (l.length : Int) 1 from ⟨by omega, rfl, by rw [Int.toNat_natCast]; omega, by omega⟩)]
  refine bind_of (loopK_run (fun i : Nat => ((i : Int), (l.take i).map (xb c) ++ List.replicate (l.length - i) 0)) l.length (l.map (xb c)) 1000 (fun i hi => ?_) ?_ (by omega) |> fun h => (by simpa [lrep] using h)) ?_
  · dsimp only
    have e1 : sAt (mkB l) (i : Int) = (l[i].toNat : Int) := by
      rw [sAt_mkB, Int.toNat_natCast, List.getD_eq_getElem?_getD, List.getElem?_eq_getElem hi]; rfl
    have hln : ((l.take i).map (xb c) ++ List.replicate (l.length - i) 0).length = l.length := by simp; omega
    rw [ilt_t (by omega), condO_true, guardO_pos ⟨by omega, by omega⟩, guardO_pos ⟨by omega, by unfold llen; omega⟩, e1, wk_i64 (by omega) (by omega)]
    have e2 : lset ((l.take i).map (xb c) ++ List.replicate (l.length - i) 0) (i : Int) (xorK .u8 (l[i].toNat : Int) c) = (l.take (i + 1)).map (xb c) ++ List.replicate (l.length - (i + 1)) 0 := by
      unfold lset
      rw [Int.toNat_natCast, List.set_append_right _ _ (by simp; omega)]
      have e3 : i - ((l.take i).map (xb c)).length = 0 := by simp; omega
      rw [e3, show l.length - i = (l.length - (i + 1)) + 1 by omega, List.replicate_succ, List.set_cons_zero, List.take_add_one, List.getElem?_eq_getElem hi, List.map_append]
      simp [xb]
    rw [e2]
    rfl
  · dsimp only
    rw [ilt_f (by omega), condO_false]
    simp
  · show some (strOfNums (l.map (xb c))) = _
    rw [nums_mkB, List.map_map]
    rfl
def macL (key t : List UInt8) : Vh := hsh (xorL (pdL key) 92 ++ vb (hsh (xorL (pdL key) 54 ++ t)))
theorem rmac_ok (key t : List UInt8) (hk : key.length ≤ 64) (ht : t.length ≤ 40000) : ref03_Of 1000 (mkB key, mkB t) = some (macL key t) := by
  have hp := pdL_len hk
  have hx := fun c => xorL_len (pdL key) c
  unfold ref03_Of
  dsimp only
  refine bind_of (rpad_ok key hk) (bind_of (rxor_ok _ _ (by omega)) ?_)
  refine (guardO_pos (cat_mkB (by rw [hx, hp]; omega))).trans ?_
  rw [mkB_app]
  refine bind_of (ref_of _ (by rw [List.length_append, hx, hp]; omega)) (bind_of (rxor_ok _ _ (by omega)) ?_)
  rw [vb_str]
  refine (guardO_pos (cat_mkB (by rw [hx, hp, vb_len]; omega))).trans ?_
  rw [mkB_app]
  exact bind_of (ref_of _ (by rw [List.length_append, hx, hp, vb_len]; omega)) rfl
end Go.Proofs.YtegnhljcpdpdpaaGreatDoor
/- Shards: records, their leaves, the front. No condition. -/
set_option linter.unusedVariables false
set_option linter.unusedSimpArgs false
namespace Go.Proofs.YtegnhljcpdpdpaaGreatDoor
open Go
def nodeStep (h p : Vh) : Option Vh := guardO ((catOk ⟨#[1]⟩ (strOfNums (Vector.toList p)))) (guardO ((catOk (⟨#[1]⟩ ++ (strOfNums (Vector.toList p))) (strOfNums (Vector.toList h)))) ((sha_Of 1000 (([((⟨#[1]⟩ ++ (strOfNums (Vector.toList p))) ++ (strOfNums (Vector.toList h)))] : List ByteArray), vgl_sha_keys)).bind fun r1 => some (r1)))
theorem nodeStep_ok (h p : Vh) : nodeStep h p = some (node p h) := by
  unfold nodeStep
  rw [guardO_pos (node_cat1 _), guardO_pos (node_cat2 _ _), node_sha, Option.bind_some]
theorem fold_node : ∀ (l : List Vh) (r : Vh), foldL l nodeStep r = some (l.foldl (fun r p => node p r) r)
  | [], r => by simp [foldL]
  | p :: l, r => by
    simp only [foldL]
    rw [nodeStep_ok, Option.bind_some, fold_node l, List.foldl_cons]
theorem stk_nil : ∀ {j k : Nat} {ps l : List Vh}, Stk j k ps l → ps = [] → k = 0 := by
  intro j k ps l h
  induction h with
  | zero j => intro _; rfl
  | even _ ih => intro e; rw [ih e]
  | odd _ _ _ => intro e; cases e
/-- The front's root, of any list of leaves. -/
theorem froot_all {lv pk : List Vh} (hs : Stk 0 lv.length pk.reverse lv) (hb : lv.length ≤ 500) : front_Front_Root 1000 ((lv.length : Int), vgl_sha_keys, pk) = some (rt 40 lv) := by
  unfold front_Front_Root
  dsimp only
  by_cases h0 : lv.length = 0
  · have : lv = [] := List.eq_nil_of_length_eq_zero h0
    subst this
    rw [ieq_t (show (([] : List Vh).length : Int) = 0 from rfl), condO_true]
    have := sha_of [] (by simp) (by simp)
    refine bind_of (sha_of [] (by simp) (by simp)) ?_
    rw [rt_small (by simp)]; rfl
  · have hps := stk_ps hs
    rw [List.length_reverse] at hps
    obtain ⟨p, ps, hpk⟩ : ∃ p ps, pk.reverse = p :: ps := by
      cases hq : pk.reverse with
      | nil =>
        rw [hq] at hs
        have := stk_nil hs rfl
        omega
      | cons p ps => exact ⟨p, ps, rfl⟩
    rw [hpk] at hs
    have hroot := stk_root hs (by omega)
    have hpk2 : pk = ps.reverse ++ [p] := by
      have := congrArg List.reverse hpk
      simpa using this
    have hpl : pk.length = ps.length + 1 := by rw [hpk2]; simp
    have e1 : WK .i64 (llen pk - 1) = ((ps.length : Nat) : Int) := by
      rw [wk_i64 (by unfold llen; omega) (by unfold llen; omega)]
      unfold llen; omega
    have e2 : at_ TV pk ((ps.length : Nat) : Int) = p := by
      rw [at_nat (t := TV) (by omega)]
      simp [hpk2]
    have e3 : pk.take ps.length = ps.reverse := by rw [hpk2, List.take_left' (by simp)]
    rw [ieq_f (show (lv.length : Int) ≠ 0 by omega), condO_false, e1, guardO_pos ⟨by omega, by unfold llen; omega⟩, guardO_pos ⟨by omega, by omega, by unfold llen; omega, rfl⟩, ltake_nat, e3, e2]
    have hf : foldL (backL ps.reverse) (fun h q => nodeStep h q.2) p = some (rt 40 lv) := by
      rw [foldL_back, fold_node, List.reverse_reverse, hroot]
    exact bind_of hf (Eq.refl (some (rt 40 lv)))
/-! ### records -/
abbrev Rec := Int × Int × Int × ByteArray
abbrev TR : Ty := .pair (.int .i64) (.pair (.int .i64) (.pair (.int .i64) .str))
def mayR (w i t : Int) (p : ByteArray) : Prop := (0 ≤ w ∧ w ≤ 1125899906842624) ∧ (0 ≤ t ∧ t ≤ 1125899906842624) ∧ (0 ≤ i ∧ i ≤ 3999) ∧ p.size ≤ 2000
def recL (r : Rec) : List UInt8 := (putL r.1.toNat ++ putL r.2.1.toNat) ++ (putL r.2.2.1.toNat ++ (putL r.2.2.2.size ++ r.2.2.2.data.toList))
theorem mkB_bytes (p : ByteArray) : mkB p.data.toList = p := by
  apply bytes_ext
  rfl
theorem bytes_len (p : ByteArray) : p.data.toList.length = p.size := by simp
theorem recL_len {w i t : Int} {p : ByteArray} (h : mayR w i t p) : (recL (w, i, t, p)).length ≤ 2040 := by
  obtain ⟨⟨h1, h2⟩, ⟨h3, h4⟩, ⟨h5, h6⟩, h7⟩ := h
  have a := put_small (x := w.toNat) (by omega)
  have b := put_small (x := i.toNat) (by omega)
  have c := put_small (x := t.toNat) (by omega)
  have d := put_small (x := p.size) (by omega)
  unfold recL
  simp only [List.length_append, bytes_len]
  omega
theorem check_yes {w i t : Int} {p : ByteArray} (h : mayR w i t p) : record_Check 1000 (w, i, t, p) = some 0 := by
  obtain ⟨⟨h1, h2⟩, ⟨h3, h4⟩, ⟨h5, h6⟩, h7⟩ := h
  unfold record_Check
  dsimp only
  rw [ige_t h1, condO_true, ile_t h2, Bool.not_true, condO_false, ige_t h3, condO_true, ile_t h4, Bool.not_true, condO_false, ige_t h5, condO_true, ile_t h6, Bool.not_true, condO_false, igt_f (show blen p ≤ 2000 by show ((p.size : Nat) : Int) ≤ 2000; omega), condO_false]
theorem rec_bytes {w i t : Int} {p : ByteArray} (h : mayR w i t p) : record_Bytes 1000 (w, i, t, p) = some (mkB (recL (w, i, t, p)), 0) := by
  have hc := check_yes h
  have hl := recL_len h
  obtain ⟨⟨h1, h2⟩, ⟨h3, h4⟩, ⟨h5, h6⟩, h7⟩ := h
  unfold recL at hl ⊢
  simp only [List.length_append, bytes_len] at hl
  unfold record_Bytes
  dsimp only
  refine bind_of hc ?_
  rw [ine_f (rfl : (0 : Int) = 0), condO_false]
  have e4 : octet_Put 1000 (WK .u64 (blen p)) = some (mkB (putL p.size)) := put_of (x := (p.size : Int)) (by omega) (by omega)
  refine bind_of (put_of h1 h2) (bind_of (put_of h5 (by omega)) ?_)
  refine (guardO_pos (cat_mkB (by omega))).trans ?_
  refine bind_of (put_of h3 h4) (bind_of e4 ?_)
  have hp := mkB_bytes p
  obtain ⟨pl, hpl⟩ : ∃ pl, pl = p.data.toList := ⟨_, rfl⟩
  have hpn : pl.length = p.size := by rw [hpl]; exact bytes_len p
  rw [← hpl] at hp ⊢
  rw [← hp]
  refine (guardO_pos (cat_mkB (by rw [hpn, hp]; omega))).trans ?_
  rw [mkB_app]
  refine (guardO_pos (cat_mkB (by rw [List.length_append, hpn, hp]; omega))).trans ?_
  rw [mkB_app, mkB_app]
  refine (guardO_pos (cat_mkB (by simp only [List.length_append]; rw [hpn, hp]; omega))).trans ?_
  rw [mkB_app]
/-- A record's leaf. -/
def lfR (r : Rec) : Vh := hsh ([0] ++ recL r)
theorem rleaf_sha {w i t : Int} {p : ByteArray} (h : mayR w i t p) : sha_Of 1000 ([⟨#[0]⟩, mkB (recL (w, i, t, p))], vgl_sha_keys) = some (lfR (w, i, t, p)) := by
  have hl := recL_len h
  have := sha_of [[0], recL (w, i, t, p)] (by simp) (by simp; omega)
  simpa [lfR] using this
theorem put17 {w i t : Int} {p : ByteArray} (h : mayR w i t p) {lv pk : List Vh} {rows : List Rec} (s : Int) (a b : Int) (c : Vh) (d : Int) (e : Vh) (hs : Stk 0 lv.length pk.reverse lv) (hb : lv.length ≤ 60) (hr : rows.length ≤ 60) :
    ∃ pk', shard_Shard_put 1000 (w, i, t, p, w, s, a, b, c, d, e, vgl_sha_keys, lv, rows, (lv.length : Int), pk) = some (w, s, a, b, c, d, e, ((lv.length + 1 : Nat) : Int), lv ++ [lfR (w, i, t, p)], rows ++ [(w, i, t, p)], pk') ∧ Stk 0 (lv.length + 1) pk'.reverse (lv ++ [lfR (w, i, t, p)]) := by
  obtain ⟨pk', h1, h2⟩ := add_ok (lfR (w, i, t, p)) lv pk lv.length hs (by omega)
  refine ⟨pk', ?_, h2⟩
  unfold shard_Shard_put
  dsimp only
  refine bind_of (rec_bytes h) (bind_of (rleaf_sha h) ?_)
  have e1 : ltake (llen lv) lv = lv := by unfold llen; rw [ltake_nat, List.take_length]
  have e2 : ltake (llen rows) rows = rows := by unfold llen; rw [ltake_nat, List.take_length]
  rw [e1, e2, guardO_pos ⟨by omega, by unfold llen; omega, by unfold llen; omega, by unfold llen; omega⟩, guardO_pos (show appOk _ _ _ from by unfold appOk; simp; omega), guardO_pos ⟨by omega, by unfold llen; omega, by unfold llen; omega, by unfold llen; omega⟩, guardO_pos (show appOk _ _ _ from by unfold appOk; simp; omega)]
  exact bind_of h1 rfl
/-- One more record. -/
theorem add17 {w t : Int} {p : ByteArray} {lv pk : List Vh} {rows : List Rec} (h : mayR w (lv.length : Int) t p) (a b : Int) (c : Vh) (d : Int) (e : Vh) (hs : Stk 0 lv.length pk.reverse lv) (hb : lv.length ≤ 60) (hr : rows.length ≤ 60) :
    ∃ pk', shard_Shard_Add 1000 (t, p, w, 0, a, b, c, d, e, vgl_sha_keys, lv, rows, (lv.length : Int), pk) = some ((lv.length : Int), 0, w, 0, a, b, c, d, e, ((lv.length + 1 : Nat) : Int), lv ++ [lfR (w, (lv.length : Int), t, p)], rows ++ [(w, (lv.length : Int), t, p)], pk') ∧ Stk 0 (lv.length + 1) pk'.reverse (lv ++ [lfR (w, (lv.length : Int), t, p)]) := by
  obtain ⟨pk', h1, h2⟩ := put17 h 0 a b c d e hs hb hr
  refine ⟨pk', ?_, h2⟩
  unfold shard_Shard_Add
  dsimp only
  rw [ine_f (rfl : (0 : Int) = 0), condO_false, ige_f (show llen lv < 4000 by unfold llen; omega), condO_false]
  refine bind_of (check_yes h) ?_
  rw [ine_f (rfl : (0 : Int) = 0), condO_false]
  exact bind_of h1 rfl
/-- A record that is there. -/
theorem get_yes {i : Nat} {w s : Int} {lv pk : List Vh} {rows : List Rec} {n : Int} (a b : Int) (c : Vh) (d : Int) (e : Vh) (hi : i < lv.length) (hr : lv.length ≤ rows.length) (hs : s ≠ 2) :
    shard_Shard_Get 1000 ((i : Int), w, s, a, b, c, d, e, lv, rows, n, pk) = some ((rows[i]'(by omega)).1, (rows[i]'(by omega)).2.1, (rows[i]'(by omega)).2.2.1, (rows[i]'(by omega)).2.2.2, 0) := by
  unfold shard_Shard_Get
  dsimp only
  have e1 : at_ TR rows (i : Int) = rows[i]'(by omega) := at_nat (t := TR) (by omega)
  rw [ige_t (by omega), condO_true, ilt_t (show (i : Int) < llen lv by unfold llen; omega), Bool.not_true, condO_false, ieq_f hs, condO_false, guardO_pos ⟨by omega, by unfold llen; omega⟩]
  rw [show at_ T5 rows (i : Int) = rows[i]'(by omega) from e1]
theorem get_pruned {i : Int} {w : Int} {lv pk : List Vh} {rows : List Rec} {n : Int} (a b : Int) (c : Vh) (d : Int) (e : Vh) (h0 : 0 ≤ i) (hi : i < (lv.length : Int)) :
    shard_Shard_Get 1000 (i, w, 2, a, b, c, d, e, lv, rows, n, pk) = some (0, 0, 0, str0, 20) := by
  unfold shard_Shard_Get
  dsimp only
  rw [ige_t h0, condO_true, ilt_t (show i < llen lv from hi), Bool.not_true, condO_false, ieq_t rfl, condO_true]
theorem clone_rec (l : List Rec) (h : l.length ≤ 900) : slices_Clone_2 1000 l = some l := by
  have hb : l.length * 40 ≤ 140737488355328 := by omega
  exact guardO_pos hb
/-! ### what has grown -/
abbrev Opn := Int × Int × Int × ByteArray
def cut60 (p : ByteArray) : ByteArray := if 60 < p.size then scut p 0 60 else p
theorem cut60_size (p : ByteArray) : (cut60 p).size ≤ 60 := by
  unfold cut60
  split
  · unfold scut
    simp [ByteArray.size_extract]
    omega
  · omega
theorem short_ok (p : ByteArray) : law17_short 1000 (p, 60) = some (cut60 p) := by
  unfold law17_short cut60
  dsimp only
  by_cases c : 60 < p.size
  · rw [if_pos c, igt_t (show (60 : Int) < blen p by show (60 : Int) < ((p.size : Nat) : Int); omega), condO_true, guardO_pos (show cutOk 0 60 (blen p) from ⟨by omega, by omega, by show (60 : Int) ≤ ((p.size : Nat) : Int); omega⟩)]
  · rw [if_neg c, igt_f (show blen p ≤ 60 by show ((p.size : Nat) : Int) ≤ 60; omega), condO_false]
def recsOf (w : Int) (l : List Opn) : List Rec := l.zipIdx.map fun o => (w, ((o.2 : Nat) : Int), andK .i64 o.1.2.1 1023, cut60 o.1.2.2.2)
theorem recs_len (w : Int) (l : List Opn) : (recsOf w l).length = l.length := by simp [recsOf]
theorem recs_get (w : Int) (l : List Opn) (i : Nat) (h : i < l.length) : (recsOf w l)[i]'(by rw [recs_len]; exact h) = (w, (i : Int), andK .i64 l[i].2.1 1023, cut60 l[i].2.2.2) := by
  simp [recsOf]
theorem recs_take (w : Int) (l : List Opn) (i : Nat) (h : i < l.length) : (recsOf w l).take (i + 1) = (recsOf w l).take i ++ [(w, (i : Int), andK .i64 l[i].2.1 1023, cut60 l[i].2.2.2)] := by
  rw [List.take_add_one, List.getElem?_eq_getElem (by rw [recs_len]; exact h), recs_get w l i h]
  rfl
theorem may_op {w : Int} (hw : 0 ≤ w ∧ w ≤ 1023) {i : Nat} (hi : i ≤ 60) (o : Opn) : mayR w (i : Int) (andK .i64 o.2.1 1023) (cut60 o.2.2.2) := by
  have h1 : 0 ≤ andK .i64 o.2.1 1023 ∧ andK .i64 o.2.1 1023 ≤ 1023 := and_bound o.2.1 1023 (by omega)
  have h2 := cut60_size o.2.2.2
  exact ⟨⟨hw.1, by omega⟩, ⟨h1.1, by have := h1.2; omega⟩, ⟨by omega, by omega⟩, by omega⟩
abbrev z32 : Vh := Vector.replicate 32 0
end Go.Proofs.YtegnhljcpdpdpaaGreatDoor
/- Shards: closing, pruning, stripping; stones. No condition. -/
set_option linter.unusedVariables false
set_option linter.unusedSimpArgs false
namespace Go.Proofs.YtegnhljcpdpdpaaGreatDoor
open Go
def stoneL (w c : Int) (r : Vh) (t : Int) : List UInt8 := ([84] ++ (putL (fzL w c r).length ++ fzL w c r)) ++ putL t.toNat
theorem stoneL_len {w c : Int} (h : mayF w c) (r : Vh) {t : Int} (h0 : 0 ≤ t) (h1 : t ≤ 1125899906842624) : (stoneL w c r t).length ≤ 100 := by
  have a := fzL_len h r
  have b := put_small (x := t.toNat) (by omega)
  have d := put_small (x := (fzL w c r).length) (by omega)
  unfold stoneL
  simp only [List.length_append, List.length_cons, List.length_nil]
  omega
theorem rsays_ok {w c : Int} (h : mayF w c) (r : Vh) {t : Int} (h0 : 0 ≤ t) (h1 : t ≤ 1125899906842624) (m : Vh) : ref16_stoneSays 1000 (w, c, r, t, m) = some (mkB (stoneL w c r t), true) := by
  have a := fzL_len h r
  have b := put_small (x := t.toNat) (by omega)
  have d := put_small (x := (fzL w c r).length) (by omega)
  unfold ref16_stoneSays
  refine bind_of (rfz_yes h r) ?_
  dsimp only
  rw [ine_f rfl, condO_false, ilt_f h0, condO_false, igt_f h1, condO_false]
  have e1 : ref01_Put 1000 (WK .u64 (blen (mkB (fzL w c r)))) = some (mkB (putL (fzL w c r).length)) := by
    rw [blen_mkB']
    exact rput_of (x := ((fzL w c r).length : Int)) (by omega) (by omega)
  refine bind_of e1 ?_
  rw [guardO_pos (cat_mkB (by omega)), mkB_app, guardO_pos (cat_mkB (a := [84]) (by simp; omega)), show (⟨#[84]⟩ : ByteArray) ++ mkB (putL (fzL w c r).length ++ fzL w c r) = mkB ([84] ++ (putL (fzL w c r).length ++ fzL w c r)) from mkB_app [84] _]
  refine bind_of (rput_of h0 h1) ?_
  rw [guardO_pos (cat_mkB (by simp; omega)), mkB_app]
  rfl
theorem stone_ok {w c : Int} (h : mayF w c) (r : Vh) {t : Int} (h0 : 0 ≤ t) (h1 : t ≤ 1125899906842624) (key : List UInt8) (hk : key.length ≤ 64) : ref16_Stone 1000 (mkB key, w, c, r, t) = some (w, c, r, t, macL key (stoneL w c r t)) := by
  unfold ref16_Stone
  refine bind_of (rsays_ok h r h0 h1 _) ?_
  refine bind_of (a := (w, c, r, t, macL key (stoneL w c r t))) ?_ rfl
  refine (condO_true _ _).trans ?_
  have hl := stoneL_len h r h0 h1
  exact bind_of (rmac_ok key _ hk (by omega)) rfl
theorem psays_ok {w c : Int} (h : mayF w c) (r : Vh) {t : Int} (h0 : 0 ≤ t) (h1 : t ≤ 1125899906842624) (m : Vh) : seal_stoneSays 1000 (w, c, r, t, m) = some (mkB (stoneL w c r t), 0) := by
  have a := fzL_len h r
  have b := put_small (x := t.toNat) (by omega)
  have d := put_small (x := (fzL w c r).length) (by omega)
  have hl := stoneL_len h r h0 h1
  unfold seal_stoneSays
  refine bind_of (fz_yes h r) ?_
  dsimp only
  rw [ine_f rfl, condO_false, ige_t h0, condO_true, ile_t h1, Bool.not_true, condO_false]
  have e1 : octet_Put 1000 (WK .u64 (blen (mkB (fzL w c r)))) = some (mkB (putL (fzL w c r).length)) := by
    rw [blen_mkB']
    exact put_of (x := ((fzL w c r).length : Int)) (by omega) (by omega)
  refine bind_of e1 ?_
  rw [guardO_pos (cat_mkB (by omega)), mkB_app]
  refine bind_of (put_of h0 h1) ?_
  refine bind_of (a := mkB (stoneL w c r t)) ?_ rfl
  show L_strings_Join 1000 _ = _
  unfold L_strings_Join
  have hj : Lib.join (([⟨#[84]⟩, mkB (putL (fzL w c r).length ++ fzL w c r), mkB (putL t.toNat)] : List ByteArray).map (·.data.toList)) (str0 : ByteArray).data.toList = stoneL w c r t := by
    simp [Lib.join, stoneL, mkB]
  have hb : (Lib.join (([⟨#[84]⟩, mkB (putL (fzL w c r).length ++ fzL w c r), mkB (putL t.toNat)] : List ByteArray).map (·.data.toList)) (str0 : ByteArray).data.toList).length ≤ 140737488355328 := by
    rw [hj]; omega
  refine (guardO_pos ⟨by simp, by simp, hb⟩).trans ?_
  exact congrArg (fun l => some (mkB l)) hj
theorem pbytes_ok {w c : Int} (h : mayF w c) (r : Vh) {t : Int} (h0 : 0 ≤ t) (h1 : t ≤ 1125899906842624) (m : Vh) : seal_StoneBytes 1000 (w, c, r, t, m) = some (mkB (stoneL w c r t ++ (putL 32 ++ vb m)), 0) := by
  have hl := stoneL_len h r h0 h1
  have d := put_small (x := 32) (by decide)
  unfold seal_StoneBytes
  refine bind_of (psays_ok h r h0 h1 m) ?_
  dsimp only
  rw [ine_f rfl, condO_false, vb_blen]
  refine bind_of (put_of (x := 32) (by decide) (by decide)) ?_
  refine (guardO_pos (cat_mkB (a := putL 32) (b := vb m) (by rw [vb_len]; omega))).trans ?_
  rw [vb_str, show mkB (putL (32 : Int).toNat) ++ mkB (vb m) = mkB (putL 32 ++ vb m) from mkB_app _ _]
  refine bind_of (a := mkB (stoneL w c r t ++ (putL 32 ++ vb m))) ?_ rfl
  show L_strings_Join 1000 _ = _
  unfold L_strings_Join
  have hj : Lib.join (([mkB (stoneL w c r t), mkB (putL 32 ++ vb m)] : List ByteArray).map (·.data.toList)) (str0 : ByteArray).data.toList = stoneL w c r t ++ (putL 32 ++ vb m) := by
    simp [Lib.join, mkB]
  have hb : (Lib.join (([mkB (stoneL w c r t), mkB (putL 32 ++ vb m)] : List ByteArray).map (·.data.toList)) (str0 : ByteArray).data.toList).length ≤ 140737488355328 := by
    rw [hj]; simp only [List.length_append, vb_len]; omega
  refine (guardO_pos ⟨by simp, by simp, hb⟩).trans ?_
  exact congrArg (fun l => some (mkB l)) hj
theorem strip_open {k w s : Int} {lv pk : List Vh} {rows : List Rec} {n : Int} (a b : Int) (c : Vh) (d : Int) (e : Vh) (hs : s ≠ 2) : shard_Shard_Strip 1000 (k, w, s, a, b, c, d, e, lv, rows, n, pk) = some ((rows.length : Int), w, s, a, b, c, d, e, lv, rows) := by
  unfold shard_Shard_Strip
  refine bind_of ((congrArg (condO · _ _) (ieq_f hs)).trans (condO_false _ _)) rfl
/-- So many are stripped. -/
def cutN (k : Int) (n : Nat) : Nat := min k.toNat n
theorem strip_pruned {k w : Int} {lv pk : List Vh} {rows : List Rec} {n : Int} (a b : Int) (c : Vh) (d : Int) (e : Vh) (hr : rows.length ≤ 900) : shard_Shard_Strip 1000 (k, w, 2, a, b, c, d, e, lv, rows, n, pk) = some (((rows.length - cutN k rows.length : Nat) : Int), w, 2, a, b, c, d, e, lv, rows.take (rows.length - cutN k rows.length)) := by
  unfold shard_Shard_Strip
  dsimp only
  have e1 : mnI (mxI k 0) (llen rows) = ((cutN k rows.length : Nat) : Int) := by
    unfold mnI mxI cutN llen
    split <;> split <;> omega
  have hc : cutN k rows.length ≤ rows.length := Nat.min_le_right ..
  have e2 : WK .i64 (llen rows - mnI (mxI k 0) (llen rows)) = ((rows.length - cutN k rows.length : Nat) : Int) := by
    rw [e1, wk_i64 (by unfold llen; omega) (by unfold llen; omega)]; unfold llen; omega
  rw [e2]
  refine bind_of (a := (w, 2, a, b, c, d, e, lv, rows.take (rows.length - cutN k rows.length))) ((congrArg (condO · _ _) (ieq_t rfl)).trans ((condO_true _ _).trans ((guardO_pos ⟨by omega, by omega, by unfold llen; omega, by omega⟩).trans ?_))) ?_
  · rw [ltake_nat]
    exact bind_of (clone_rec _ (by rw [List.length_take]; omega)) rfl
  · dsimp only
    unfold llen
    rw [List.length_take, Nat.min_eq_left (by omega)]
theorem says_ok {w s : Int} {lv pk : List Vh} {rows : List Rec} (a b : Int) (c : Vh) (d : Int) (e : Vh) (hst : Stk 0 lv.length pk.reverse lv) (hb : lv.length ≤ 500) : shard_Shard_says 1000 (w, s, a, b, c, d, e, vgl_sha_keys, lv, rows, (lv.length : Int), pk) = some (w, (lv.length : Int), rt 40 lv) := by
  unfold shard_Shard_says
  exact bind_of (froot_all hst hb) rfl
theorem close_ok {w : Int} {lv pk : List Vh} {rows : List Rec} (a b : Int) (c : Vh) (d : Int) (e : Vh) (hst : Stk 0 lv.length pk.reverse lv) (hb : lv.length ≤ 500) (h0 : 1 ≤ lv.length) : shard_Shard_Close 1000 (w, 0, a, b, c, d, e, vgl_sha_keys, lv, rows, (lv.length : Int), pk) = some (w, (lv.length : Int), rt 40 lv, 0, w, 1, a, b, c, d, e, lv, rows) := by
  unfold shard_Shard_Close
  dsimp only
  rw [ine_f rfl, condO_false, ieq_f (show llen lv ≠ 0 by unfold llen; omega), condO_false]
  exact bind_of (says_ok a b c d e hst hb) rfl
theorem prune_ok {w t : Int} {m : Vh} {lv pk : List Vh} {rows : List Rec} (a b : Int) (c : Vh) (d : Int) (e : Vh) (hst : Stk 0 lv.length pk.reverse lv) (hb : lv.length ≤ 500) (hF : mayF w (lv.length : Int)) (h0 : 0 ≤ t) (h1 : t ≤ 1125899906842624) :
    shard_Shard_Prune 1000 (w, (lv.length : Int), rt 40 lv, t, m, w, 1, a, b, c, d, e, vgl_sha_keys, lv, rows, (lv.length : Int), pk) = some (0, w, 2, w, (lv.length : Int), rt 40 lv, t, m, lv, rows) := by
  unfold shard_Shard_Prune
  dsimp only
  rw [ine_f rfl, condO_false]
  refine bind_of (pbytes_ok hF _ h0 h1 m) ?_
  dsimp only
  rw [ine_f rfl, condO_false]
  refine bind_of (says_ok a b c d e hst hb) ?_
  dsimp only
  rw [sameI_self, ieq_t rfl, ieq_t rfl]
  rfl
theorem rsame_rec (l : List Rec) (h : l.length ≤ 900) : ref15_Same 1000 (l, l) = some true := by
  unfold ref15_Same
  dsimp only
  rw [ine_f rfl, condO_false]
  refine bind_of (a := (Sum.inr () : Bool ⊕ Unit)) ?_ rfl
  refine loopK_run (fun i : Nat => (i : Int)) l.length _ 1000 (fun i hi => ?_) ?_ (by omega)
  · have hi' : (i : Int) < llen l := by unfold llen; omega
    rw [ilt_t hi', condO_true, guardO_pos ⟨by omega, hi'⟩, guardO_pos ⟨by omega, hi'⟩, wk_i64 (by omega) (by omega), ieq_t rfl, ieq_t rfl, ieq_t rfl, sEq_self]
    rfl
  · rw [ilt_f (show llen l ≤ (l.length : Int) by unfold llen; omega), condO_false]
theorem awake_ok : law17_awake 1000 vgl_sha_keys = some true := by kernel_rfl
end Go.Proofs.YtegnhljcpdpdpaaGreatDoor
/- Paths in trees: what the program's and the document's functions of numbers compute. No condition. -/
set_option linter.unusedVariables false
set_option linter.unusedSimpArgs false
namespace Go.Proofs.YtegnhljcpdpdpaaGreatDoor
open Go
theorem len_code (k : Nat) {n : Nat} (h0 : 2 ≤ n) (h : n ≤ 1099511627776) : bits_Len64 k (WK .u64 (WK .i64 ((n : Int) - 1))) = some ((Nat.log2 (n - 1) + 1 : Nat) : Int) := by
  rw [wk_i64 (by omega) (by omega), wk_u64 (by omega) (by omega)]
  show L_math_bits_Len64 k _ = _
  unfold L_math_bits_Len64
  rw [guardO_pos ⟨by omega, by omega⟩]
  have e : ((n : Int) - 1).toNat = n - 1 := by omega
  rw [e, bitLen_log2 (n - 1) (by omega) (by omega)]
theorem sp_code {n : Nat} (h0 : 2 ≤ n) (h : n ≤ 1099511627776) : WK .i64 (((Nat.log2 (n - 1) + 1 : Nat) : Int) - 1) = ((Nat.log2 (n - 1) : Nat) : Int) ∧ shlK .i64 1 ((Nat.log2 (n - 1) : Nat) : Int) = ((sp n : Nat) : Int) := by
  have := log2_le40 h0 h
  refine ⟨?_, shl_pow _ (by omega)⟩
  rw [wk_i64 (by omega) (by omega)]
  omega
/-- The steps down from all n to the place m; w: to the part that ends behind m. -/
def stp (w : Bool) : Nat → Nat → Nat → List (Bool × Nat × Nat)
  | 0, _, _ => []
  | d + 1, m, n => if n < 2 ∨ (w = true ∧ m = n) then [] else if m < sp n ∨ (w = true ∧ m = sp n) then (false, sp n, m) :: stp w d m (sp n) else (true, n - sp n, m - sp n) :: stp w d (m - sp n) (n - sp n)
theorem stp_len (w : Bool) : ∀ d m n, (stp w d m n).length ≤ d
  | 0, _, _ => by simp [stp]
  | d + 1, m, n => by
    have h1 := stp_len w d m (sp n)
    have h2 := stp_len w d (m - sp n) (n - sp n)
    simp only [stp]
    split
    · simp
    · split <;> simp <;> omega
abbrev cst3 (p : Bool × Nat × Nat) : Bool × Int × Int := (p.1, (p.2.1 : Int), (p.2.2 : Int))
/-- Is it a place that there is? -/
def plc (w : Bool) (m n : Nat) : Prop := if w = true then 1 ≤ m ∧ m ≤ n else m < n
theorem stp_nil {w : Bool} {m n : Nat} (h : n < 2 ∨ (w = true ∧ m = n)) (d : Nat) : stp w d m n = [] := by
  cases d with
  | zero => rfl
  | succ d => simp only [stp, if_pos h]
theorem plc_left {w : Bool} {m n : Nat} (hp : plc w m n) (b : m < sp n ∨ (w = true ∧ m = sp n)) : plc w m (sp n) := by
  unfold plc at *
  cases w
  · simp at b hp ⊢; exact b
  · simp at b hp ⊢; omega
theorem plc_right {w : Bool} {m n : Nat} (h2 : 2 ≤ n) (hp : plc w m n) (b : ¬ (m < sp n ∨ (w = true ∧ m = sp n))) : plc w (m - sp n) (n - sp n) := by
  have := sp_spec h2
  unfold plc at *
  cases w
  · simp at b hp ⊢; omega
  · simp at b hp ⊢; omega
theorem down_ok {w : Bool} {m n : Nat} (hp : plc w m n) (hn : n ≤ 1099511627776) : path_down 1000 ((m : Int), (n : Int), w) = some ((stp w 40 m n).map cst3) := by
  obtain ⟨L, hL⟩ : ∃ L, L = (stp w 40 m n).map cst3 := ⟨_, rfl⟩
  rw [← hL]
  unfold path_down
  refine loop_bind (fun d h => ∃ (m n : Nat) (out : List (Bool × Int × Int)), h = ((m : Int), (n : Int), out) ∧ n ≤ 2 ^ d ∧ n ≤ 1099511627776 ∧ plc w m n ∧ out.length + d ≤ 40 ∧ out ++ (stp w d m n).map cst3 = L) (fun e => e.2.2 = L) 40 (by omega) ⟨m, n, [], rfl, hn, hn, hp, by simp, by simp [hL]⟩ ?_ (fun e he => by rw [he])
  clear hL hp hn
  rintro d _ ⟨m, n, out, rfl, h1, h2, h3, h4, h5⟩
  dsimp only
  by_cases a : n < 2 ∨ (w = true ∧ m = n)
  · have e1 : (condO (ilt (n : Int) 2) (some (.inl ())) (condO w (condO (ieq (m : Int) (n : Int)) (some (.inl ())) (some (.inr (())))) (some (.inr (())))) : Option ((Unit) ⊕ (Unit))) = some (.inl ()) := by
      by_cases a1 : n < 2
      · rw [ilt_t (by omega), condO_true]
      · obtain ⟨rfl, rfl⟩ := a.resolve_left a1
        rw [ilt_f (by omega), condO_false, condO_true, ieq_t rfl, condO_true]
    rw [e1]
    simp only [Option.bind_some, caseS_inl]
    refine .out ?_
    rw [stp_nil a] at h5
    simpa using h5
  · have a1 : 2 ≤ n := by omega
    have e1 : (condO (ilt (n : Int) 2) (some (.inl ())) (condO w (condO (ieq (m : Int) (n : Int)) (some (.inl ())) (some (.inr (())))) (some (.inr (())))) : Option ((Unit) ⊕ (Unit))) = some (.inr ()) := by
      rw [ilt_f (by omega), condO_false]
      cases w
      · rfl
      · rw [condO_true, ieq_f (by simp at a; omega), condO_false]
    rw [e1]
    obtain ⟨d, rfl⟩ := pow_le_two a1 h1
    obtain ⟨s1, s2, s3⟩ := sp_spec a1
    have s4 := sp_le a1 h1
    simp only [Option.bind_some, caseS_inr, ilt_f (show (2 : Int) ≤ (n : Int) by omega), condO_false, len_code 1000 a1 h2, (sp_code a1 h2).1, (sp_code a1 h2).2]
    rw [guardO_pos (show nn ((Nat.log2 (n - 1) : Nat) : Int) by unfold nn; omega)]
    simp only [stp, if_neg a] at h5
    have ap : ∀ x : Bool × Int × Int, appOk out [x] 24 := fun x => by unfold appOk; simp; omega
    have r1 : WK .i64 ((m : Int) - (sp n : Nat)) = (m : Int) - (sp n : Nat) := wk_i64 (by unfold plc at h3; cases w <;> simp at h3 <;> omega) (by unfold plc at h3; cases w <;> simp at h3 <;> omega)
    have r2 : WK .i64 ((n : Int) - (sp n : Nat)) = ((n - sp n : Nat) : Int) := by rw [wk_i64 (by omega) (by omega)]; omega
    by_cases b : m < sp n ∨ (w = true ∧ m = sp n)
    · rw [if_pos b] at h5
      have key : Goes (fun d h => ∃ (m n : Nat) (out : List (Bool × Int × Int)), h = ((m : Int), (n : Int), out) ∧ n ≤ 2 ^ d ∧ n ≤ 1099511627776 ∧ plc w m n ∧ out.length + d ≤ 40 ∧ out ++ (stp w d m n).map cst3 = L) (fun e : Int × Int × List (Bool × Int × Int) => e.2.2 = L) (d + 1) (some (.inl ((m : Int), (sp n : Int), out ++ [(false, (sp n : Int), (m : Int))]))) :=
        .on d (by omega) ⟨m, sp n, _, rfl, s4, by omega, plc_left h3 b, by simp; omega, by simpa [cst3] using h5⟩
      by_cases b1 : m < sp n
      · rw [ilt_t (by omega), condO_true, guardO_pos (ap _)]
        exact key
      · obtain ⟨rfl, b2⟩ := b.resolve_left b1
        rw [ilt_f (by omega), condO_false, condO_true, ieq_t (by omega), condO_true, guardO_pos (ap _)]
        exact key
    · rw [if_neg b] at h5
      have hm : sp n ≤ m := by omega
      have r1' : WK .i64 ((m : Int) - (sp n : Nat)) = ((m - sp n : Nat) : Int) := by rw [r1]; omega
      have key : Goes (fun d h => ∃ (m n : Nat) (out : List (Bool × Int × Int)), h = ((m : Int), (n : Int), out) ∧ n ≤ 2 ^ d ∧ n ≤ 1099511627776 ∧ plc w m n ∧ out.length + d ≤ 40 ∧ out ++ (stp w d m n).map cst3 = L) (fun e : Int × Int × List (Bool × Int × Int) => e.2.2 = L) (d + 1) (some (.inl (((m - sp n : Nat) : Int), ((n - sp n : Nat) : Int), out ++ [(true, ((n - sp n : Nat) : Int), ((m - sp n : Nat) : Int))]))) :=
        .on d (by omega) ⟨m - sp n, n - sp n, _, rfl, by omega, by omega, plc_right a1 h3 b, by simp; omega, by simpa [cst3] using h5⟩
      rw [ilt_f (by omega), condO_false, r1', r2]
      cases w
      · rw [condO_false, guardO_pos (ap _)]
        exact key
      · rw [condO_true, ieq_f (by simp at b; omega), condO_false, guardO_pos (ap _)]
        exact key
end Go.Proofs.YtegnhljcpdpdpaaGreatDoor
/- Paths in trees: lengths and sides. No condition. -/
set_option linter.unusedVariables false
set_option linter.unusedSimpArgs false
namespace Go.Proofs.YtegnhljcpdpdpaaGreatDoor
open Go
theorem stp_left {w : Bool} {d m n : Nat} (a : ¬ (n < 2 ∨ (w = true ∧ m = n))) (b : m < sp n ∨ (w = true ∧ m = sp n)) : stp w (d + 1) m n = (false, sp n, m) :: stp w d m (sp n) := by
  rw [stp, if_neg a, if_pos b]
theorem stp_right {w : Bool} {d m n : Nat} (a : ¬ (n < 2 ∨ (w = true ∧ m = n))) (b : ¬ (m < sp n ∨ (w = true ∧ m = sp n))) : stp w (d + 1) m n = (true, n - sp n, m - sp n) :: stp w d (m - sp n) (n - sp n) := by
  rw [stp, if_neg a, if_neg b]
/-- How many links there are. -/
def lnk (m n : Nat) : Int := ((stp true 40 m n).length : Int) + if (stp true 40 m n).any (·.1) = true then 1 else 0
end Go.Proofs.YtegnhljcpdpdpaaGreatDoor
/- Trees of hashes: the root, level by level, is the root by halves. No condition. -/
set_option linter.unusedVariables false
set_option linter.unusedSimpArgs false
namespace Go.Proofs.YtegnhljcpdpdpaaGreatDoor
open Go
/-- The row above. -/
def ab : List Vh → List Vh
  | a :: b :: r => node a b :: ab r
  | [x] => [x]
  | [] => []
theorem ab_one (x : Vh) : ab [x] = [x] := by simp [ab]
theorem ab_nil : ab [] = [] := by simp [ab]
theorem ab_len : ∀ l : List Vh, (ab l).length = (l.length + 1) / 2
  | [] => by simp [ab]
  | [_] => by simp [ab]
  | a :: b :: r => by simp only [ab, List.length_cons, ab_len r]; omega
theorem ab_get : ∀ (l : List Vh) (i : Nat) (h : 2 * i + 1 < l.length), (ab l)[i]'(by rw [ab_len]; omega) = node l[2 * i] l[2 * i + 1]
  | [], i, h => by simp at h
  | [_], i, h => by simp at h
  | a :: b :: r, 0, h => rfl
  | a :: b :: r, i + 1, h => by
    have := ab_get r i (by simp at h; omega)
    simpa [ab, Nat.mul_add] using this
theorem ab_last : ∀ (l : List Vh) (h : l.length % 2 = 1), ab l = (ab l).take (l.length / 2) ++ [l[l.length - 1]'(by omega)]
  | [], h => by simp at h
  | [x], h => by simp [ab]
  | a :: b :: r, h => by
    have hr : r.length % 2 = 1 := by simp at h; omega
    have := ab_last r hr
    have e : (a :: b :: r).length / 2 = r.length / 2 + 1 := by simp; omega
    rw [e]
    simp only [ab, List.take_succ_cons, List.cons_append, List.cons.injEq, true_and]
    rw [this]
    congr 1
    · rw [List.take_append_of_le_length (by rw [List.length_take, ab_len]; omega), List.take_take, Nat.min_self]
    · have h1 : (a :: b :: r).length - 1 = (r.length - 1) + 1 + 1 := by simp; omega
      simp only [h1, List.getElem_cons_succ]
theorem ab_app : ∀ (l r : List Vh), l.length % 2 = 0 → ab (l ++ r) = ab l ++ ab r
  | [], r, _ => rfl
  | [_], r, h => by simp at h
  | a :: b :: l, r, h => by
    simp only [ab, List.cons_append]
    rw [ab_app l r (by simp at h; omega)]
/-- Level by level, or by halves. -/
theorem rt_ab : ∀ (d : Nat) (l : List Vh), 2 ≤ l.length → l.length ≤ 2 ^ (d + 1) → rt (d + 1) l = rt d (ab l) := by
  intro d
  induction d with
  | zero =>
    intro l h1 h2
    match l, h1, h2 with
    | [a, b], _, _ => rfl
    | a :: b :: c :: r, _, h2 => simp at h2 <;> omega
  | succ d ih =>
    intro l h1 h2
    by_cases h3 : l.length = 2
    · match l, h3 with
      | [a, b], _ =>
        have e2 : sp [a, b].length = 1 := rfl
        rw [rt_big (by simp), rt_small (l := ab [a, b]) (by simp [ab]), e2, rt_small (l := [a, b].take 1) (by simp), rt_small (l := [a, b].drop 1) (by simp)]
        rfl
    · obtain ⟨a1, a2, a3⟩ := sp_spec (n := l.length) h1
      have a4 := sp_le (n := l.length) (d := d + 1) h1 h2
      obtain ⟨j, hj⟩ : ∃ j, sp l.length = 2 ^ j := ⟨_, rfl⟩
      have hj0 : j ≠ 0 := by
        rintro rfl
        rw [Nat.pow_zero] at hj
        omega
      obtain ⟨j, rfl⟩ : ∃ i, j = i + 1 := ⟨j - 1, by omega⟩
      rw [Nat.pow_succ] at hj
      have hpd : 2 ^ (d + 1) = 2 * 2 ^ d := by rw [Nat.pow_succ, Nat.mul_comm]
      have hs : sp ((ab l).length) = 2 ^ j := by
        rw [ab_len]
        apply sp_unique
        · omega
        · rw [Nat.pow_succ]; omega
      have hl : (ab l).length = (l.length + 1) / 2 := ab_len l
      have e : ab l = ab (l.take (2 ^ j * 2)) ++ ab (l.drop (2 ^ j * 2)) := by
        rw [← ab_app _ _ (by rw [List.length_take]; omega), List.take_append_drop]
      have et : (ab l).take (2 ^ j) = ab (l.take (2 ^ j * 2)) := by
        rw [e, List.take_left']
        rw [ab_len, List.length_take]; omega
      have ed : (ab l).drop (2 ^ j) = ab (l.drop (2 ^ j * 2)) := by
        rw [e, List.drop_left']
        rw [ab_len, List.length_take]; omega
      rw [rt_big h1, rt_big (l := ab l) (d := d) (by omega), hs, hj, et, ed]
      congr 1
      · exact ih _ (by rw [List.length_take]; omega) (by rw [List.length_take]; omega)
      · by_cases h5 : (l.drop (2 ^ j * 2)).length = 1
        · obtain ⟨x, hx⟩ := List.length_eq_one_iff.1 h5
          rw [hx, rt_small (by simp), rt_small (by simp [ab])]
          rfl
        · rw [List.length_drop] at h5
          exact ih _ (by rw [List.length_drop]; omega) (by rw [List.length_drop]; omega)
theorem above_ok (l : List Vh) (hl : l.length ≤ 900) : leaf_above 1000 (l, vgl_sha_keys) = some (ab l) := by
  have h0 := ab_len l
  unfold leaf_above
  dsimp only
  refine (guardO_pos (by decide)).trans ?_
  have ed : WK .i64 (Int.tdiv (llen l) 2) = ((l.length / 2 : Nat) : Int) := by
    show WK .i64 ((l.length / 2 : Nat) : Int) = _
    exact wk_nat (by omega)
  rw [ed]
  refine bind_of (loopK_run (fun i : Nat => ((i : Int), (ab l).take i)) (l.length / 2) ((ab l).take (l.length / 2)) 1000 (fun i hi => ?_) ?_ (by omega)) ?_
  · dsimp only
    refine (congrArg (condO · _ _) (ilt_t (by omega))).trans ((condO_true _ _).trans ?_)
    have e1 : WK .i64 (2 * (i : Int)) = ((2 * i : Nat) : Int) := by rw [wk_i64 (by omega) (by omega)]; omega
    have e2 : WK .i64 (((2 * i : Nat) : Int) + 1) = ((2 * i + 1 : Nat) : Int) := by rw [wk_i64 (by omega) (by omega)]; omega
    have e3 : at_ T3 l ((2 * i : Nat) : Int) = l[2 * i] := at_nat (t := T3) (by omega)
    have e4 : at_ T3 l ((2 * i + 1 : Nat) : Int) = l[2 * i + 1] := at_nat (t := T3) (by omega)
    rw [e1, e2, e3, e4]
    refine (guardO_pos ⟨by omega, by unfold llen; omega⟩).trans ((guardO_pos ⟨by omega, by unfold llen; omega⟩).trans ?_)
    refine (guardO_pos (node_cat1 _)).trans ((guardO_pos (node_cat2 _ _)).trans (bind_of (node_sha _ _) ?_))
    refine (guardO_pos (show appOk _ _ _ from by unfold appOk; simp; omega)).trans ?_
    rw [wk_i64 (x := (i : Int) + 1) (by omega) (by omega), List.take_add_one, List.getElem?_eq_getElem (by omega), ab_get l i (by omega)]
    rfl
  · dsimp only
    exact (congrArg (condO · _ _) (ilt_f (by omega))).trans (condO_false _ _)
  · have key : (guardO ((nz 2)) (condO (ieq (Int.tmod (llen l) 2) 1) (guardO ((inR (WK .i64 ((llen l) - 1)) (llen l))) (guardO ((appOk ((ab l).take (l.length / 2)) ([(at_ T3 l (WK .i64 ((llen l) - 1)))] : List Vh) 32)) (some ((((ab l).take (l.length / 2)) ++ ([(at_ T3 l (WK .i64 ((llen l) - 1)))] : List Vh)))))) (some ((ab l).take (l.length / 2)))) : Option (List Vh)) = some (ab l) := by
      refine (guardO_pos (by decide)).trans ?_
      have em : Int.tmod (llen l) 2 = ((l.length % 2 : Nat) : Int) := rfl
      rw [em]
      by_cases h1 : l.length % 2 = 1
      · refine (congrArg (condO · _ _) (ieq_t (by omega))).trans ((condO_true _ _).trans ?_)
        have e1 : WK .i64 (llen l - 1) = ((l.length - 1 : Nat) : Int) := by rw [wk_i64 (by unfold llen; omega) (by unfold llen; omega)]; unfold llen; omega
        have e2 : at_ T3 l ((l.length - 1 : Nat) : Int) = l[l.length - 1] := at_nat (t := T3) (by omega)
        rw [e1, e2]
        refine (guardO_pos ⟨by omega, by unfold llen; omega⟩).trans ((guardO_pos (show appOk _ _ _ from by unfold appOk; simp; omega)).trans ?_)
        exact congrArg some (ab_last l h1).symm
      · refine (congrArg (condO · _ _) (ieq_f (by omega))).trans ((condO_false _ _).trans ?_)
        rw [List.take_of_length_le (by omega)]
    exact bind_of key rfl
theorem clone_ok (l : List Vh) (h : l.length ≤ 900) : slices_Clone 1000 l = some l := by
  have hb : l.length * 32 ≤ 140737488355328 := by omega
  exact guardO_pos hb
/-- The program's root. -/
theorem root_ok {d : Nat} (l : List Vh) (h : l.length ≤ 2 ^ d) (hd : d ≤ 9) : leaf_Root 1000 (l, vgl_sha_keys) = some (rt d l) := by
  have hb : l.length ≤ 512 := Nat.le_trans h (Nat.le_trans (Nat.pow_le_pow_right (by omega) hd) (by decide))
  unfold leaf_Root
  dsimp only
  by_cases h0 : l.length = 0
  · have : l = [] := List.eq_nil_of_length_eq_zero h0
    subst this
    refine (congrArg (condO · _ _) (ieq_t (by simp))).trans ((condO_true _ _).trans ?_)
    refine bind_of (sha_of [] (by simp) (by simp)) ?_
    rw [rt_small (by simp)]; rfl
  · refine (congrArg (condO · _ _) (ieq_f (by unfold llen; omega))).trans ((condO_false _ _).trans ?_)
    have hL : ∃ r, leaf_Levels 1000 (l, vgl_sha_keys) = some r ∧ ∃ o, r = o ++ [[rt d l]] ∧ o.length ≤ 30 := by
      unfold leaf_Levels
      dsimp only
      rw [clone_ok l (by omega), Option.bind_some]
      refine loop_bindE (fun e h => ∃ (row : List Vh) (o : List (List Vh)), h = (row, o ++ [row]) ∧ row.length ≤ 2 ^ e ∧ row ≠ [] ∧ rt e row = rt d l ∧ o.length + e ≤ d ∧ row.length ≤ 900) (fun e => ∃ o, e = o ++ [[rt d l]] ∧ o.length ≤ 30) d (by omega) ⟨l, [], rfl, h, by intro e; subst e; exact h0 rfl, rfl, by simp, by omega⟩ ?_ (fun e he => ⟨e, rfl, he⟩)
      rintro e _ ⟨row, o, rfl, r1, r2, r3, r4, r5⟩
      dsimp only
      by_cases a : row.length < 2
      · refine (congrArg (fun b => Goes _ _ _ (condO b _ _)) (ilt_t (a := llen row) (b := 2) (by unfold llen; omega))).mpr ?_
        rw [condO_true]
        refine .out ⟨o, ?_, by omega⟩
        have h1 : row.length = 1 := by
          have : row.length ≠ 0 := fun e => r2 (List.eq_nil_of_length_eq_zero e)
          omega
        obtain ⟨x, rfl⟩ := List.length_eq_one_iff.1 h1
        rw [rt_small (by simp)] at r3
        rw [← r3]; rfl
      · refine (congrArg (fun b => Goes _ _ _ (condO b _ _)) (ilt_f (a := llen row) (b := 2) (by unfold llen; omega))).mpr ?_
        obtain ⟨e, rfl⟩ := pow_le_two (n := row.length) (by omega) r1
        have hal := ab_len row
        rw [condO_false, above_ok row r5, Option.bind_some, guardO_pos (show appOk _ _ _ from by unfold appOk; simp; omega)]
        have hpd : 2 ^ (e + 1) = 2 * 2 ^ e := by rw [Nat.pow_succ, Nat.mul_comm]
        exact .on e (by omega) ⟨ab row, o ++ [row], by simp, by omega, by intro h; rw [h] at hal; simp at hal; omega, by rw [← rt_ab e row (by omega) r1]; exact r3, by simp; omega, by omega⟩
    obtain ⟨_, hL, o, rfl, ho⟩ := hL
    refine bind_of hL ?_
    have e1 : WK .i64 (llen (o ++ [[rt d l]]) - 1) = ((o.length : Nat) : Int) := by
      rw [show llen (o ++ [[rt d l]]) = (o.length : Int) + 1 by unfold llen; simp]
      rw [wk_i64 (by omega) (by omega)]; omega
    have e2 : at_ T7 (o ++ [[rt d l]]) ((o.length : Nat) : Int) = [rt d l] := by
      rw [at_nat (t := T7) (by simp)]; simp
    have e3 : llen (o ++ [[rt d l]]) = (o.length : Int) + 1 := by unfold llen; simp
    rw [e1, e2, e3]
    exact (guardO_pos ⟨by omega, by omega⟩).trans ((guardO_pos ⟨by decide, by show (0 : Int) < 1; decide⟩).trans rfl)
end Go.Proofs.YtegnhljcpdpdpaaGreatDoor
/- Paths in trees: the program's is the document's. No condition. -/
set_option linter.unusedVariables false
set_option linter.unusedSimpArgs false
namespace Go.Proofs.YtegnhljcpdpdpaaGreatDoor
open Go
theorem reverse_ok (l : List Vh) (hl : l.length ≤ 900) : slices_Reverse 1000 l = some l.reverse := by
  unfold slices_Reverse
  refine loop_bind (fun d h => ∃ (t : Nat) (L : List Vh), h = ((t : Int), (l.length : Int) - 1 - (t : Int), L) ∧ d = l.length - t ∧ t ≤ l.length ∧ L.length = l.length ∧ ∀ j, j < l.length → L[j]? = if j < t ∨ l.length - t ≤ j then l[l.length - 1 - j]? else l[j]?) (fun e => e = l.reverse) l.length (by omega)
    ⟨0, l, by rw [wk_i64 (by unfold llen; omega) (by unfold llen; omega)]; unfold llen; simp, by omega, by omega, rfl, fun j hj => by rw [if_neg (by omega)]⟩ ?_ (fun e he => by rw [he])
  rintro d _ ⟨t, L, rfl, hd, ht, hL, hj⟩
  dsimp only
  by_cases a : (t : Int) < (l.length : Int) - 1 - (t : Int)
  · have e0 : (l.length : Int) - 1 - (t : Int) = ((l.length - 1 - t : Nat) : Int) := by omega
    rw [ilt_t a, condO_true, e0]
    rw [guardO_pos ⟨by omega, by unfold llen; omega⟩, guardO_pos ⟨by omega, by unfold llen; omega⟩, guardO_pos ⟨by omega, by unfold llen; omega⟩, guardO_pos ⟨by omega, by unfold llen; rw [List.length_set]; omega⟩]
    have e1 : WK .i64 ((t : Int) + 1) = ((t + 1 : Nat) : Int) := by rw [wk_i64 (by omega) (by omega)]; omega
    have e2 : WK .i64 (((l.length - 1 - t : Nat) : Int) - 1) = (l.length : Int) - 1 - ((t + 1 : Nat) : Int) := by rw [wk_i64 (by omega) (by omega)]; omega
    have e3 : at_ T3 L ((l.length - 1 - t : Nat) : Int) = L[l.length - 1 - t] := at_nat (t := T3) (by omega)
    have e4 : at_ T3 L (t : Int) = L[t] := at_nat (t := T3) (by omega)
    rw [e1, e2, e3, e4]
    unfold lset
    rw [Int.toNat_natCast, Int.toNat_natCast]
    refine .on (l.length - (t + 1)) (by omega) ⟨t + 1, _, rfl, rfl, by omega, by simp [hL], fun j hjl => ?_⟩
    have g1 := hj t (by omega)
    have g2 := hj (l.length - 1 - t) (by omega)
    rw [if_neg (by omega), List.getElem?_eq_getElem (by omega)] at g1 g2
    rw [List.getElem?_set, List.getElem?_set]
    simp only [List.length_set]
    by_cases b1 : l.length - 1 - t = j
    · rw [if_pos b1, if_pos (by omega), if_pos (by omega), g1]
      congr 1; omega
    · rw [if_neg b1]
      by_cases b2 : t = j
      · rw [if_pos b2, if_pos (by omega), if_pos (by omega), g2]
        congr 1; omega
      · rw [if_neg b2, hj j hjl]
        by_cases b3 : j < t ∨ l.length - t ≤ j
        · rw [if_pos b3, if_pos (by omega)]
        · rw [if_neg b3, if_neg (by omega)]
  · rw [ilt_f (by omega), condO_false]
    refine .out ?_
    apply List.ext_getElem?
    intro j
    by_cases b : j < l.length
    · rw [hj j b, List.getElem?_reverse b]
      split
      · rfl
      · congr 1; omega
    · rw [List.getElem?_eq_none (by omega), List.getElem?_eq_none (by simp; omega)]
theorem root40 (l : List Vh) (h : l.length ≤ 512) : leaf_Root 1000 (l, vgl_sha_keys) = some (rt 40 l) := by
  rw [root_ok (d := 9) l (by simpa using h) (by omega), rt_deep 9 l (by simpa using h) 40 (by omega)]
/-- What stands beside the way down, the last one first. -/
def pth (w : Bool) : Nat → Nat → List Vh → List Vh
  | 0, _, _ => []
  | d + 1, m, l => if l.length < 2 ∨ (w = true ∧ m = l.length) then [] else
    if m < sp l.length ∨ (w = true ∧ m = sp l.length) then pth w d m (l.take (sp l.length)) ++ [rt 40 (l.drop (sp l.length))] else pth w d (m - sp l.length) (l.drop (sp l.length)) ++ [rt 40 (l.take (sp l.length))]
theorem pth_nil {w : Bool} {m : Nat} {l : List Vh} (h : l.length < 2 ∨ (w = true ∧ m = l.length)) (d : Nat) : pth w d m l = [] := by
  cases d with
  | zero => rfl
  | succ d => rw [pth, if_pos h]
theorem pth_left {w : Bool} {d m : Nat} {l : List Vh} (a : ¬ (l.length < 2 ∨ (w = true ∧ m = l.length))) (b : m < sp l.length ∨ (w = true ∧ m = sp l.length)) : pth w (d + 1) m l = pth w d m (l.take (sp l.length)) ++ [rt 40 (l.drop (sp l.length))] := by
  rw [pth, if_neg a, if_pos b]
theorem pth_right {w : Bool} {d m : Nat} {l : List Vh} (a : ¬ (l.length < 2 ∨ (w = true ∧ m = l.length))) (b : ¬ (m < sp l.length ∨ (w = true ∧ m = sp l.length))) : pth w (d + 1) m l = pth w d (m - sp l.length) (l.drop (sp l.length)) ++ [rt 40 (l.take (sp l.length))] := by
  rw [pth, if_neg a, if_neg b]
theorem pth_len (w : Bool) : ∀ d m (l : List Vh), (pth w d m l).length = (stp w d m l.length).length
  | 0, _, _ => rfl
  | d + 1, m, l => by
    by_cases a : l.length < 2 ∨ (w = true ∧ m = l.length)
    · rw [pth_nil a, stp_nil a]; rfl
    · by_cases b : m < sp l.length ∨ (w = true ∧ m = sp l.length)
      · rw [pth_left a b, stp_left a b, List.length_append, pth_len w d, len_take l (by omega)]; rfl
      · rw [pth_right a b, stp_right a b, List.length_append, pth_len w d, List.length_drop]; rfl
theorem beside_ok (w : Bool) (m : Nat) (l : List Vh) (hl : l.length ≤ 512) : path_beside 1000 (l, (stp w 40 m l.length).map cst3, vgl_sha_keys) = some (pth w 40 m l) := by
  obtain ⟨S, hS⟩ : ∃ S, S = (stp w 40 m l.length).map cst3 := ⟨_, rfl⟩
  have hSl : S.length ≤ 40 := by rw [hS, List.length_map]; exact stp_len ..
  have hP := pth_len w 40 m l
  have hP2 : (pth w 40 m l).length ≤ 40 := by rw [hP]; exact stp_len ..
  obtain ⟨R, hR⟩ : ∃ R, R = pth w 40 m l := ⟨_, rfl⟩
  rw [← hR] at hP2
  rw [← hS, ← hR]
  unfold path_beside
  dsimp only
  refine loop_bind (fun e h => ∃ (i d m' : Nat) (l' out : List Vh), h = ((i : Int), l', out) ∧ i + e = S.length ∧ S.drop i = (stp w d m' l'.length).map cst3 ∧ l'.length ≤ 512 ∧ out ++ (pth w d m' l').reverse = R.reverse) (fun e => e = R.reverse) S.length (by omega) ⟨0, 40, m, l, [], rfl, by omega, by simp [hS], hl, by simp [hR]⟩ ?_ ?_
  · clear hP hS hR
    rintro e _ ⟨i, d, m', l', out, rfl, hi, hd, hl', ho⟩
    dsimp only
    by_cases a : i < S.length
    · have hne : stp w d m' l'.length ≠ [] := by
        intro h
        rw [h, List.map_nil] at hd
        have := congrArg List.length hd
        rw [List.length_drop] at this
        simp at this; omega
      have h1 : ¬ (l'.length < 2 ∨ (w = true ∧ m' = l'.length)) := fun h => hne (stp_nil h d)
      obtain ⟨d, rfl⟩ : ∃ d', d = d' + 1 := by
        cases d with
        | zero => exact absurd rfl hne
        | succ d => exact ⟨d, rfl⟩
      have h2 : 2 ≤ l'.length := by omega
      obtain ⟨s1, s2, s3⟩ := sp_spec h2
      have hdr : S.drop i = S[i] :: S.drop (i + 1) := List.drop_eq_getElem_cons a
      have hat : at_ T6 S (i : Int) = S[i] := at_nat (t := T6) a
      have hlen : (pth w (d + 1) m' l').length + out.length ≤ 40 := by
        have := congrArg List.length ho
        simp at this; omega
      rw [ilt_t (show (i : Int) < llen S by unfold llen; omega), condO_true, guardO_pos ⟨by omega, by unfold llen; omega⟩, hat]
      have ei : WK .i64 ((i : Int) + 1) = ((i + 1 : Nat) : Int) := wk_i64 (by omega) (by omega)
      have ap : ∀ x : Vh, appOk out [x] 32 := fun x => by unfold appOk; simp; omega
      by_cases b : m' < sp l'.length ∨ (w = true ∧ m' = sp l'.length)
      · rw [stp_left h1 b, hdr, List.map_cons, List.cons.injEq] at hd
        obtain ⟨hd1, hd2⟩ := hd
        rw [pth_left h1 b] at ho
        rw [hd1]
        dsimp only
        rw [condO_false, ltake_nat, ldrop_nat]
        rw [guardO_pos ⟨by omega, by unfold llen; omega, by omega, by omega⟩, root40 _ (by rw [List.length_drop]; omega), Option.bind_some, guardO_pos (ap _), guardO_pos ⟨by omega, by omega, by unfold llen; omega, by omega⟩, ei]
        refine .on (e - 1) (by omega) ⟨i + 1, d, m', l'.take (sp l'.length), _, rfl, by omega, by rw [len_take l' h2]; exact hd2, by rw [List.length_take]; omega, ?_⟩
        simpa using ho
      · rw [stp_right h1 b, hdr, List.map_cons, List.cons.injEq] at hd
        obtain ⟨hd1, hd2⟩ := hd
        rw [pth_right h1 b] at ho
        rw [hd1]
        dsimp only
        have ek : WK .i64 (llen l' - ((l'.length - sp l'.length : Nat) : Int)) = ((sp l'.length : Nat) : Int) := by rw [wk_i64 (by unfold llen; omega) (by unfold llen; omega)]; unfold llen; omega
        rw [condO_true, ek, ltake_nat, ldrop_nat]
        rw [guardO_pos ⟨by omega, by omega, by unfold llen; omega, by omega⟩, root40 _ (by rw [List.length_take]; omega), Option.bind_some, guardO_pos (ap _), guardO_pos ⟨by omega, by unfold llen; omega, by omega, by omega⟩, ei]
        refine .on (e - 1) (by omega) ⟨i + 1, d, m' - sp l'.length, l'.drop (sp l'.length), _, rfl, by omega, by rw [List.length_drop]; exact hd2, by rw [List.length_drop]; omega, ?_⟩
        simpa using ho
    · rw [ilt_f (show llen S ≤ (i : Int) by unfold llen; omega), condO_false]
      refine .out ?_
      have hd0 : stp w d m' l'.length = [] := by
        rw [List.drop_eq_nil_of_le (by omega)] at hd
        simpa using hd.symm
      have hp0 : pth w d m' l' = [] := List.eq_nil_of_length_eq_zero (by rw [pth_len, hd0]; rfl)
      rw [hp0] at ho
      simpa using ho
  · intro e he
    rw [he]
    refine bind_of (reverse_ok _ (by simp; omega)) ?_
    simp
theorem path_ok {m : Nat} {l : List Vh} (hm : m < l.length) (hl : l.length ≤ 512) : path_Path 1000 ((m : Int), l, vgl_sha_keys) = some (true, pth false 40 m l) := by
  unfold path_Path
  dsimp only
  rw [ilt_f (by omega), condO_false, ige_f (show (m : Int) < llen l by unfold llen; omega), condO_false]
  refine bind_of (down_ok (w := false) (show plc false m l.length by simpa [plc] using hm) (by omega)) (bind_of (beside_ok false m l hl) rfl)
theorem ppath_bad {a : Int} {l : List Vh} (h : a < 0 ∨ (l.length : Int) ≤ a) : path_Path 1000 (a, l, vgl_sha_keys) = some (false, []) := by
  unfold path_Path
  dsimp only
  by_cases h0 : a < 0
  · rw [ilt_t h0, condO_true]
  · rw [ilt_f (by omega), condO_false, ige_t (show llen l ≤ a by unfold llen; omega), condO_true]
theorem path_bad {a : Int} {l : List Vh} (h : a < 0 ∨ (l.length : Int) ≤ a) : path_Path 1000 (a, l, vgl_sha_keys) = some (false, []) ∧ ref10_Path 1000 (a, l) = some (false, []) := by
  refine ⟨ppath_bad h, ?_⟩
  unfold ref10_Path
  dsimp only
  by_cases h0 : a < 0
  · rw [ilt_t h0, condO_true]
  · rw [ilt_f (by omega), condO_false, ige_t (show llen l ≤ a by unfold llen; omega), condO_true]
theorem rsplit {l : List Vh} (h : 2 ≤ l.length) (hl : l.length ≤ 512) : ref09_Split 1000 (llen l) = some ((sp l.length : Nat) : Int) := by
  have := split_ok (n := l.length) (by omega)
  rw [if_neg (by omega)] at this
  exact this
theorem rpath_rec : ∀ (d r m : Nat) (l : List Vh), l.length ≤ 2 ^ d → m < l.length → l.length ≤ 512 → d < r → r ≤ 1000 → recN ref10_path_B r 1000 ((m : Int), l) = some (pth false d m l)
  | d, 0, m, l, _, _, _, h, _ => by omega
  | d, r + 1, m, l, h, hm, hb, hr, hr2 => by
    show ref10_path_B (recN ref10_path_B r) 1000 ((m : Int), l) = _
    unfold ref10_path_B
    dsimp only
    by_cases h1 : l.length = 1
    · refine (congrArg (condO · _ _) (ieq_t (by unfold llen; omega))).trans ((condO_true _ _).trans ?_)
      rw [pth_nil (.inl (by omega))]
    · refine (congrArg (condO · _ _) (ieq_f (by unfold llen; omega))).trans ((condO_false _ _).trans ?_)
      have h2 : 2 ≤ l.length := by omega
      obtain ⟨d, rfl⟩ := pow_le_two h2 h
      obtain ⟨a1, a2, a3⟩ := sp_spec h2
      have a4 := sp_le h2 h
      have a : ¬ (l.length < 2 ∨ (false = true ∧ m = l.length)) := by simp; omega
      have hlen := pth_len false d
      refine bind_of (rsplit h2 hb) ?_
      rw [ltake_nat, ldrop_nat]
      by_cases b : m < sp l.length
      · refine (congrArg (condO · _ _) (ilt_t (by omega))).trans ((condO_true _ _).trans ?_)
        repeat refine (guardO_pos ⟨by first | omega | (unfold llen; omega), by first | omega | (unfold llen; omega), by first | omega | (unfold llen; omega), by first | omega | (unfold llen; omega)⟩).trans ?_
        refine bind_of (rpath_rec d r m (l.take (sp l.length)) (by rw [List.length_take]; omega) (by rw [List.length_take]; omega) (by rw [List.length_take]; omega) (by omega) (by omega)) ?_
        refine bind_of (rroot40 _ (by rw [List.length_drop]; omega)) ?_
        have hle := hlen m (l.take (sp l.length))
        have hle2 := stp_len false d m (l.take (sp l.length)).length
        rw [pth_left a (.inl b)]
        exact guardO_pos (show appOk _ _ _ from by unfold appOk; simp; omega)
      · refine (congrArg (condO · _ _) (ilt_f (by omega))).trans ((condO_false _ _).trans ?_)
        repeat refine (guardO_pos ⟨by first | omega | (unfold llen; omega), by first | omega | (unfold llen; omega), by first | omega | (unfold llen; omega), by first | omega | (unfold llen; omega)⟩).trans ?_
        have e1 : WK .i64 ((m : Int) - ((sp l.length : Nat) : Int)) = ((m - sp l.length : Nat) : Int) := by rw [wk_i64 (by omega) (by omega)]; omega
        rw [e1]
        refine bind_of (rpath_rec d r (m - sp l.length) (l.drop (sp l.length)) (by rw [List.length_drop]; omega) (by rw [List.length_drop]; omega) (by rw [List.length_drop]; omega) (by omega) (by omega)) ?_
        refine bind_of (rroot40 _ (by rw [List.length_take]; omega)) ?_
        have hle := hlen (m - sp l.length) (l.drop (sp l.length))
        have hle2 := stp_len false d (m - sp l.length) (l.drop (sp l.length)).length
        rw [pth_right a (by simp; omega)]
        exact guardO_pos (show appOk _ _ _ from by unfold appOk; simp; omega)
theorem rpath_ok {m : Nat} {l : List Vh} (hm : m < l.length) (hl : l.length ≤ 512) : ref10_Path 1000 ((m : Int), l) = some (true, pth false 40 m l) := by
  unfold ref10_Path
  dsimp only
  rw [ilt_f (by omega), condO_false, ige_f (show (m : Int) < llen l by unfold llen; omega), condO_false]
  exact bind_of (rpath_rec 40 1000 m l (by omega) hm hl (by omega) (by omega)) rfl
end Go.Proofs.YtegnhljcpdpdpaaGreatDoor
/- Links between two sizes of a tree: the program's are the document's. No condition. -/
set_option linter.unusedVariables false
set_option linter.unusedSimpArgs false
namespace Go.Proofs.YtegnhljcpdpdpaaGreatDoor
open Go
/-- The part that both sizes have whole. -/
def part : Nat → Nat → List Vh → List Vh
  | 0, _, l => l
  | d + 1, m, l => if l.length < 2 ∨ m = l.length then l else if m ≤ sp l.length then part d m (l.take (sp l.length)) else part d (m - sp l.length) (l.drop (sp l.length))
theorem part_nil {m : Nat} {l : List Vh} (h : l.length < 2 ∨ m = l.length) (d : Nat) : part d m l = l := by
  cases d with
  | zero => rfl
  | succ d => rw [part, if_pos h]
theorem part_left {d m : Nat} {l : List Vh} (a : ¬ (l.length < 2 ∨ m = l.length)) (b : m ≤ sp l.length) : part (d + 1) m l = part d m (l.take (sp l.length)) := by
  rw [part, if_neg a, if_pos b]
theorem part_right {d m : Nat} {l : List Vh} (a : ¬ (l.length < 2 ∨ m = l.length)) (b : ¬ m ≤ sp l.length) : part (d + 1) m l = part d (m - sp l.length) (l.drop (sp l.length)) := by
  rw [part, if_neg a, if_neg b]
theorem part_len : ∀ (d m : Nat) (l : List Vh), (part d m l).length ≤ l.length
  | 0, _, _ => Nat.le_refl _
  | d + 1, m, l => by
    rw [part]
    split
    · exact Nat.le_refl _
    · split
      · exact Nat.le_trans (part_len d _ _) (by rw [List.length_take]; omega)
      · exact Nat.le_trans (part_len d _ _) (by rw [List.length_drop]; omega)
theorem part_end {d m : Nat} {l : List Vh} (h : stp true d m l.length = []) : part d m l = l := by
  cases d with
  | zero => rfl
  | succ d =>
    by_cases a : l.length < 2 ∨ m = l.length
    · rw [part_nil a]
    · exfalso
      have a2 : ¬ (l.length < 2 ∨ (true = true ∧ m = l.length)) := by simpa using a
      by_cases b : m < sp l.length ∨ (true = true ∧ m = sp l.length)
      · rw [stp_left a2 b] at h; cases h
      · rw [stp_right a2 b] at h; cases h
/-- Links: the part, if not all of the first size is known by itself, then what stands beside. -/
def lks (m : Nat) (l : List Vh) : List Vh := (if (stp true 40 m l.length).any (·.1) = true then [rt 40 (part 40 m l)] else []) ++ pth true 40 m l
def lksW (d m : Nat) (w : Bool) (l : List Vh) : List Vh := (if w = true ∧ (stp true d m l.length).any (·.1) = false then [] else [rt 40 (part d m l)]) ++ pth true d m l
theorem lksW_true (m : Nat) (l : List Vh) : lksW 40 m true l = lks m l := by
  unfold lksW lks
  cases (stp true 40 m l.length).any (·.1) <;> simp
theorem lksW_len (d m : Nat) (w : Bool) (l : List Vh) : (lksW d m w l).length ≤ 1 + d := by
  unfold lksW
  have := pth_len true d m l
  have := stp_len true d m l.length
  rw [List.length_append]
  split <;> simp <;> omega
theorem same_self (l : List Vh) (h : l.length ≤ 900) : ref09_Same 1000 (l, l) = some true := by
  unfold ref09_Same
  dsimp only
  rw [ine_f rfl, condO_false]
  refine bind_of (a := (Sum.inr () : Bool ⊕ Unit)) ?_ rfl
  refine loopK_run (fun i : Nat => (i : Int)) l.length _ 1000 (fun i hi => ?_) ?_ (by omega)
  · have hi' : (i : Int) < llen l := by unfold llen; omega
    have e3 : at_ T3 l (i : Int) = l[i] := at_nat (t := T3) hi
    rw [e3, sameI_self, ilt_t hi', condO_true, guardO_pos ⟨by omega, hi'⟩, guardO_pos ⟨by omega, hi'⟩, wk_i64 (by omega) (by omega)]
    rfl
  · rw [ilt_f (show llen l ≤ (l.length : Int) by unfold llen; omega), condO_false]
theorem path_both (a : Int) (l : List Vh) (hl : l.length ≤ 512) : ∃ ok P, P.length ≤ 900 ∧ path_Path 1000 (a, l, vgl_sha_keys) = some (ok, P) ∧ ref10_Path 1000 (a, l) = some (ok, P) := by
  by_cases h : a < 0 ∨ (l.length : Int) ≤ a
  · exact ⟨false, [], by simp, path_bad h⟩
  · obtain ⟨m, rfl⟩ : ∃ m : Nat, a = m := ⟨a.toNat, by omega⟩
    exact ⟨true, _, by rw [pth_len]; exact Nat.le_trans (stp_len ..) (by omega), path_ok (by omega) hl, rpath_ok (by omega) hl⟩
theorem lks_len (m : Nat) (l : List Vh) : (lks m l).length ≤ 41 := by
  have := lksW_len 40 m true l
  rw [lksW_true] at this
  omega
theorem stp_deep (w : Bool) : ∀ (d m n : Nat), n ≤ 2 ^ d → ∀ e, d ≤ e → stp w e m n = stp w d m n
  | 0, m, n, h, e, _ => by rw [stp_nil (.inl (by simp at h; omega)), stp_nil (.inl (by simp at h; omega))]
  | d + 1, m, n, h, e, he => by
    obtain ⟨e, rfl⟩ : ∃ f, e = f + 1 := ⟨e - 1, by omega⟩
    by_cases a : n < 2 ∨ (w = true ∧ m = n)
    · rw [stp_nil a, stp_nil a]
    · obtain ⟨a1, a2, a3⟩ := sp_spec (n := n) (by omega)
      have a4 := sp_le (n := n) (d := d) (by omega) h
      by_cases b : m < sp n ∨ (w = true ∧ m = sp n)
      · rw [stp_left a b, stp_left a b, stp_deep w d _ _ (by omega) e (by omega)]
      · rw [stp_right a b, stp_right a b, stp_deep w d _ _ (by omega) e (by omega)]
end Go.Proofs.YtegnhljcpdpdpaaGreatDoor
/- The document's verification: what a tree has is right, and goes together. No condition. -/
set_option linter.unusedVariables false
set_option linter.unusedSimpArgs false
namespace Go.Proofs.YtegnhljcpdpdpaaGreatDoor
open Go
theorem fold_root : ∀ (d m : Nat) (l : List Vh) (hm : m < l.length), l.length ≤ 2 ^ d → l.length ≤ 512 →
    (((stp false d m l.length).map (·.1)).reverse.zip (pth false d m l)).foldl (fun x p => if p.1 = true then node p.2 x else node x p.2) l[m] = rt 40 l
  | 0, m, l, hm, h, _ => by
    have h1 : l.length = 1 := by rw [Nat.pow_zero] at h; omega
    obtain ⟨x, rfl⟩ := List.length_eq_one_iff.1 h1
    rw [rt_small (by simp)]
    simp [stp]
  | d + 1, m, l, hm, h, hb => by
    by_cases h1 : l.length < 2
    · have h1 : l.length = 1 := by omega
      obtain ⟨x, rfl⟩ := List.length_eq_one_iff.1 h1
      rw [stp_nil (.inl (by simp)), rt_small (by simp)]
      simp
    · have h2 : 2 ≤ l.length := by omega
      obtain ⟨a1, a2, a3⟩ := sp_spec h2
      have a4 := sp_le h2 h
      have a : ¬ (l.length < 2 ∨ (false = true ∧ m = l.length)) := by simp; omega
      rw [rt40_big h2 hb]
      by_cases b : m < sp l.length
      · have ih := fold_root d m (l.take (sp l.length)) (by rw [List.length_take]; omega) (by rw [List.length_take]; omega) (by rw [List.length_take]; omega)
        simp only [List.getElem_take, len_take l h2] at ih
        rw [stp_left a (.inl b), pth_left a (.inl b), List.map_cons, List.reverse_cons, List.zip_append (by rw [List.length_reverse, List.length_map, pth_len, len_take l h2]), List.foldl_append]
        rw [ih]
        rfl
      · have ih := fold_root d (m - sp l.length) (l.drop (sp l.length)) (by rw [List.length_drop]; omega) (by rw [List.length_drop]; omega) (by rw [List.length_drop]; omega)
        have e : (l.drop (sp l.length))[m - sp l.length]'(by rw [List.length_drop]; omega) = l[m] := by
          rw [List.getElem_drop]
          congr 1; omega
        rw [e, List.length_drop] at ih
        rw [stp_right a (by simp; omega), pth_right a (by simp; omega), List.map_cons, List.reverse_cons, List.zip_append (by rw [List.length_reverse, List.length_map, pth_len, List.length_drop]), List.foldl_append]
        rw [ih]
        rfl
theorem foldl_take_succ {α β : Type} (f : β → α → β) (l : List α) (b : β) (i : Nat) (h : i < l.length) : (l.take (i + 1)).foldl f b = f ((l.take i).foldl f b) l[i] := by
  rw [List.take_add_one, List.getElem?_eq_getElem h, List.foldl_append]; rfl
/-- The root of the first ones, by the same halves. -/
theorem rt_first {m : Nat} {l : List Vh} (h2 : 2 ≤ l.length) (hb : l.length ≤ 512) (h1 : sp l.length < m) (hm : m ≤ l.length) : rt 40 (l.take m) = node (rt 40 (l.take (sp l.length))) (rt 40 ((l.drop (sp l.length)).take (m - sp l.length))) := by
  obtain ⟨a1, a2, a3⟩ := sp_spec h2
  have hlm : (l.take m).length = m := by rw [List.length_take]; omega
  have hs : sp (l.take m).length = sp l.length := by
    rw [hlm]
    unfold sp at a2 h1 ⊢
    exact sp_unique h1 (by rw [Nat.pow_succ]; omega)
  rw [rt40_big (by omega) (by omega), hs, List.take_take, Nat.min_eq_left (by omega), List.drop_take]
end Go.Proofs.YtegnhljcpdpdpaaGreatDoor
/- Shards: paths. No condition. -/
set_option linter.unusedVariables false
set_option linter.unusedSimpArgs false
namespace Go.Proofs.YtegnhljcpdpdpaaGreatDoor
open Go
theorem hpath_ok {m q : Nat} {w s : Int} {lv pk : List Vh} {rows : List Rec} {n : Int} (a b : Int) (c : Vh) (d : Int) (e : Vh) (hm : m < q) (h : q ≤ lv.length) (hl : lv.length ≤ 512) : shard_Shard_Path_2 1000 ((m : Int), (q : Int), w, s, a, b, c, d, e, vgl_sha_keys, lv, rows, n, pk) = some (0, pth false 40 m (lv.take q)) := by
  unfold shard_Shard_Path_2
  dsimp only
  rw [ilt_f (by omega), condO_false, igt_f (show (q : Int) ≤ llen lv by unfold llen; omega), condO_false, guardO_pos ⟨by omega, by omega, by unfold llen; omega, by omega⟩, ltake_nat]
  refine bind_of (path_ok (by rw [List.length_take]; omega) (by rw [List.length_take]; omega)) ?_
  dsimp only
  rw [Bool.not_true, condO_false]
theorem hpath_no {m q : Nat} {w s : Int} {lv pk : List Vh} {rows : List Rec} {n : Int} (a b : Int) (c : Vh) (d : Int) (e : Vh) (hm : q ≤ m) (h1 : 1 ≤ q) (h : q ≤ lv.length) : shard_Shard_Path_2 1000 ((m : Int), (q : Int), w, s, a, b, c, d, e, vgl_sha_keys, lv, rows, n, pk) = some (19, []) := by
  unfold shard_Shard_Path_2
  dsimp only
  rw [ilt_f (by omega), condO_false, igt_f (show (q : Int) ≤ llen lv by unfold llen; omega), condO_false, guardO_pos ⟨by omega, by omega, by unfold llen; omega, by omega⟩, ltake_nat]
  refine bind_of (ppath_bad (.inr (by rw [List.length_take]; omega))) ?_
  dsimp only
  rw [Bool.not_false, condO_true]
theorem hpath_out {m q : Int} {w s : Int} {lv pk : List Vh} {rows : List Rec} {n : Int} (a b : Int) (c : Vh) (d : Int) (e : Vh) (h : q < 1 ∨ (lv.length : Int) < q) : shard_Shard_Path_2 1000 (m, q, w, s, a, b, c, d, e, vgl_sha_keys, lv, rows, n, pk) = some (19, []) := by
  unfold shard_Shard_Path_2
  dsimp only
  by_cases h1 : q < 1
  · rw [ilt_t h1, condO_true]
  · rw [ilt_f (by omega), condO_false, igt_t (show llen lv < q by unfold llen; omega), condO_true]
theorem place_of (x : Int) {n : Nat} (h : 0 < n) (hn : n ≤ 512) : ∃ m : Nat, m < n ∧ Int.tmod (WK .i64 (Int.tmod x (n : Int) + (n : Int))) (n : Int) = (m : Int) := by
  have h1 : Int.tmod x (n : Int) < (n : Int) := Int.tmod_lt_of_pos x (by omega)
  have h2 : -(n : Int) < Int.tmod x (n : Int) := Int.lt_tmod_of_pos x (b := (n : Int)) (by omega)
  rw [wk_i64 (by omega) (by omega)]
  have h3 : Int.tmod (Int.tmod x (n : Int) + (n : Int)) (n : Int) < (n : Int) := Int.tmod_lt_of_pos _ (by omega)
  have h4 : 0 ≤ Int.tmod (Int.tmod x (n : Int) + (n : Int)) (n : Int) := Int.tmod_nonneg _ (by omega)
  exact ⟨(Int.tmod (Int.tmod x (n : Int) + (n : Int)) (n : Int)).toNat, by omega, by omega⟩
theorem size_of (x : Int) {n : Nat} (h : 0 < n) (hn : n ≤ 512) : ∃ m : Nat, 1 ≤ m ∧ m ≤ n ∧ WK .i64 (1 + Int.tmod (WK .i64 (Int.tmod x (n : Int) + (n : Int))) (n : Int)) = (m : Int) := by
  obtain ⟨m, h1, h2⟩ := place_of x h hn
  refine ⟨m + 1, by omega, by omega, ?_⟩
  rw [h2, wk_i64 (by omega) (by omega)]; omega
theorem mod_place (a : Int) {n : Nat} (h : 0 < n) (hn : n ≤ 512) : ∃ m : Nat, m < n ∧ (condO (ilt (Int.tmod a (n : Int)) 0) (some ((WK .i64 (0 - (Int.tmod a (n : Int)))))) (some ((Int.tmod a (n : Int)))) : Option (Int)) = some (m : Int) := by
  have h1 : Int.tmod a (n : Int) < (n : Int) := Int.tmod_lt_of_pos a (by omega)
  have h2 : -(n : Int) < Int.tmod a (n : Int) := Int.lt_tmod_of_pos a (b := (n : Int)) (by omega)
  by_cases h : Int.tmod a (n : Int) < 0
  · refine ⟨(0 - Int.tmod a (n : Int)).toNat, by omega, ?_⟩
    rw [ilt_t h, condO_true, wk_i64 (by omega) (by omega)]
    congr 1; omega
  · refine ⟨(Int.tmod a (n : Int)).toNat, by omega, ?_⟩
    rw [ilt_f (by omega), condO_false]
    congr 1; omega
end Go.Proofs.YtegnhljcpdpdpaaGreatDoor
/- Shards: the program's and the document's, side by side. No condition. -/
set_option linter.unusedVariables false
set_option linter.unusedSimpArgs false
namespace Go.Proofs.YtegnhljcpdpdpaaGreatDoor
open Go
abbrev mayRec (r : Rec) : Prop := mayR r.1 r.2.1 r.2.2.1 r.2.2.2
theorem rcheck_yes {w i t : Int} {p : ByteArray} (h : mayR w i t p) : ref15_Check 1000 (w, i, t, p) = some 0 := by
  obtain ⟨⟨h1, h2⟩, ⟨h3, h4⟩, ⟨h5, h6⟩, h7⟩ := h
  unfold ref15_Check
  dsimp only
  rw [ilt_f h1, condO_false, igt_f h2, condO_false, ilt_f h3, condO_false, igt_f h4, condO_false, ilt_f h5, condO_false, igt_f h6, condO_false, igt_f (show blen p ≤ 2000 by show ((p.size : Nat) : Int) ≤ 2000; omega), condO_false]
theorem rrec_bytes {w i t : Int} {p : ByteArray} (h : mayR w i t p) : ref15_Bytes 1000 (w, i, t, p) = some (mkB (recL (w, i, t, p)), 0) := by
  have hc := rcheck_yes h
  have hl := recL_len h
  obtain ⟨⟨h1, h2⟩, ⟨h3, h4⟩, ⟨h5, h6⟩, h7⟩ := h
  unfold recL at hl ⊢
  simp only [List.length_append, bytes_len] at hl
  unfold ref15_Bytes
  dsimp only
  refine bind_of hc ?_
  rw [ine_f (rfl : (0 : Int) = 0), condO_false]
  have e4 : ref01_Put 1000 (WK .u64 (blen p)) = some (mkB (putL p.size)) := rput_of (x := (p.size : Int)) (by omega) (by omega)
  refine bind_of (rput_of h1 h2) (bind_of (rput_of h5 (by omega)) ?_)
  refine (guardO_pos (cat_mkB (by omega))).trans ?_
  refine bind_of (rput_of h3 h4) ?_
  rw [mkB_app]
  refine (guardO_pos (cat_mkB (by rw [List.length_append]; omega))).trans ?_
  refine bind_of e4 ?_
  have hp := mkB_bytes p
  obtain ⟨pl, hpl⟩ : ∃ pl, pl = p.data.toList := ⟨_, rfl⟩
  have hpn : pl.length = p.size := by rw [hpl]; exact bytes_len p
  rw [← hpl] at hp ⊢
  rw [← hp]
  refine (guardO_pos (cat_mkB (by rw [hpn, hp]; omega))).trans ?_
  rw [mkB_app, mkB_app]
  refine (guardO_pos (cat_mkB (by simp only [List.length_append]; rw [hpn, hp]; omega))).trans ?_
  rw [mkB_app]
  simp only [List.append_assoc]
theorem rrleaf_ref {w i t : Int} {p : ByteArray} (h : mayR w i t p) : ref02_Of 1000 (⟨#[0]⟩ ++ mkB (recL (w, i, t, p))) = some (lfR (w, i, t, p)) := by
  have hl := recL_len h
  have e : (⟨#[0]⟩ : ByteArray) ++ mkB (recL (w, i, t, p)) = mkB ([0] ++ recL (w, i, t, p)) := mkB_app [0] _
  rw [e, ref_of _ (by simp; omega)]
  rfl
/-- The document's leaves. -/
theorem rleaves_ok {recs : List Rec} (hm : ∀ r ∈ recs, mayRec r) (hl : recs.length ≤ 60) (a1 a2 a3 a4 a5 : Int) (a6 : Vh) (a7 : Int) (a8 : Vh) : ref17_Shard_Leaves 1000 (a1, a2, a3, a4, a5, a6, a7, a8, recs) = some (recs.map lfR) := by
  unfold ref17_Shard_Leaves
  refine bind_of (a := recs.map lfR) ?_ rfl
  refine loopK_run (fun i : Nat => ((i : Int), (recs.take i).map lfR)) recs.length _ 1000 (fun i hi => ?_) ?_ (by omega)
  · have ea : at_ T5 recs (i : Int) = recs[i] := at_nat (t := TR) hi
    have hma : mayRec recs[i] := hm _ (List.getElem_mem hi)
    have hl' := recL_len hma
    dsimp only
    rw [ilt_t (show (i : Int) < llen recs by unfold llen; omega), condO_true, guardO_pos ⟨by omega, by unfold llen; omega⟩, ea, rrec_bytes hma, Option.bind_some]
    dsimp only
    rw [guardO_pos (cat_mkB (a := [0]) (by simp; omega)), rrleaf_ref hma, Option.bind_some, guardO_pos (show appOk _ _ _ from by unfold appOk; simp; omega), wk_i64 (by omega) (by omega)]
    rw [List.take_add_one, List.getElem?_eq_getElem hi, List.map_append]
    rfl
  · dsimp only
    rw [ilt_f (show llen recs ≤ (recs.length : Int) by unfold llen; omega), condO_false, List.take_length]
theorem rfreeze_ok {recs : List Rec} (hm : ∀ r ∈ recs, mayRec r) (hl : recs.length ≤ 60) (a1 a2 a3 a4 a5 : Int) (a6 : Vh) (a7 : Int) (a8 : Vh) : ref17_Shard_Freeze 1000 (a1, a2, a3, a4, a5, a6, a7, a8, recs) = some (a1, (recs.length : Int), rt 40 (recs.map lfR)) := by
  unfold ref17_Shard_Freeze
  exact bind_of (rleaves_ok hm hl ..) (bind_of (rroot40 _ (by rw [List.length_map]; omega)) rfl)
/-- A shard of both, as it may stand. -/
structure PI (w st : Int) (left : Nat) (lv pk : List Vh) (rows recs : List Rec) : Prop where
  hw0 : 0 ≤ w ∧ w ≤ 1125899906842624
  hst : st = 0 ∨ st = 1 ∨ st = 2
  hlv : lv = recs.map lfR
  hrows : rows = recs.take left
  hleft : left ≤ recs.length
  hfull : st ≠ 2 → left = recs.length
  hmay : ∀ r ∈ recs, mayRec r
  hstk : Stk 0 lv.length pk.reverse lv
  hsome : st ≠ 0 → 1 ≤ recs.length
theorem PI.len {w st : Int} {left : Nat} {lv pk : List Vh} {rows recs : List Rec} (I : PI w st left lv pk rows recs) : lv.length = recs.length := by rw [I.hlv, List.length_map]
theorem PI.rlen {w st : Int} {left : Nat} {lv pk : List Vh} {rows recs : List Rec} (I : PI w st left lv pk rows recs) : rows.length = left := by rw [I.hrows, List.length_take]; have := I.hleft; omega
section
variable {w st : Int} {left : Nat} {lv pk : List Vh} {rows recs : List Rec}
/-- A record is told. -/
theorem get_same (I : PI w st left lv pk rows recs) (i : Int) (a b : Int) (c : Vh) (d : Int) (e : Vh) (n : Int) :
    ∃ v : Int × Int × Int × ByteArray × Int, shard_Shard_Get 1000 (i, w, st, a, b, c, d, e, lv, rows, n, pk) = some v ∧ ref17_Shard_Get 1000 (i, w, st, (left : Int), a, b, c, d, e, recs) = some v := by
  have hl := I.len
  have hr := I.rlen
  unfold shard_Shard_Get ref17_Shard_Get
  dsimp only
  by_cases h0 : i < 0
  · rw [ige_f h0, condO_false, ilt_t h0, condO_true]; exact ⟨_, rfl, rfl⟩
  · rw [ige_t (show 0 ≤ i by omega), condO_true, ilt_f (show 0 ≤ i by omega), condO_false]
    by_cases h1 : i < (recs.length : Int)
    · rw [ilt_t (show i < llen lv by unfold llen; omega), Bool.not_true, condO_false, ige_f (show i < llen recs by unfold llen; omega), condO_false]
      by_cases h2 : st = 2
      · rw [ieq_t h2, condO_true, condO_true]; exact ⟨_, rfl, rfl⟩
      · have hf := I.hfull h2
        have e1 : rows = recs := by rw [I.hrows, hf, List.take_length]
        rw [ieq_f h2, condO_false, condO_false, e1, guardO_pos ⟨by omega, by unfold llen; omega⟩]
        exact ⟨_, rfl, rfl⟩
    · rw [ilt_f (show llen lv ≤ i by unfold llen; omega), Bool.not_false, condO_true, ige_t (show llen recs ≤ i by unfold llen; omega), condO_true]
      exact ⟨_, rfl, rfl⟩
/-- A path is told. -/
theorem path_same (I : PI w st left lv pk rows recs) (hb : recs.length ≤ 60) (i q : Int) (a b : Int) (c : Vh) (d : Int) (e : Vh) (n : Int) :
    ∃ (x : Int) (l : List Vh), l.length ≤ 900 ∧ shard_Shard_Path_2 1000 (i, q, w, st, a, b, c, d, e, vgl_sha_keys, lv, rows, n, pk) = some (x, l) ∧ ref17_Shard_Path 1000 (i, q, w, st, (left : Int), a, b, c, d, e, recs) = some (x, l) := by
  have hl := I.len
  unfold shard_Shard_Path_2 ref17_Shard_Path
  dsimp only
  by_cases h1 : q < 1
  · rw [ilt_t h1, condO_true, condO_true]; exact ⟨_, _, by simp, rfl, rfl⟩
  · rw [ilt_f (show 1 ≤ q by omega), condO_false, condO_false]
    by_cases h2 : (recs.length : Int) < q
    · rw [igt_t (show llen lv < q by unfold llen; omega), condO_true, igt_t (show llen recs < q by unfold llen; omega), condO_true]; exact ⟨_, _, by simp, rfl, rfl⟩
    · obtain ⟨Q, rfl⟩ : ∃ Q : Nat, q = (Q : Int) := ⟨q.toNat, by omega⟩
      have hlQ : (lv.take Q).length = Q := by rw [List.length_take]; omega
      rw [igt_f (show (Q : Int) ≤ llen lv by unfold llen; omega), condO_false, igt_f (show (Q : Int) ≤ llen recs by unfold llen; omega), condO_false, guardO_pos ⟨by omega, by omega, by unfold llen; omega, by omega⟩, ltake_nat]
      by_cases h3 : i < 0
      · rw [ppath_bad (.inl h3), Option.bind_some, ilt_t h3, condO_true]; exact ⟨_, _, by simp, rfl, rfl⟩
      · rw [ilt_f (show 0 ≤ i by omega), condO_false]
        by_cases h4 : (Q : Int) ≤ i
        · rw [ppath_bad (.inr (by rw [hlQ]; exact h4)), Option.bind_some, ige_t h4, condO_true]; exact ⟨_, _, by simp, rfl, rfl⟩
        · obtain ⟨m, rfl⟩ : ∃ m : Nat, i = (m : Int) := ⟨i.toNat, by omega⟩
          rw [ige_f (show (m : Int) < (Q : Int) by omega), condO_false, path_ok (by rw [hlQ]; omega) (by rw [hlQ]; omega), Option.bind_some, rleaves_ok I.hmay hb, Option.bind_some, guardO_pos ⟨by omega, by omega, by unfold llen; rw [List.length_map]; omega, by omega⟩, ltake_nat, ← I.hlv, rpath_ok (by rw [hlQ]; omega) (by rw [hlQ]; omega), Option.bind_some]
          refine ⟨_, _, ?_, rfl, rfl⟩
          rw [pth_len]; exact Nat.le_trans (stp_len ..) (by omega)
end
end Go.Proofs.YtegnhljcpdpdpaaGreatDoor
/- Shards: the program's and the document's, call by call. No condition. -/
set_option linter.unusedVariables false
set_option linter.unusedSimpArgs false
namespace Go.Proofs.YtegnhljcpdpdpaaGreatDoor
open Go
/-- What is checked of a record: the same, and OK only if it may be. -/
theorem check_same (w i t : Int) (p : ByteArray) : ∃ c : Int, record_Check 1000 (w, i, t, p) = some c ∧ ref15_Check 1000 (w, i, t, p) = some c ∧ (c = 0 → mayR w i t p) := by
  unfold record_Check ref15_Check
  dsimp only
  by_cases h1 : w < 0
  · rw [ige_f h1, condO_false, ilt_t h1, condO_true]; exact ⟨_, rfl, rfl, fun h => by omega⟩
  rw [ige_t (show 0 ≤ w by omega), condO_true, ilt_f (show 0 ≤ w by omega), condO_false]
  by_cases h2 : 1125899906842624 < w
  · rw [ile_f h2, Bool.not_false, condO_true, igt_t h2, condO_true]; exact ⟨_, rfl, rfl, fun h => by omega⟩
  rw [ile_t (show w ≤ 1125899906842624 by omega), Bool.not_true, condO_false, igt_f (show w ≤ 1125899906842624 by omega), condO_false]
  by_cases h3 : t < 0
  · rw [ige_f h3, condO_false, ilt_t h3, condO_true]; exact ⟨_, rfl, rfl, fun h => by omega⟩
  rw [ige_t (show 0 ≤ t by omega), condO_true, ilt_f (show 0 ≤ t by omega), condO_false]
  by_cases h4 : 1125899906842624 < t
  · rw [ile_f h4, Bool.not_false, condO_true, igt_t h4, condO_true]; exact ⟨_, rfl, rfl, fun h => by omega⟩
  rw [ile_t (show t ≤ 1125899906842624 by omega), Bool.not_true, condO_false, igt_f (show t ≤ 1125899906842624 by omega), condO_false]
  by_cases h5 : i < 0
  · rw [ige_f h5, condO_false, ilt_t h5, condO_true]; exact ⟨_, rfl, rfl, fun h => by omega⟩
  rw [ige_t (show 0 ≤ i by omega), condO_true, ilt_f (show 0 ≤ i by omega), condO_false]
  by_cases h6 : 3999 < i
  · rw [ile_f h6, Bool.not_false, condO_true, igt_t h6, condO_true]; exact ⟨_, rfl, rfl, fun h => by omega⟩
  rw [ile_t (show i ≤ 3999 by omega), Bool.not_true, condO_false, igt_f (show i ≤ 3999 by omega), condO_false]
  by_cases h7 : 2000 < p.size
  · rw [igt_t (show (2000 : Int) < blen p by show (2000 : Int) < ((p.size : Nat) : Int); omega), condO_true]; exact ⟨_, rfl, rfl, fun h => by omega⟩
  rw [igt_f (show blen p ≤ 2000 by show ((p.size : Nat) : Int) ≤ 2000; omega), condO_false]
  exact ⟨_, rfl, rfl, fun _ => ⟨⟨by omega, by omega⟩, ⟨by omega, by omega⟩, ⟨by omega, by omega⟩, by omega⟩⟩
section
variable {w st : Int} {left : Nat} {lv pk : List Vh} {rows recs : List Rec}
theorem add_same (I : PI w st left lv pk rows recs) (hb : recs.length ≤ 50) (t : Int) (p : ByteArray) (a b : Int) (c : Vh) (d : Int) (e : Vh) :
    ∃ (i x : Int) (left' : Nat) (lv' pk' : List Vh) (rows' recs' : List Rec), shard_Shard_Add 1000 (t, p, w, st, a, b, c, d, e, vgl_sha_keys, lv, rows, (lv.length : Int), pk) = some (i, x, w, st, a, b, c, d, e, (lv'.length : Int), lv', rows', pk') ∧
      ref17_Shard_Add 1000 (t, p, w, st, (left : Int), a, b, c, d, e, recs) = some (i, x, w, st, (left' : Int), a, b, c, d, e, recs') ∧ PI w st left' lv' pk' rows' recs' ∧ recs'.length ≤ recs.length + 1 := by
  have hl := I.len
  by_cases h0 : st = 0
  · subst h0
    have hf := I.hfull (by omega)
    have er : rows = recs := by rw [I.hrows, hf, List.take_length]
    obtain ⟨k, hk1, hk2, hk3⟩ := check_same w (lv.length : Int) t p
    by_cases hk : k = 0
    · have hm := hk3 hk
      obtain ⟨pk', h1, h2⟩ := add17 (rows := rows) hm a b c d e I.hstk (by omega) (by rw [er]; omega)
      have hlen : (lv ++ [lfR (w, (lv.length : Int), t, p)]).length = lv.length + 1 := by simp
      refine ⟨_, _, recs.length + 1, _, pk', _, recs ++ [(w, (recs.length : Int), t, p)], h1.trans (by rw [hlen]), ?_, ?_, by simp⟩
      · unfold ref17_Shard_Add
        dsimp only
        rw [ine_f rfl, condO_false, ige_f (show llen recs < 4000 by unfold llen; omega), condO_false, show llen recs = (lv.length : Int) by unfold llen; omega, hk2, Option.bind_some, ine_f hk, condO_false, guardO_pos (show appOk _ _ _ from by unfold appOk; simp; omega)]
        have e1 : llen (recs ++ [(w, (lv.length : Int), t, p)]) = ((recs.length + 1 : Nat) : Int) := by unfold llen; simp
        rw [e1, wk_i64 (by omega) (by omega)]
        have e2 : ((recs.length + 1 : Nat) : Int) - 1 = (lv.length : Int) := by omega
        rw [e2, hl]
      · refine ⟨I.hw0, .inl rfl, ?_, ?_, by simp, fun _ => by simp, ?_, by rw [hlen]; exact h2, fun h => by omega⟩
        · rw [List.map_append, I.hlv, List.length_map]; rfl
        · rw [er, hl, List.take_of_length_le (by simp)]
        · intro r hr
          rcases List.mem_append.1 hr with hr | hr
          · exact I.hmay r hr
          · rw [List.mem_singleton] at hr
            subst hr
            show mayR w (recs.length : Int) t p
            rw [← hl]; exact hm
    · refine ⟨0, k, left, lv, pk, rows, recs, ?_, ?_, I, by omega⟩
      · unfold shard_Shard_Add
        dsimp only
        rw [ine_f rfl, condO_false, ige_f (show llen lv < 4000 by unfold llen; omega), condO_false, show llen lv = (lv.length : Int) from rfl, hk1, Option.bind_some, ine_t hk, condO_true]
      · unfold ref17_Shard_Add
        dsimp only
        rw [ine_f rfl, condO_false, ige_f (show llen recs < 4000 by unfold llen; omega), condO_false, show llen recs = (lv.length : Int) by unfold llen; omega, hk2, Option.bind_some, ine_t hk, condO_true]
  · refine ⟨0, 13, left, lv, pk, rows, recs, ?_, ?_, I, by omega⟩
    · unfold shard_Shard_Add
      dsimp only
      rw [ine_t h0, condO_true]
    · unfold ref17_Shard_Add
      dsimp only
      rw [ine_t h0, condO_true]
theorem close_same (I : PI w st left lv pk rows recs) (hb : recs.length ≤ 50) (a b : Int) (c : Vh) (d : Int) (e : Vh) :
    ∃ (f1 f2 : Int) (f3 : Vh) (x st' : Int), shard_Shard_Close 1000 (w, st, a, b, c, d, e, vgl_sha_keys, lv, rows, (lv.length : Int), pk) = some (f1, f2, f3, x, w, st', a, b, c, d, e, lv, rows) ∧
      ref17_Shard_Close 1000 (w, st, (left : Int), a, b, c, d, e, recs) = some (f1, f2, f3, x, w, st', (left : Int), a, b, c, d, e, recs) ∧ PI w st' left lv pk rows recs := by
  have hl := I.len
  by_cases h0 : st = 0
  · subst h0
    have hf := I.hfull (by omega)
    by_cases h1 : recs.length = 0
    · refine ⟨0, 0, z32, 13, 0, ?_, ?_, I⟩
      · unfold shard_Shard_Close
        dsimp only
        rw [ine_f rfl, condO_false, ieq_t (show llen lv = 0 by unfold llen; omega), condO_true]
      · unfold ref17_Shard_Close
        dsimp only
        rw [ine_f rfl, condO_false, ieq_t (show llen recs = 0 by unfold llen; omega), condO_true]
    · refine ⟨w, (lv.length : Int), rt 40 lv, 0, 1, close_ok a b c d e I.hstk (by omega) (by omega), ?_, ⟨I.hw0, .inr (.inl rfl), I.hlv, I.hrows, I.hleft, fun _ => hf, I.hmay, I.hstk, fun _ => by omega⟩⟩
      unfold ref17_Shard_Close
      dsimp only
      rw [ine_f rfl, condO_false, ieq_f (show llen recs ≠ 0 by unfold llen; omega), condO_false, rfreeze_ok I.hmay (by omega), Option.bind_some]
      dsimp only
      rw [← I.hlv, hl]
  · refine ⟨0, 0, z32, 13, st, ?_, ?_, I⟩
    · unfold shard_Shard_Close
      dsimp only
      rw [ine_t h0, condO_true]
    · unfold ref17_Shard_Close
      dsimp only
      rw [ine_t h0, condO_true]
/-- A stone that says nothing. -/
theorem pbytes_no {w c : Int} (r : Vh) {t : Int} (h : ¬ (mayF w c ∧ 0 ≤ t ∧ t ≤ 1125899906842624)) (m : Vh) : seal_StoneBytes 1000 (w, c, r, t, m) = some (str0, 1) ∧ ref16_StoneBytes 1000 (w, c, r, t, m) = some (str0, 1) := by
  have h1 : seal_stoneSays 1000 (w, c, r, t, m) = some (str0, 1) ∧ ref16_stoneSays 1000 (w, c, r, t, m) = some (str0, false) := by
    unfold seal_stoneSays ref16_stoneSays
    by_cases hF : mayF w c
    · rw [fz_yes hF r, rfz_yes hF r, Option.bind_some, Option.bind_some]
      dsimp only
      rw [ine_f rfl, condO_false, condO_false]
      by_cases h0 : t < 0
      · rw [ige_f h0, condO_false, ilt_t h0, condO_true]; exact ⟨rfl, rfl⟩
      · have h2 : 1125899906842624 < t := by
          apply Classical.byContradiction
          intro h2
          exact h ⟨hF, by omega, by omega⟩
        rw [ige_t (show 0 ≤ t by omega), condO_true, ilt_f (show 0 ≤ t by omega), condO_false, ile_f h2, Bool.not_false, condO_true, igt_t h2, condO_true]
        exact ⟨rfl, rfl⟩
    · rw [fz_no hF r, rfz_no hF r, Option.bind_some, Option.bind_some]
      dsimp only
      rw [ine_t (show (1 : Int) ≠ 0 by decide), condO_true, condO_true]
      exact ⟨rfl, rfl⟩
  constructor
  · unfold seal_StoneBytes
    refine bind_of h1.1 ?_
    dsimp only
    rw [ine_t (show (1 : Int) ≠ 0 by decide), condO_true]
  · unfold ref16_StoneBytes
    refine bind_of h1.2 ?_
    dsimp only
    rw [Bool.not_false, condO_true]
theorem rbytes_ok {w c : Int} (h : mayF w c) (r : Vh) {t : Int} (h0 : 0 ≤ t) (h1 : t ≤ 1125899906842624) (m : Vh) : ref16_StoneBytes 1000 (w, c, r, t, m) = some (mkB (stoneL w c r t ++ (putL 32 ++ vb m)), 0) := by
  have hl := stoneL_len h r h0 h1
  have d := put_small (x := 32) (by decide)
  unfold ref16_StoneBytes
  refine bind_of (rsays_ok h r h0 h1 m) ?_
  dsimp only
  rw [Bool.not_true, condO_false, vb_blen]
  refine bind_of (rput_of (x := 32) (by decide) (by decide)) ?_
  refine (guardO_pos (cat_mkB (a := putL 32) (b := vb m) (by rw [vb_len]; omega))).trans ?_
  rw [vb_str, show mkB (putL (32 : Int).toNat) ++ mkB (vb m) = mkB (putL 32 ++ vb m) from mkB_app _ _]
  refine (guardO_pos (cat_mkB (by simp only [List.length_append, vb_len]; omega))).trans ?_
  rw [mkB_app]
theorem prune_same (I : PI w st left lv pk rows recs) (hb : recs.length ≤ 50) (fw fc : Int) (fr : Vh) (t : Int) (m : Vh) (a b : Int) (c : Vh) (d : Int) (e : Vh) :
    ∃ (x st' a' b' : Int) (c' : Vh) (d' : Int) (e' : Vh), shard_Shard_Prune 1000 (fw, fc, fr, t, m, w, st, a, b, c, d, e, vgl_sha_keys, lv, rows, (lv.length : Int), pk) = some (x, w, st', a', b', c', d', e', lv, rows) ∧
      ref17_Shard_Prune 1000 (fw, fc, fr, t, m, w, st, (left : Int), a, b, c, d, e, recs) = some (x, w, st', (left : Int), a', b', c', d', e', recs) ∧ PI w st' left lv pk rows recs := by
  have hl := I.len
  by_cases h1 : st = 1
  · subst h1
    have hf := I.hfull (by omega)
    have hsome := I.hsome (by omega)
    have fin : PI w 2 left lv pk rows recs := ⟨I.hw0, .inr (.inr rfl), I.hlv, I.hrows, I.hleft, fun _ => hf, I.hmay, I.hstk, fun _ => hsome⟩
    unfold shard_Shard_Prune ref17_Shard_Prune
    dsimp only
    rw [ine_f rfl, condO_false, condO_false, rfreeze_ok I.hmay (by omega), says_ok a b c d e I.hstk (by omega)]
    by_cases hS : mayF fw fc ∧ 0 ≤ t ∧ t ≤ 1125899906842624
    · rw [pbytes_ok hS.1 fr hS.2.1 hS.2.2 m, rbytes_ok hS.1 fr hS.2.1 hS.2.2 m, Option.bind_some, Option.bind_some, Option.bind_some, Option.bind_some]
      dsimp only
      rw [ine_f rfl, condO_false, condO_false, ← I.hlv, hl]
      obtain ⟨q, hq⟩ : ∃ q, q = ((ieq fw w) && ((ieq fc (recs.length : Int)) && ((sameI 32 fr (rt 40 lv) (List.range 32)) && true))) := ⟨_, rfl⟩
      rw [← hq]
      cases q with
      | false => exact ⟨_, _, _, _, _, _, _, rfl, rfl, I⟩
      | true => exact ⟨_, _, _, _, _, _, _, rfl, rfl, fin⟩
    · obtain ⟨n1, n2⟩ := pbytes_no fr hS m
      rw [n1, n2]
      simp only [Option.bind_some]
      rw [ine_t (show (1 : Int) ≠ 0 by decide), condO_true, condO_true]
      obtain ⟨q, hq⟩ : ∃ q, q = ((ieq fw w) && ((ieq fc (recs.length : Int)) && ((sameI 32 fr (rt 40 (recs.map lfR)) (List.range 32)) && true))) := ⟨_, rfl⟩
      rw [← hq]
      cases q with
      | false => exact ⟨_, _, _, _, _, _, _, rfl, rfl, I⟩
      | true => exact ⟨_, _, _, _, _, _, _, rfl, rfl, I⟩
  · refine ⟨13, st, a, b, c, d, e, ?_, ?_, I⟩
    · unfold shard_Shard_Prune
      dsimp only
      rw [ine_t h1, condO_true]
    · unfold ref17_Shard_Prune
      dsimp only
      rw [ine_t h1, condO_true]
theorem strip_same (I : PI w st left lv pk rows recs) (hb : recs.length ≤ 50) (k : Int) (a b : Int) (c : Vh) (d : Int) (e : Vh) (n : Int) :
    ∃ (left' : Nat) (rows' : List Rec), shard_Shard_Strip 1000 (k, w, st, a, b, c, d, e, lv, rows, n, pk) = some ((left' : Int), w, st, a, b, c, d, e, lv, rows') ∧
      ref17_Shard_Strip 1000 (k, w, st, (left : Int), a, b, c, d, e, recs) = some ((left' : Int), w, st, (left' : Int), a, b, c, d, e, recs) ∧ PI w st left' lv pk rows' recs := by
  have hl := I.len
  have hr := I.rlen
  have hle := I.hleft
  by_cases h2 : st = 2
  · subst h2
    have hc : cutN k left ≤ left := Nat.min_le_right ..
    have hs := strip_pruned (k := k) (w := w) (lv := lv) (pk := pk) (rows := rows) (n := n) a b c d e (by omega)
    rw [hr] at hs
    refine ⟨left - cutN k left, _, hs, ?_, ⟨I.hw0, .inr (.inr rfl), I.hlv, ?_, by omega, fun h => absurd rfl h, I.hmay, I.hstk, I.hsome⟩⟩
    · unfold ref17_Shard_Strip
      dsimp only
      rw [ieq_t rfl, condO_true]
      by_cases k0 : 0 < k
      · rw [igt_t k0, condO_true]
        by_cases k1 : (left : Int) < k
        · have : cutN k left = left := by unfold cutN; omega
          rw [igt_t k1, condO_true, this, Option.bind_some, wk_i64 (by omega) (by omega)]
          dsimp only
          rw [show ((left - left : Nat) : Int) = (left : Int) - (left : Int) by omega]
        · have : cutN k left = k.toNat := by unfold cutN; omega
          rw [igt_f (by omega), condO_false, this, Option.bind_some, wk_i64 (by omega) (by omega)]
          dsimp only
          rw [show ((left - k.toNat : Nat) : Int) = (left : Int) - k by omega]
      · have : cutN k left = 0 := by unfold cutN; omega
        rw [igt_f (by omega), condO_false, this, Option.bind_some]
        rfl
    · rw [I.hrows, List.take_take, Nat.min_eq_left (by omega)]
  · refine ⟨left, rows, ?_, ?_, I⟩
    · have := strip_open (k := k) (w := w) (lv := lv) (pk := pk) (rows := rows) (n := n) a b c d e h2
      rw [hr] at this
      exact this
    · unfold ref17_Shard_Strip
      dsimp only
      rw [ieq_f h2, condO_false]
      rfl
end
end Go.Proofs.YtegnhljcpdpdpaaGreatDoor
/- Shards: what both have is the same. No condition. -/
set_option linter.unusedVariables false
set_option linter.unusedSimpArgs false
namespace Go.Proofs.YtegnhljcpdpdpaaGreatDoor
open Go
section
variable {w st : Int} {left : Nat} {lv pk : List Vh} {rows recs : List Rec}
theorem stone_is (w st : Int) (lv pk : List Vh) (rows : List Rec) (a b : Int) (c : Vh) (d : Int) (e : Vh) (n : Int) : ∃ (is : Bool) (A B : Int) (C : Vh) (D : Int) (E : Vh), shard_Shard_Stone_2 1000 (w, st, a, b, c, d, e, lv, rows, n, pk) = some (A, B, C, D, E, is) ∧ is = ieq st 2 ∧ (is = true → A = a ∧ B = b ∧ C = c ∧ D = d ∧ E = e) := by
  unfold shard_Shard_Stone_2
  dsimp only
  by_cases s2 : st = 2
  · rw [ine_f s2, condO_false, ieq_t s2]
    exact ⟨_, _, _, _, _, _, rfl, rfl, fun _ => ⟨rfl, rfl, rfl, rfl, rfl⟩⟩
  · rw [ine_t s2, condO_true, ieq_f s2]
    exact ⟨_, _, _, _, _, _, rfl, rfl, fun h => by cases h⟩
theorem same_ok (I : PI w st left lv pk rows recs) (hb : recs.length ≤ 50) (at' : Int) (a b : Int) (c : Vh) (d : Int) (e : Vh) :
    law17_same_2 1000 (at', w, st, a, b, c, d, e, w, st, (left : Int), a, b, c, d, e, vgl_sha_keys, lv, rows, (lv.length : Int), recs, pk) = some true := by
  have hl := I.len
  have hr := I.rlen
  have hle := I.hleft
  obtain ⟨v, hv1, hv2⟩ := get_same I at' a b c d e (lv.length : Int)
  obtain ⟨is, A, B, C, D, E, hs1, hs2, hs3⟩ := stone_is w st lv pk rows a b c d e (lv.length : Int)
  have hve : ((ieq v.1 v.1) && ((ieq v.2.1 v.2.1) && ((ieq v.2.2.1 v.2.2.1) && ((sEq v.2.2.2.1 v.2.2.2.1) && true)))) = true := by
    rw [ieq_t rfl, ieq_t rfl, ieq_t rfl, sEq_self]; rfl
  have e1 : ltake (left : Int) recs = rows := by rw [ltake_nat, I.hrows]
  unfold law17_same_2
  dsimp only
  refine bind_of (clone_vh lv (by omega)) (bind_of (rleaves_ok I.hmay (by omega) ..) ?_)
  rw [← I.hlv]
  refine bind_of (same_self lv (by omega)) ?_
  refine (guardO_pos ⟨by omega, by omega, by unfold llen; omega, rfl⟩).trans (bind_of (clone_rec rows (by omega)) ?_)
  rw [e1]
  refine bind_of (rsame_rec rows (by omega)) ?_
  have l1 : llen lv = llen recs := by unfold llen; omega
  have l2 : llen rows = (left : Int) := by unfold llen; omega
  have hfin : ∀ (X Y : Option Bool), condO (beq is (ieq st 2)) (condO (!is) (condO true (condO true (condO (sameI 32 (rt 40 lv) (rt 40 lv) (List.range 32)) (condO true (some (ieq v.2.2.2.2 v.2.2.2.2)) (some false)) (some false)) (some false)) (some false)) (condO true (condO true (condO (sameI 32 (rt 40 lv) (rt 40 lv) (List.range 32)) (condO (((ieq A a) && ((ieq B b) && ((sameI 32 C c (List.range 32)) && true))) && ((ieq D d) && ((sameI 32 E e (List.range 32)) && true))) (condO true (some (ieq v.2.2.2.2 v.2.2.2.2)) (some false)) (some false)) (some false)) (some false)) (some false))) X = some true := by
    intro X Y
    rw [← hs2, sameI_self, ieq_t (rfl : v.2.2.2.2 = v.2.2.2.2)]
    cases is with
    | false => rfl
    | true =>
      obtain ⟨rfl, rfl, rfl, rfl, rfl⟩ := hs3 rfl
      rw [ieq_t rfl, ieq_t rfl, ieq_t rfl, sameI_self, sameI_self]
      rfl
  by_cases st0 : st = 0
  · rw [ieq_t st0, condO_true]
    refine bind_of hs1 (bind_of hv1 (bind_of hv2 ?_))
    dsimp only
    rw [ieq_t rfl, condO_true, ieq_t rfl, condO_true, l1, ieq_t rfl, condO_true, l2, ieq_t rfl, condO_true]
    refine bind_of (froot_all I.hstk (by omega)) (bind_of (rleaves_ok I.hmay (by omega) ..) ?_)
    rw [← I.hlv]
    refine bind_of (rroot40 lv (by omega)) ?_
    rw [igt_f (show st ≤ 0 by omega), show beq false false = true from rfl, condO_true, hve]
    exact hfin _ none
  · rw [ieq_f st0, condO_false]
    refine bind_of (says_ok a b c d e I.hstk (by omega)) (bind_of hs1 (bind_of hv1 (bind_of hv2 ?_)))
    dsimp only
    rw [ieq_t rfl, condO_true, ieq_t rfl, condO_true, l1, ieq_t rfl, condO_true, l2, ieq_t rfl, condO_true]
    refine bind_of (froot_all I.hstk (by omega)) (bind_of (rleaves_ok I.hmay (by omega) ..) ?_)
    rw [← I.hlv]
    refine bind_of (rroot40 lv (by omega)) ?_
    have hst := I.hst
    rw [igt_t (show 0 < st by omega), show beq true true = true from rfl, condO_true]
    refine bind_of (rfreeze_ok I.hmay (by omega) ..) ?_
    dsimp only
    rw [← I.hlv, ieq_t rfl, ieq_t (show (lv.length : Int) = (recs.length : Int) by omega), sameI_self, hve]
    refine (condO_true _ _).trans ?_
    have := hfin (some false) none
    rw [sameI_self] at this
    exact this
end
end Go.Proofs.YtegnhljcpdpdpaaGreatDoor
/- The plain law of ShardPlays. No condition. -/
set_option linter.unusedVariables false
set_option linter.unusedSimpArgs false
namespace Go.Proofs.YtegnhljcpdpdpaaGreatDoor
open Go
def ShardPlaysPure : Prop := ∀ (z0 : Ty.den (.int .i64)) (z1 : Ty.den (.sl 61 (.pair (.int .i64) (.pair (.int .i64) (.pair (.int .i64) .str))))), wfT (.int .i64) z0 → wfT (.sl 61 (.pair (.int .i64) (.pair (.int .i64) (.pair (.int .i64) .str)))) z1 → ∃ k, law17_ShardPlays k (z0, z1, vgl_sha_keys) = some true
theorem bind_ex {α β : Type} {o : Option α} {f : α → Option β} {r : Option β} (P : α → Prop) (h : ∃ s, o = some s ∧ P s) (hf : ∀ s, P s → f s = r) : o.bind f = r := by
  obtain ⟨s, rfl, hp⟩ := h
  exact hf s hp
theorem short100 (p : ByteArray) : ∃ q, law17_short 1000 (p, 100) = some q ∧ q.size ≤ 100 := by
  unfold law17_short
  dsimp only
  by_cases c : 100 < p.size
  · rw [igt_t (show (100 : Int) < blen p by show (100 : Int) < ((p.size : Nat) : Int); omega), condO_true, guardO_pos (show cutOk 0 100 (blen p) from ⟨by omega, by omega, by show (100 : Int) ≤ ((p.size : Nat) : Int); omega⟩)]
    refine ⟨_, rfl, ?_⟩
    unfold scut
    simp [ByteArray.size_extract]
    omega
  · rw [igt_f (show blen p ≤ 100 by show ((p.size : Nat) : Int) ≤ 100; omega), condO_false]
    exact ⟨_, rfl, by omega⟩
theorem mod4 (x : Int) : ∃ m : Int, (condO (ilt (Int.tmod x 4) 0) (some ((WK .i64 (0 - (Int.tmod x 4))))) (some ((Int.tmod x 4))) : Option (Int)) = some m ∧ 0 ≤ m ∧ m ≤ 3 := by
  have h1 : Int.tmod x 4 < 4 := Int.tmod_lt_of_pos x (by omega)
  have h2 : -4 < Int.tmod x 4 := Int.lt_tmod_of_pos x (b := 4) (by omega)
  by_cases h : Int.tmod x 4 < 0
  · exact ⟨_, by rw [ilt_t h, condO_true, wk_i64 (by omega) (by omega)], by omega, by omega⟩
  · exact ⟨_, by rw [ilt_f (by omega), condO_false], by omega, by omega⟩
theorem exists_bind {α β : Type} {o : Option α} {f : α → Option β} {Q : β → Prop} (P : α → Prop) (h : ∃ s, o = some s ∧ P s) (hf : ∀ s, P s → ∃ r, f s = some r ∧ Q r) : ∃ r, o.bind f = some r ∧ Q r := by
  obtain ⟨s, rfl, hp⟩ := h
  exact hf s hp
theorem stone_any (fw fc : Int) (fr : Vh) (t : Int) : ∃ s, ref16_Stone 1000 (⟨#[107, 101, 121]⟩, fw, fc, fr, t) = some s ∧ True := by
  by_cases h : mayF fw fc ∧ 0 ≤ t ∧ t ≤ 1125899906842624
  · exact ⟨_, stone_ok h.1 fr h.2.1 h.2.2 [107, 101, 121] (by decide), trivial⟩
  · refine ⟨(fw, fc, fr, t, z32), ?_, trivial⟩
    unfold ref16_Stone
    have h1 : ref16_stoneSays 1000 (fw, fc, fr, t, Vector.replicate 32 0) = some (str0, false) := by
      unfold ref16_stoneSays
      by_cases hF : mayF fw fc
      · rw [rfz_yes hF fr, Option.bind_some]
        dsimp only
        rw [ine_f rfl, condO_false]
        by_cases h0 : t < 0
        · rw [ilt_t h0, condO_true]
        · have h2 : 1125899906842624 < t := by
            apply Classical.byContradiction
            intro h2
            exact h ⟨hF, by omega, by omega⟩
          rw [ilt_f (show 0 ≤ t by omega), condO_false, igt_t h2, condO_true]
      · rw [rfz_no hF fr, Option.bind_some]
        dsimp only
        rw [ine_t (show (1 : Int) ≠ 0 by decide), condO_true]
    exact bind_of h1 rfl
theorem some_of {α : Type} (o : Option α) (h : o.isSome = true) : ∃ s, o = some s ∧ True := by
  cases o with
  | none => cases h
  | some s => exact ⟨s, rfl, trivial⟩
abbrev PT := Int × Int × Int × Int × Int × Vh × Int × Vh × Int × Int × Int × Int × Int × Vh × Int × Vh × List Vh × List Vh × List Rec × List Rec
/-- A state of both, behind so many calls. -/
def PS (i : Nat) (x : PT) : Prop := ∃ (w st : Int) (left : Nat) (a b : Int) (c : Vh) (d : Int) (e : Vh) (lv pk : List Vh) (rows recs : List Rec),
  x = ((lv.length : Int), w, st, a, b, c, d, e, w, st, (left : Int), a, b, c, d, e, pk, lv, rows, recs) ∧ PI w st left lv pk rows recs ∧ recs.length ≤ i
theorem shardPlays_law : ShardPlaysPure := by
  intro win0 l _ _
  refine ⟨1000, ?_⟩
  obtain ⟨win, hwin⟩ : ∃ w : Int, w = win0 := ⟨_, rfl⟩
  rw [← hwin]
  unfold law17_ShardPlays
  dsimp only
  refine bind_of awake_ok ?_
  by_cases w0 : win < 0
  · rw [ilt_t w0, condO_true, condO_true, show beq true true = true from rfl, Bool.not_true, condO_false]
  rw [ilt_f (show 0 ≤ win by omega), condO_false, condO_false]
  by_cases w1 : 1125899906842624 < win
  · rw [igt_t w1, condO_true, condO_true]
    rfl
  rw [igt_f (show win ≤ 1125899906842624 by omega), condO_false, condO_false, show beq false false = true from rfl, Bool.not_true, condO_false]
  refine loop_bind (fun dd h => ∃ (i : Nat) (x : PT), h = ((i : Int), x) ∧ i + dd = 30 ∧ PS i x) (fun e => ∃ y, e = .inr y) 30 (by omega)
    ⟨0, _, rfl, by omega, win, 0, 0, 0, 0, z32, 0, z32, [], [], [], [], rfl, ⟨⟨by omega, by omega⟩, .inl rfl, rfl, rfl, by simp, fun _ => rfl, (fun r hr => by cases hr), Stk.zero 0, fun h => absurd rfl h⟩, by simp⟩ ?_ ?_
  · rintro dd _ ⟨i, _, rfl, hi, w, st, left, a, b, c, d, e, lv, pk, rows, recs, rfl, I, hn⟩
    dsimp only
    by_cases a1 : (i : Int) < llen l
    · by_cases a2 : i < 30
      · rw [ilt_t a1, condO_true, ilt_t (show (i : Int) < 30 by omega), condO_true, guardO_pos ⟨by omega, a1⟩, guardO_pos (show nz 8 by decide)]
        obtain ⟨o, ho⟩ : ∃ o, o = at_ T5 l (i : Int) := ⟨_, rfl⟩
        rw [← ho]
        refine Goes.bind (fun _ => True) ?_ ?_
        · by_cases c1 : Int.tmod o.1 8 < 0
          · rw [ilt_t c1, condO_true]; exact ⟨_, rfl, trivial⟩
          · rw [ilt_f (by omega), condO_false]; exact ⟨_, rfl, trivial⟩
        intro k _
        have hb : recs.length ≤ 50 := by omega
        have hl := I.len
        refine Goes.bind (fun r : Bool × PT => r.1 = true ∧ PS (i + 1) r.2) ?_ ?_
        · by_cases k4 : k = 4
          · rw [ieq_t k4, condO_true]
            obtain ⟨f1, f2, f3, x, st', h1, h2, h3⟩ := close_same I hb a b c d e
            rw [h1, Option.bind_some, h2, Option.bind_some]
            dsimp only
            rw [ieq_t rfl, ieq_t rfl, sameI_self, ieq_t rfl]
            exact ⟨_, rfl, rfl, w, st', left, a, b, c, d, e, lv, pk, rows, recs, rfl, h3, by omega⟩
          rw [ieq_f k4, condO_false]
          by_cases k5 : k = 5
          · rw [ieq_t k5, condO_true, rfreeze_ok I.hmay (by omega), Option.bind_some]
            refine exists_bind (fun _ => True) ?_ ?_
            · rw [guardO_pos (show nz 2 by decide)]
              by_cases c2 : Int.tmod o.2.2.1 2 = 0
              · rw [ine_f c2, condO_false]; exact ⟨_, rfl, trivial⟩
              · rw [ine_t c2, condO_true]; exact ⟨_, rfl, trivial⟩
            rintro ⟨fw, fc, fr⟩ _
            refine exists_bind (fun _ => True) (stone_any fw fc fr o.2.1) ?_
            rintro ⟨gw, gc, gr, t, m⟩ _
            obtain ⟨x, st', a', b', c', d', e', h1, h2, h3⟩ := prune_same I hb gw gc gr t m a b c d e
            dsimp only
            rw [h1, Option.bind_some, h2, Option.bind_some]
            dsimp only
            rw [ieq_t rfl]
            exact ⟨_, rfl, rfl, w, st', left, a', b', c', d', e', lv, pk, rows, recs, rfl, h3, by omega⟩
          rw [ieq_f k5, condO_false]
          by_cases k6 : k = 6
          · rw [ieq_t k6, condO_true]
            obtain ⟨left', rows', h1, h2, h3⟩ := strip_same I hb o.2.1 a b c d e (lv.length : Int)
            rw [h1, Option.bind_some, h2, Option.bind_some]
            dsimp only
            rw [ieq_t rfl]
            exact ⟨_, rfl, rfl, w, st, left', a, b, c, d, e, lv, pk, rows', recs, rfl, h3, by omega⟩
          rw [ieq_f k6, condO_false]
          by_cases k7 : k = 7
          · rw [ieq_t k7, condO_true]
            exact ⟨_, rfl, rfl, w, st, left, a, b, c, d, e, lv, pk, rows, recs, rfl, I, by omega⟩
          rw [ieq_f k7, condO_false, guardO_pos (show nz 4 by decide)]
          refine exists_bind (fun m : Int => 0 ≤ m ∧ m ≤ 3) (mod4 _) ?_
          rintro m ⟨hm1, hm2⟩
          obtain ⟨q, hq, hq2⟩ := short100 o.2.2.2
          have e7 : WK .i64 (700 * m) = 700 * m := wk_i64 (by omega) (by omega)
          obtain ⟨Z, hZ⟩ : ∃ Z, Z = strOfNums (lrep (700 * m) (0 : Int)) := ⟨_, rfl⟩
          have hZs : Z.size ≤ 2100 := by rw [hZ]; unfold lrep; rw [size_strOfNums, List.length_replicate]; omega
          have hmk : mkOk (700 * m) (700 * m) 1 := ⟨by omega, rfl, by omega, by omega⟩
          have hcat : catOk q Z := by unfold catOk; omega
          obtain ⟨ix, x, left', lv', pk', rows', recs', h1, h2, h3, h4⟩ := add_same I hb o.2.1 (q ++ Z) a b c d e
          rw [e7, ← hZ, hq]
          simp only [Option.bind_some, guardO_pos hmk, guardO_pos hcat, h1, h2, bothO_same]
          rw [ieq_t rfl, ieq_t rfl, condO_true]
          exact ⟨_, rfl, rfl, w, st, left', a, b, c, d, e, lv', pk', rows', recs', rfl, h3, by omega⟩
        · rintro ⟨_, _⟩ ⟨rfl, w, st, left, a, b, c, d, e, lv, pk, rows, recs, rfl, I, hn⟩
          have hb : recs.length ≤ 50 := by omega
          obtain ⟨x, p, hp, h1, h2⟩ := path_same I (by omega) o.2.1 o.2.2.1 a b c d e (lv.length : Int)
          dsimp only
          rw [Bool.not_true, condO_false, same_ok I hb, Option.bind_some, h1, Option.bind_some, h2, Option.bind_some]
          dsimp only
          rw [same_self p hp, Option.bind_some, Bool.not_true, condO_false, condO_false, ine_f rfl, condO_false, wk_i64 (by omega) (by omega)]
          exact .on (dd - 1) (by omega) ⟨i + 1, _, rfl, by omega, w, st, left, a, b, c, d, e, lv, pk, rows, recs, rfl, I, hn⟩
      · rw [ilt_t a1, condO_true, ilt_f (show (30 : Int) ≤ (i : Int) by omega), condO_false]
        exact .out ⟨_, rfl⟩
    · rw [ilt_f (show llen l ≤ (i : Int) by omega), condO_false]
      exact .out ⟨_, rfl⟩
  · rintro _ ⟨y, rfl⟩
    rw [caseS_inr]
end Go.Proofs.YtegnhljcpdpdpaaGreatDoor
