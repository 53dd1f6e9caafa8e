/- Texts of the proof, put together: part 10. No condition. -/
import Derived.Test.YtegnhljcpdpdpaaDoorT9
/- The document's sums with a key. No condition. -/
set_option linter.unusedVariables false
set_option linter.unusedSimpArgs false
namespace Go.Proofs.YtegnhljcpdpdpaaDoor
open Go
def pdL (key : List UInt8) : List UInt8 := key ++ List.replicate (64 - key.length) 0
theorem pdL_len {key : List UInt8} (h : key.length ≤ 64) : (pdL key).length = 64 := by
  unfold pdL; rw [List.length_append, List.length_replicate]; omega
theorem blen_mkB' (l : List UInt8) : blen (mkB l) = (l.length : Int) := by
  show ((mkB l).size : Int) = _
  rw [mkB_size]
theorem rpad_ok (key : List UInt8) (h : key.length ≤ 64) : ref03_Pad 1000 (mkB key) = some (mkB (pdL key)) := by
  unfold ref03_Pad
  refine bind_of (a := mkB key) ((congrArg (condO · _ _) (igt_f (show blen (mkB key) ≤ 64 by rw [blen_mkB']; omega))).trans (condO_false _ _)) ?_
  refine bind_of (loopK_run (fun i : Nat => mkB (key ++ List.replicate i 0)) (64 - key.length) (mkB (pdL key)) 1000 (fun i hi => ?_) ?_ (by omega) |> fun h => (by simpa using h)) rfl
  · have hl : (key ++ List.replicate i (0 : UInt8)).length = key.length + i := by simp
    have e : mkB (key ++ List.replicate i 0) ++ ⟨#[0]⟩ = mkB (key ++ List.replicate (i + 1) 0) := by
      rw [show (⟨#[0]⟩ : ByteArray) = mkB [0] from rfl, mkB_app, List.append_assoc, List.replicate_succ']
    rw [ilt_t (show blen (mkB (key ++ List.replicate i 0)) < 64 by rw [blen_mkB', hl]; omega), condO_true, guardO_pos (cat_mkB (b := [0]) (by simp; omega)), e]
  · rw [ilt_f (show 64 ≤ blen (mkB (key ++ List.replicate (64 - key.length) 0)) by rw [blen_mkB']; simp; omega), condO_false]
    rfl
def xb (c : Int) (b : UInt8) : Int := xorK .u8 (b.toNat : Int) c
def xorL (l : List UInt8) (c : Int) : List UInt8 := l.map fun b => UInt8.ofNat (xb c b).toNat
theorem xorL_len (l : List UInt8) (c : Int) : (xorL l c).length = l.length := by simp [xorL]
theorem rxor_ok (l : List UInt8) (c : Int) (h : l.length ≤ 900) : ref03_xor 1000 (mkB l, c) = some (mkB (xorL l c)) := by
  unfold ref03_xor
  dsimp only
  rw [blen_mkB', guardO_pos (show mkOk (l.length : Int) (l.length : Int) 1 from ⟨by omega, rfl, by rw [Int.toNat_natCast]; omega, by omega⟩)]
  refine bind_of (loopK_run (fun i : Nat => ((i : Int), (l.take i).map (xb c) ++ List.replicate (l.length - i) 0)) l.length (l.map (xb c)) 1000 (fun i hi => ?_) ?_ (by omega) |> fun h => (by simpa [lrep] using h)) ?_
  · dsimp only
    have e1 : sAt (mkB l) (i : Int) = (l[i].toNat : Int) := by
      rw [sAt_mkB, Int.toNat_natCast, List.getD_eq_getElem?_getD, List.getElem?_eq_getElem hi]; rfl
    have hln : ((l.take i).map (xb c) ++ List.replicate (l.length - i) 0).length = l.length := by simp; omega
    rw [ilt_t (by omega), condO_true, guardO_pos ⟨by omega, by omega⟩, guardO_pos ⟨by omega, by unfold llen; omega⟩, e1, wk_i64 (by omega) (by omega)]
    have e2 : lset ((l.take i).map (xb c) ++ List.replicate (l.length - i) 0) (i : Int) (xorK .u8 (l[i].toNat : Int) c) = (l.take (i + 1)).map (xb c) ++ List.replicate (l.length - (i + 1)) 0 := by
      unfold lset
      rw [Int.toNat_natCast, List.set_append_right _ _ (by simp; omega)]
      have e3 : i - ((l.take i).map (xb c)).length = 0 := by simp; omega
      rw [e3, show l.length - i = (l.length - (i + 1)) + 1 by omega, List.replicate_succ, List.set_cons_zero, List.take_add_one, List.getElem?_eq_getElem hi, List.map_append]
      simp [xb]
    rw [e2]
    rfl
  · dsimp only
    rw [ilt_f (by omega), condO_false]
    simp
  · show some (strOfNums (l.map (xb c))) = _
    rw [nums_mkB, List.map_map]
    rfl
def macL (key t : List UInt8) : Vh := hsh (xorL (pdL key) 92 ++ vb (hsh (xorL (pdL key) 54 ++ t)))
theorem rmac_ok (key t : List UInt8) (hk : key.length ≤ 64) (ht : t.length ≤ 40000) : ref03_Of 1000 (mkB key, mkB t) = some (macL key t) := by
  have hp := pdL_len hk
  have hx := fun c => xorL_len (pdL key) c
  unfold ref03_Of
  dsimp only
  refine bind_of (rpad_ok key hk) (bind_of (rxor_ok _ _ (by omega)) ?_)
  refine (guardO_pos (cat_mkB (by rw [hx, hp]; omega))).trans ?_
  rw [mkB_app]
  refine bind_of (ref_of _ (by rw [List.length_append, hx, hp]; omega)) (bind_of (rxor_ok _ _ (by omega)) ?_)
  rw [vb_str]
  refine (guardO_pos (cat_mkB (by rw [hx, hp, vb_len]; omega))).trans ?_
  rw [mkB_app]
  exact bind_of (ref_of _ (by rw [List.length_append, hx, hp, vb_len]; omega)) rfl
end Go.Proofs.YtegnhljcpdpdpaaDoor
/- Shards: closing, pruning, stripping; stones. No condition. -/
set_option linter.unusedVariables false
set_option linter.unusedSimpArgs false
namespace Go.Proofs.YtegnhljcpdpdpaaDoor
open Go
def stoneL (w c : Int) (r : Vh) (t : Int) : List UInt8 := ([84] ++ (putL (fzL w c r).length ++ fzL w c r)) ++ putL t.toNat
theorem stoneL_len {w c : Int} (h : mayF w c) (r : Vh) {t : Int} (h0 : 0 ≤ t) (h1 : t ≤ 1125899906842624) : (stoneL w c r t).length ≤ 100 := by
  have a := fzL_len h r
  have b := put_small (x := t.toNat) (by omega)
  have d := put_small (x := (fzL w c r).length) (by omega)
  unfold stoneL
  simp only [List.length_append, List.length_cons, List.length_nil]
  omega
theorem rsays_ok {w c : Int} (h : mayF w c) (r : Vh) {t : Int} (h0 : 0 ≤ t) (h1 : t ≤ 1125899906842624) (m : Vh) : ref16_stoneSays 1000 (w, c, r, t, m) = some (mkB (stoneL w c r t), true) := by
  have a := fzL_len h r
  have b := put_small (x := t.toNat) (by omega)
  have d := put_small (x := (fzL w c r).length) (by omega)
  unfold ref16_stoneSays
  refine bind_of (rfz_yes h r) ?_
  dsimp only
  rw [ine_f rfl, condO_false, ilt_f h0, condO_false, igt_f h1, condO_false]
  have e1 : ref01_Put 1000 (WK .u64 (blen (mkB (fzL w c r)))) = some (mkB (putL (fzL w c r).length)) := by
    rw [blen_mkB']
    exact rput_of (x := ((fzL w c r).length : Int)) (by omega) (by omega)
  refine bind_of e1 ?_
  rw [guardO_pos (cat_mkB (by omega)), mkB_app, guardO_pos (cat_mkB (a := [84]) (by simp; omega)), show (⟨#[84]⟩ : ByteArray) ++ mkB (putL (fzL w c r).length ++ fzL w c r) = mkB ([84] ++ (putL (fzL w c r).length ++ fzL w c r)) from mkB_app [84] _]
  refine bind_of (rput_of h0 h1) ?_
  rw [guardO_pos (cat_mkB (by simp; omega)), mkB_app]
  rfl
theorem stone_ok {w c : Int} (h : mayF w c) (r : Vh) {t : Int} (h0 : 0 ≤ t) (h1 : t ≤ 1125899906842624) (key : List UInt8) (hk : key.length ≤ 64) : ref16_Stone 1000 (mkB key, w, c, r, t) = some (w, c, r, t, macL key (stoneL w c r t)) := by
  unfold ref16_Stone
  refine bind_of (rsays_ok h r h0 h1 _) ?_
  refine bind_of (a := (w, c, r, t, macL key (stoneL w c r t))) ?_ rfl
  refine (condO_true _ _).trans ?_
  have hl := stoneL_len h r h0 h1
  exact bind_of (rmac_ok key _ hk (by omega)) rfl
theorem psays_ok {w c : Int} (h : mayF w c) (r : Vh) {t : Int} (h0 : 0 ≤ t) (h1 : t ≤ 1125899906842624) (m : Vh) : seal_stoneSays 1000 (w, c, r, t, m) = some (mkB (stoneL w c r t), 0) := by
  have a := fzL_len h r
  have b := put_small (x := t.toNat) (by omega)
  have d := put_small (x := (fzL w c r).length) (by omega)
  have hl := stoneL_len h r h0 h1
  unfold seal_stoneSays
  refine bind_of (fz_yes h r) ?_
  dsimp only
  rw [ine_f rfl, condO_false, ige_t h0, condO_true, ile_t h1, Bool.not_true, condO_false]
  have e1 : octet_Put 1000 (WK .u64 (blen (mkB (fzL w c r)))) = some (mkB (putL (fzL w c r).length)) := by
    rw [blen_mkB']
    exact put_of (x := ((fzL w c r).length : Int)) (by omega) (by omega)
  refine bind_of e1 ?_
  rw [guardO_pos (cat_mkB (by omega)), mkB_app]
  refine bind_of (put_of h0 h1) ?_
  refine bind_of (a := mkB (stoneL w c r t)) ?_ rfl
  show L_strings_Join 1000 _ = _
  unfold L_strings_Join
  have hj : Lib.join (([⟨#[84]⟩, mkB (putL (fzL w c r).length ++ fzL w c r), mkB (putL t.toNat)] : List ByteArray).map (·.data.toList)) (str0 : ByteArray).data.toList = stoneL w c r t := by
    simp [Lib.join, stoneL, mkB]
  have hb : (Lib.join (([⟨#[84]⟩, mkB (putL (fzL w c r).length ++ fzL w c r), mkB (putL t.toNat)] : List ByteArray).map (·.data.toList)) (str0 : ByteArray).data.toList).length ≤ 140737488355328 := by
    rw [hj]; omega
  refine (guardO_pos ⟨by simp, by simp, hb⟩).trans ?_
  exact congrArg (fun l => some (mkB l)) hj
theorem pbytes_ok {w c : Int} (h : mayF w c) (r : Vh) {t : Int} (h0 : 0 ≤ t) (h1 : t ≤ 1125899906842624) (m : Vh) : seal_StoneBytes 1000 (w, c, r, t, m) = some (mkB (stoneL w c r t ++ (putL 32 ++ vb m)), 0) := by
  have hl := stoneL_len h r h0 h1
  have d := put_small (x := 32) (by decide)
  unfold seal_StoneBytes
  refine bind_of (psays_ok h r h0 h1 m) ?_
  dsimp only
  rw [ine_f rfl, condO_false, vb_blen]
  refine bind_of (put_of (x := 32) (by decide) (by decide)) ?_
  refine (guardO_pos (cat_mkB (a := putL 32) (b := vb m) (by rw [vb_len]; omega))).trans ?_
  rw [vb_str, show mkB (putL (32 : Int).toNat) ++ mkB (vb m) = mkB (putL 32 ++ vb m) from mkB_app _ _]
  refine bind_of (a := mkB (stoneL w c r t ++ (putL 32 ++ vb m))) ?_ rfl
  show L_strings_Join 1000 _ = _
  unfold L_strings_Join
  have hj : Lib.join (([mkB (stoneL w c r t), mkB (putL 32 ++ vb m)] : List ByteArray).map (·.data.toList)) (str0 : ByteArray).data.toList = stoneL w c r t ++ (putL 32 ++ vb m) := by
    simp [Lib.join, mkB]
  have hb : (Lib.join (([mkB (stoneL w c r t), mkB (putL 32 ++ vb m)] : List ByteArray).map (·.data.toList)) (str0 : ByteArray).data.toList).length ≤ 140737488355328 := by
    rw [hj]; simp only [List.length_append, vb_len]; omega
  refine (guardO_pos ⟨by simp, by simp, hb⟩).trans ?_
  exact congrArg (fun l => some (mkB l)) hj
theorem strip_open {k w s : Int} {lv pk : List Vh} {rows : List Rec} {n : Int} (a b : Int) (c : Vh) (d : Int) (e : Vh) (hs : s ≠ 2) : shard_Shard_Strip 1000 (k, w, s, a, b, c, d, e, lv, rows, n, pk) = some ((rows.length : Int), w, s, a, b, c, d, e, lv, rows) := by
  unfold shard_Shard_Strip
  refine bind_of ((congrArg (condO · _ _) (ieq_f hs)).trans (condO_false _ _)) rfl
/-- So many are stripped. -/
def cutN (k : Int) (n : Nat) : Nat := min k.toNat n
theorem strip_pruned {k w : Int} {lv pk : List Vh} {rows : List Rec} {n : Int} (a b : Int) (c : Vh) (d : Int) (e : Vh) (hr : rows.length ≤ 900) : shard_Shard_Strip 1000 (k, w, 2, a, b, c, d, e, lv, rows, n, pk) = some (((rows.length - cutN k rows.length : Nat) : Int), w, 2, a, b, c, d, e, lv, rows.take (rows.length - cutN k rows.length)) := by
  unfold shard_Shard_Strip
  dsimp only
  have e1 : mnI (mxI k 0) (llen rows) = ((cutN k rows.length : Nat) : Int) := by
    unfold mnI mxI cutN llen
    split <;> split <;> omega
  have hc : cutN k rows.length ≤ rows.length := Nat.min_le_right ..
  have e2 : WK .i64 (llen rows - mnI (mxI k 0) (llen rows)) = ((rows.length - cutN k rows.length : Nat) : Int) := by
    rw [e1, wk_i64 (by unfold llen; omega) (by unfold llen; omega)]; unfold llen; omega
  rw [e2]
  refine bind_of (a := (w, 2, a, b, c, d, e, lv, rows.take (rows.length - cutN k rows.length))) ((congrArg (condO · _ _) (ieq_t rfl)).trans ((condO_true _ _).trans ((guardO_pos ⟨by omega, by omega, by unfold llen; omega, by omega⟩).trans ?_))) ?_
  · rw [ltake_nat]
    exact bind_of (clone_rec _ (by rw [List.length_take]; omega)) rfl
  · dsimp only
    unfold llen
    rw [List.length_take, Nat.min_eq_left (by omega)]
theorem says_ok {w s : Int} {lv pk : List Vh} {rows : List Rec} (a b : Int) (c : Vh) (d : Int) (e : Vh) (hst : Stk 0 lv.length pk.reverse lv) (hb : lv.length ≤ 500) : shard_Shard_says 1000 (w, s, a, b, c, d, e, vgl_sha_keys, lv, rows, (lv.length : Int), pk) = some (w, (lv.length : Int), rt 40 lv) := by
  unfold shard_Shard_says
  exact bind_of (froot_all hst hb) rfl
theorem close_ok {w : Int} {lv pk : List Vh} {rows : List Rec} (a b : Int) (c : Vh) (d : Int) (e : Vh) (hst : Stk 0 lv.length pk.reverse lv) (hb : lv.length ≤ 500) (h0 : 1 ≤ lv.length) : shard_Shard_Close 1000 (w, 0, a, b, c, d, e, vgl_sha_keys, lv, rows, (lv.length : Int), pk) = some (w, (lv.length : Int), rt 40 lv, 0, w, 1, a, b, c, d, e, lv, rows) := by
  unfold shard_Shard_Close
  dsimp only
  rw [ine_f rfl, condO_false, ieq_f (show llen lv ≠ 0 by unfold llen; omega), condO_false]
  exact bind_of (says_ok a b c d e hst hb) rfl
theorem prune_ok {w t : Int} {m : Vh} {lv pk : List Vh} {rows : List Rec} (a b : Int) (c : Vh) (d : Int) (e : Vh) (hst : Stk 0 lv.length pk.reverse lv) (hb : lv.length ≤ 500) (hF : mayF w (lv.length : Int)) (h0 : 0 ≤ t) (h1 : t ≤ 1125899906842624) :
    shard_Shard_Prune 1000 (w, (lv.length : Int), rt 40 lv, t, m, w, 1, a, b, c, d, e, vgl_sha_keys, lv, rows, (lv.length : Int), pk) = some (0, w, 2, w, (lv.length : Int), rt 40 lv, t, m, lv, rows) := by
  unfold shard_Shard_Prune
  dsimp only
  rw [ine_f rfl, condO_false]
  refine bind_of (pbytes_ok hF _ h0 h1 m) ?_
  dsimp only
  rw [ine_f rfl, condO_false]
  refine bind_of (says_ok a b c d e hst hb) ?_
  dsimp only
  rw [sameI_self, ieq_t rfl, ieq_t rfl]
  rfl
theorem rsame_rec (l : List Rec) (h : l.length ≤ 900) : ref15_Same 1000 (l, l) = some true := by
  unfold ref15_Same
  dsimp only
  rw [ine_f rfl, condO_false]
  refine bind_of (a := (Sum.inr () : Bool ⊕ Unit)) ?_ rfl
  refine loopK_run (fun i : Nat => (i : Int)) l.length _ 1000 (fun i hi => ?_) ?_ (by omega)
  · have hi' : (i : Int) < llen l := by unfold llen; omega
    rw [ilt_t hi', condO_true, guardO_pos ⟨by omega, hi'⟩, guardO_pos ⟨by omega, hi'⟩, wk_i64 (by omega) (by omega), ieq_t rfl, ieq_t rfl, ieq_t rfl, sEq_self]
    rfl
  · rw [ilt_f (show llen l ≤ (l.length : Int) by unfold llen; omega), condO_false]
theorem awake_ok : law17_awake 1000 vgl_sha_keys = some true := by kernel_rfl
end Go.Proofs.YtegnhljcpdpdpaaDoor
/- The plain law of ShardGives. No condition. -/
set_option linter.unusedVariables false
set_option linter.unusedSimpArgs false
namespace Go.Proofs.YtegnhljcpdpdpaaDoor
open Go
def ShardGivesPure : Prop := ∀ (z0 : Ty.den (.sl 34 (.pair (.int .i64) (.pair (.int .i64) (.pair (.int .i64) .str))))) (z1 : Ty.den (.sl 3 (.int .i64))), wfT (.sl 34 (.pair (.int .i64) (.pair (.int .i64) (.pair (.int .i64) .str)))) z0 → wfT (.sl 3 (.int .i64)) z1 → ∃ k, law17_ShardGives k (z0, z1, vgl_sha_keys) = some true
theorem strip_step (x : Int) (n : Nat) (hn : n ≤ 12) : ∃ m : Nat, m ≤ n ∧ m = n - cutN x n ∧ ∃ r0 r1 : Int, (condO (ilt x 0) (some (0)) (some (x)) : Option (Int)) = some r0 ∧ (condO (igt r0 (n : Int)) (some ((n : Int))) (some r0) : Option (Int)) = some r1 ∧ WK .i64 ((n : Int) - r1) = (m : Int) := by
  have hc : cutN x n ≤ n := Nat.min_le_right ..
  refine ⟨n - cutN x n, by omega, rfl, ?_⟩
  by_cases h0 : x < 0
  · have e : cutN x n = 0 := by unfold cutN; rw [show x.toNat = 0 by omega]; simp
    exact ⟨0, 0, by rw [ilt_t h0, condO_true], by rw [igt_f (by omega), condO_false], by rw [e, wk_i64 (by omega) (by omega)]; omega⟩
  · by_cases h1 : (n : Int) < x
    · have e : cutN x n = n := by unfold cutN; exact Nat.min_eq_right (by omega)
      exact ⟨x, n, by rw [ilt_f (by omega), condO_false], by rw [igt_t h1, condO_true], by rw [e, wk_i64 (by omega) (by omega)]; omega⟩
    · have e : cutN x n = x.toNat := by unfold cutN; exact Nat.min_eq_left (by omega)
      exact ⟨x, x, by rw [ilt_f (by omega), condO_false], by rw [igt_f (by omega), condO_false], by rw [e, wk_i64 (by omega) (by omega)]; omega⟩
theorem shardGives_law : ShardGivesPure := by
  intro l strips _ _
  refine ⟨1000, ?_⟩
  obtain ⟨w, pk, hw, hw2, hg, hst⟩ := grown_ok 9 l
  have hw5 : w = 9 := by rw [hw]; kernel_rfl
  subst hw5
  obtain ⟨L, hL⟩ : ∃ L, L = l.take 12 := ⟨_, rfl⟩
  have hLl : L.length = min 12 l.length := by rw [hL, List.length_take]
  rw [← hL] at hg hst
  obtain ⟨rows, hrows⟩ : ∃ rows, rows = recsOf 9 L := ⟨_, rfl⟩
  have hrl : rows.length = L.length := by rw [hrows, recs_len]
  have hget : ∀ (i : Nat) (h : i < rows.length), rows[i] = (9, (i : Int), andK .i64 (L[i]'(by omega)).2.1 1023, cut60 (L[i]'(by omega)).2.2.2) := by
    subst hrows
    intro i h
    exact recs_get 9 L i (by omega)
  rw [← hrows] at hg hst
  obtain ⟨lv, hlv⟩ : ∃ lv, lv = rows.map lfR := ⟨_, rfl⟩
  have hll : lv.length = rows.length := by rw [hlv, List.length_map]
  rw [← hlv, ← hrl, ← hll] at hg hst
  unfold law17_ShardGives
  refine bind_of awake_ok (bind_of hg ?_)
  rw [caseS_inr]
  dsimp only
  refine bind_of (a := (Sum.inr () : Bool ⊕ Unit)) ?_ ?_
  · refine loopK_run (fun i : Nat => (i : Int)) lv.length _ 1000 (fun i hi => ?_) ?_ (by omega)
    · have hi' : (i : Int) < llen lv := by unfold llen; omega
      have hgt := get_yes (i := i) (w := 9) (s := 0) (lv := lv) (pk := pk) (rows := rows) (n := (lv.length : Int)) 0 0 z32 0 z32 hi (by omega) (by decide)
      rw [hget i (by omega)] at hgt
      have ea : at_ T5 l (i : Int) = L[i]'(by omega) := by
        rw [show at_ T5 l (i : Int) = l[i]'(by omega) from at_nat (t := TR) (by omega)]
        simp [hL]
      rw [ilt_t hi', condO_true, hgt, Option.bind_some, guardO_pos ⟨by omega, by unfold llen; omega⟩, guardO_pos ⟨by omega, by unfold llen; omega⟩, bothO_same, ea, short_ok, Option.bind_some]
      dsimp only
      rw [ine_f rfl, condO_false, ieq_t rfl, ieq_t rfl, ieq_t rfl, sEq_self, wk_i64 (by omega) (by omega)]
      rfl
    · rw [ilt_f (show llen lv ≤ (lv.length : Int) by unfold llen; omega), condO_false]
  · rw [caseS_inr]
    by_cases h0 : lv.length = 0
    · rw [ieq_t (show llen lv = 0 by unfold llen; omega), condO_true, condO_true]
    · rw [ieq_f (show llen lv ≠ 0 by unfold llen; omega), condO_false]
      refine bind_of (strip_open 0 0 z32 0 z32 (by decide)) ?_
      dsimp only
      rw [ine_f (show (rows.length : Int) = llen lv by unfold llen; omega), condO_false]
      refine bind_of (clone_rec rows (by omega)) ?_
      refine bind_of (close_ok 0 0 z32 0 z32 hst (by omega) (by omega)) ?_
      dsimp only
      refine bind_of (strip_open 0 0 z32 0 z32 (by decide)) ?_
      dsimp only
      rw [ine_f (show (rows.length : Int) = llen lv by unfold llen; omega), condO_false]
      have hF : mayF 9 (lv.length : Int) := ⟨by omega, by omega, by omega, by omega⟩
      refine bind_of (stone_ok hF (rt 40 lv) (t := 0) (by omega) (by omega) [] (by simp)) ?_
      dsimp only
      refine bind_of (prune_ok 0 0 z32 0 z32 hst (by omega) hF (by omega) (by omega)) ?_
      dsimp only
      rw [ine_f rfl, condO_false]
      obtain ⟨mac, hmac⟩ : ∃ mac, mac = macL [] (stoneL 9 (lv.length : Int) (rt 40 lv) 0) := ⟨_, rfl⟩
      rw [← hmac]
      have e0 : llen lv = ((rows.length : Nat) : Int) := by unfold llen; omega
      rw [e0]
      refine loop_bind (fun d h => ∃ (i n : Nat), h = ((n : Int), (i : Int), 9, 2, 9, (lv.length : Int), rt 40 lv, 0, mac, rows, lv, rows.take n) ∧ i + d = 5 ∧ n ≤ rows.length) (fun e => ∃ n : Nat, e = .inr (9, 2, 9, (lv.length : Int), rt 40 lv, 0, mac, lv, rows.take n)) 5 (by omega) ⟨0, rows.length, by rw [List.take_length]; rfl, by omega, Nat.le_refl _⟩ ?_ ?_
      · rintro d _ ⟨i, n, rfl, hi, hn⟩
        dsimp only
        by_cases a : (i : Int) < llen strips
        · by_cases a5 : i < 5
          · obtain ⟨m, hm, hm2, r0, r1, q0, q1, q2⟩ := strip_step (at_ (.int .i64) strips (i : Int)) n (by omega)
            have htl : (rows.take n).length = n := by rw [List.length_take]; omega
            have hsp := strip_pruned (k := at_ (.int .i64) strips (i : Int)) (w := 9) (lv := lv) (pk := pk) (rows := rows.take n) (n := (lv.length : Int)) 9 (lv.length : Int) (rt 40 lv) 0 mac (by omega)
            rw [htl, ← hm2, List.take_take, Nat.min_eq_left hm] at hsp
            have hgp := get_pruned (i := 0) (w := 9) (lv := lv) (pk := pk) (rows := rows.take m) (n := (lv.length : Int)) 9 (lv.length : Int) (rt 40 lv) 0 mac (by omega) (by omega)
            have hml : (rows.take m).length = m := by rw [List.length_take]; omega
            rw [ilt_t a, condO_true, ilt_t (by omega), condO_true, guardO_pos ⟨by omega, a⟩, q0, Option.bind_some, q1, Option.bind_some, guardO_pos ⟨by omega, a⟩, hsp, Option.bind_some, q2]
            dsimp only
            rw [ine_f rfl, condO_false, ine_f (show llen (rows.take m) = (m : Int) by unfold llen; rw [hml]), condO_false, ine_f e0, condO_false, hgp, Option.bind_some, guardO_pos ⟨by omega, by omega, by unfold llen; omega, by omega⟩, clone_rec _ (by omega), Option.bind_some, ltake_nat, rsame_rec _ (by omega), Option.bind_some]
            dsimp only
            rw [ine_f rfl, condO_false, Bool.not_true, condO_false, wk_i64 (x := (i : Int) + 1) (by omega) (by omega)]
            exact .on (d - 1) (by omega) ⟨i + 1, m, rfl, by omega, by omega⟩
          · rw [ilt_t a, condO_true, ilt_f (by omega), condO_false]
            exact .out ⟨n, rfl⟩
        · rw [ilt_f (by omega), condO_false]
          exact .out ⟨n, rfl⟩
      · rintro _ ⟨n, rfl⟩
        rw [caseS_inr]
end Go.Proofs.YtegnhljcpdpdpaaDoor
