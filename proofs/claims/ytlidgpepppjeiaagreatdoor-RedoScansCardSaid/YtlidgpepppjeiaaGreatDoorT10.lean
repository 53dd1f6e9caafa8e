/- Texts of the proof, put together: part 10. No condition. -/
import Derived.Test.YtlidgpepppjeiaaGreatDoorT9
/- A sealed text opens: the sum of a text with its sum behind is always the same. No condition. -/
set_option linter.unusedVariables false
set_option linter.unusedSimpArgs false
namespace Go.Proofs.YtlidgpepppjeiaaGreatDoor
open Go
theorem q1_xor (a b : Nat) : q1 (a ^^^ b) = q1 a ^^^ q1 b := by
  rw [← p1_4, ← p1_4, ← p1_4, p1_xor, p1_xor, p1_xor, p1_xor]
theorem byteP_xor (a b : Nat) : byteP (a ^^^ b) = byteP a ^^^ byteP b := by unfold byteP; rw [q1_xor, q1_xor]
theorem q1_16 (q : Nat) : q1 (16 * q) = q := by rw [← p1_4, p1_16]
theorem byteP_256 (q : Nat) : byteP (256 * q) = q := by
  unfold byteP
  rw [show 256 * q = 16 * (16 * q) by omega, q1_16, q1_16]
theorem split256 (n : Nat) : n = (256 * (n / 256)) ^^^ (n % 256) := by
  apply Nat.eq_of_testBit_eq
  intro i
  have h1 := Nat.testBit_two_pow_mul_add (n / 256) (b := n % 256) (i := 8) (by omega) i
  have h2 := @Nat.testBit_two_pow_mul 8 (n / 256) i
  rw [show 2 ^ 8 * (n / 256) + n % 256 = n by omega] at h1
  rw [h1, Nat.testBit_xor, show 256 * (n / 256) = 2 ^ 8 * (n / 256) from rfl, h2]
  by_cases hi : i < 8
  · rw [if_pos hi]; simp [show ¬ 8 ≤ i by omega]
  · rw [if_neg hi]
    have : (n % 256).testBit i = false := Nat.testBit_lt_two_pow (Nat.lt_of_lt_of_le (show n % 256 < 2 ^ 8 by omega) (Nat.pow_le_pow_right (by decide) (by omega)))
    simp [this, show 8 ≤ i by omega]
/-- One byte of the sum's own. -/
theorem own_step (d K : Nat) : byteP ((d ^^^ K) ^^^ (255 ^^^ d % 256)) = (d / 256) ^^^ byteP (255 ^^^ K) := by
  have e : (d ^^^ K) ^^^ (255 ^^^ d % 256) = (256 * (d / 256)) ^^^ (255 ^^^ K) := by
    conv => lhs; rw [split256 d]
    have h2 : (256 * (d / 256) ^^^ d % 256) % 256 = d % 256 := by rw [← split256 d]
    rw [h2]
    generalize 256 * (d / 256) = a
    generalize d % 256 = b
    apply Nat.eq_of_testBit_eq
    intro i
    simp only [Nat.testBit_xor]
    cases a.testBit i <;> cases b.testBit i <;> cases K.testBit i <;> cases (255 : Nat).testBit i <;> rfl
  rw [e, byteP_xor, byteP_256]
theorem own_byte (c m : Nat) (hm : 4294967295 / m % 256 = 255) (i : Nat) (he : m = 2 ^ i) : (4294967295 ^^^ c) / m % 256 = 255 ^^^ (c / m) % 256 := by
  subst he
  rw [Nat.xor_div_two_pow]
  have := @Nat.xor_mod_two_pow (4294967295 / 2 ^ i) (c / 2 ^ i) 8
  rw [show 256 = 2 ^ 8 from rfl] at hm ⊢
  rw [this, hm]
theorem u8_nat (x : Nat) : (UInt8.ofNat (x % 256)).toNat = x % 256 := by simp
theorem own_sum (l : List UInt8) : sumN 0 (sealL l) = 558161692 := by
  unfold sealL sumN
  have hx : addN (4294967295 ^^^ 0) (l ++ tailL (4294967295 ^^^ addN (4294967295 ^^^ 0) l)) = addN (addN (4294967295 ^^^ 0) l) (tailL (4294967295 ^^^ addN (4294967295 ^^^ 0) l)) := by
    unfold addN; rw [List.foldl_append]
  rw [hx]
  have hc : addN (4294967295 ^^^ 0) l < 4294967296 := addN_lt _ (by decide) l
  generalize addN (4294967295 ^^^ 0) l = c at hc
  simp only [tailL, addN, List.foldl_cons, List.foldl_nil, u8_nat]
  have b0 := own_byte c 1 (by decide) 0 rfl
  have b1 := own_byte c 256 (by decide) 8 rfl
  have b2 := own_byte c 65536 (by decide) 16 rfl
  have b3 := own_byte c 16777216 (by decide) 24 rfl
  rw [Nat.div_one, Nat.div_one] at b0
  rw [b0, b1, b2, b3]
  have s0 := own_step c 0
  rw [Nat.xor_zero] at s0
  rw [s0, own_step (c / 256)]
  rw [show c / 256 / 256 = c / 65536 by omega, own_step (c / 65536), show c / 65536 / 256 = c / 16777216 by omega, own_step (c / 16777216), show c / 16777216 / 256 = 0 by omega]
  decide
theorem sealL_take (l : List UInt8) : (sealL l).take l.length = l := by unfold sealL; rw [List.take_left]
theorem copen_ok (k : Nat) (hk : 2 < k) {l : List UInt8} (hl : l.length + 4 < k) (hl2 : l.length < 90000) : check_Open k (mkB (sealL l), vgl_check_table) = some (mkB l, true) := by
  unfold check_Open
  simp only
  have hb : blen (mkB (sealL l)) = (l.length : Int) + 4 := by rw [blen_mkB, sealL_len]; omega
  rw [hb, ilt_f (by omega), condO_false, cof_ok k hk (by rw [sealL_len]; omega) (by rw [sealL_len]; omega), own_sum]
  simp only [Option.bind_some]
  rw [ieq_t (by decide), wk_i64 (by omega) (by omega), show (l.length : Int) + 4 - 4 = (l.length : Int) by omega]
  simp only [Bool.not_true, condO_false]
  rw [guardO_pos ⟨by omega, by omega, by omega⟩, scut_take, Int.toNat_natCast, sealL_take]
end Go.Proofs.YtlidgpepppjeiaaGreatDoor
/- The disk: what its calls compute. No condition. -/
set_option linter.unusedVariables false
set_option linter.unusedSimpArgs false
namespace Go.Proofs.YtlidgpepppjeiaaGreatDoor
open Go
abbrev Put := Int × ByteArray
/-- May a step be done? -/
abbrev mayD (on armed : Bool) (left : Int) : Bool := on && !(armed && left == 0)
abbrev leftD (armed : Bool) (left : Int) : Int := if armed = true then WK .i64 (left - 1) else left
theorem step_spec (k : Nat) (on armed : Bool) (left steps : Int) (lies : List ByteArray) (cache : List Put) :
    sector_Disk_step k (on, armed, left, steps, lies, cache) = some (if mayD on armed left = true then (0, true, armed, leftD armed left, WK .i64 (steps + 1), lies, cache) else (14, false, armed, left, steps, lies, cache)) := by
  cases on <;> cases armed <;> by_cases h : left = 0 <;> simp [sector_Disk_step, mayD, leftD, h, ieq_f, ieq_t]
theorem write_ok (k : Nat) {a : Int} {s : ByteArray} {on armed : Bool} {left steps : Int} {lies : List ByteArray} {cache : List Put} (h0 : 0 ≤ a) (h1 : a < lies.length) (h2 : s.size = 256) (hc : cache.length < 1000000) :
    sector_Disk_Write k (a, s, on, armed, left, steps, lies, cache) = some (if mayD on armed left = true then (0, true, armed, leftD armed left, WK .i64 (steps + 1), lies, cache ++ [(a, s)]) else (14, false, armed, left, steps, lies, cache)) := by
  have e1 : ilt a 0 = false := ilt_f h0
  have e2 : ige a (llen lies) = false := ige_f h1
  have e3 : ine (blen s) 256 = false := ine_f (by rw [blen, h2]; rfl)
  unfold sector_Disk_Write
  simp only [e1, e2, e3, condO_false, step_spec, Option.bind_some]
  have hap : appOk cache ([(a, s)] : List Put) 24 := by
    unfold appOk; simp; omega
  by_cases hm : mayD on armed left = true
  · simp only [hm, if_true]
    rw [guardO_pos hap]
    simp
  · simp only [hm, Bool.false_eq_true, if_false]
    rfl
/-- What is known of a sector. -/
def rd (lies : List ByteArray) (cache : List Put) (a : Int) : ByteArray :=
  match cache.reverse.find? (fun p => p.1 == a) with
  | some p => p.2
  | none => lies.getD a.toNat str0
theorem find_iter (a : Int) : ∀ (l : List Put), iterL l (fun (_ : Unit) p => condO (ine p.1 a) (some (.inl ())) (some (.inr (p.2, (0 : Int))))) () = some (match l.find? (fun p => p.1 == a) with | some p => Sum.inr (p.2, 0) | none => .inl ())
  | [] => rfl
  | p :: l => by
    simp only [iterL, List.find?_cons]
    by_cases h : p.1 = a
    · simp [h]
    · have : (p.1 == a) = false := by simpa using h
      have h2 : ine p.1 a = true := by simpa using h
      simp only [this, h2, condO_true, Option.bind_some, caseS_inl]
      exact find_iter a l
theorem read_ok (k : Nat) {a : Int} {armed : Bool} {left steps : Int} {lies : List ByteArray} {cache : List Put} (h0 : 0 ≤ a) (h1 : a < lies.length) :
    sector_Disk_Read k (a, true, armed, left, steps, lies, cache) = some (rd lies cache a, 0) := by
  have e1 : ilt a 0 = false := ilt_f h0
  have e2 : ige a (llen lies) = false := ige_f h1
  unfold sector_Disk_Read
  simp only [e1, e2, condO_false, Bool.not_true]
  have := iterL_back cache (fun (_ : Unit) (p : Put) => condO (ine p.1 a) (some (Sum.inl ())) (some (.inr (p.2, (0 : Int))))) ()
  rw [this, find_iter]
  unfold rd
  cases hf : cache.reverse.find? (fun p => p.1 == a) with
  | none =>
    simp only [Option.bind_some, caseS_inl]
    rw [guardO_pos ⟨h0, h1⟩]
    rfl
  | some p => simp
theorem read_off (k : Nat) {a : Int} {armed : Bool} {left steps : Int} {lies : List ByteArray} {cache : List Put} (h0 : 0 ≤ a) (h1 : a < lies.length) :
    sector_Disk_Read k (a, false, armed, left, steps, lies, cache) = some (str0, 14) := by
  have e1 : ilt a 0 = false := ilt_f h0
  have e2 : ige a (llen lies) = false := ige_f h1
  unfold sector_Disk_Read
  simp only [e1, e2, condO_false, Bool.not_false, condO_true]
theorem read_arg (k : Nat) {a : Int} {on armed : Bool} {left steps : Int} {lies : List ByteArray} {cache : List Put} (h : a < 0 ∨ lies.length ≤ a) :
    sector_Disk_Read k (a, on, armed, left, steps, lies, cache) = some (str0, 1) := by
  unfold sector_Disk_Read
  by_cases h0 : a < 0
  · have e1 : ilt a 0 = true := by simpa using h0
    simp only [e1, condO_true]
  · have e1 : ilt a 0 = false := by simpa using h0
    have e2 : ige a (llen lies) = true := ige_t (by unfold llen; omega)
    simp only [e1, e2, condO_false, condO_true]
def setD (l : List ByteArray) (p : Put) : List ByteArray := l.set p.1.toNat p.2
def settle (lies : List ByteArray) (cache : List Put) : List ByteArray := cache.foldl setD lies
def pickD (picks : List Int) (l : List ByteArray) (q : Put × Nat) : List ByteArray := if q.2 < picks.length ∧ (picks.getD q.2 0).tmod 2 ≠ 0 then setD l q.1 else l
def settleP (picks : List Int) (lies : List ByteArray) (cache : List Put) : List ByteArray := cache.zipIdx.foldl (pickD picks) lies
theorem setD_len (l : List ByteArray) (p : Put) : (setD l p).length = l.length := by simp [setD]
theorem settle_len : ∀ (cache : List Put) (lies : List ByteArray), (settle lies cache).length = lies.length
  | [], _ => rfl
  | p :: c, l => by
    have := settle_len c (setD l p)
    simp only [settle, List.foldl_cons] at this ⊢
    rw [this, setD_len]
theorem pickD_len (picks : List Int) (l : List ByteArray) (q : Put × Nat) : (pickD picks l q).length = l.length := by
  unfold pickD; split
  · exact setD_len _ _
  · rfl
theorem foldP_len (picks : List Int) : ∀ (c : List (Put × Nat)) (lies : List ByteArray), (c.foldl (pickD picks) lies).length = lies.length
  | [], _ => rfl
  | p :: c, l => by rw [List.foldl_cons, foldP_len picks c, pickD_len]
theorem settleP_len (picks : List Int) (cache : List Put) (lies : List ByteArray) : (settleP picks lies cache).length = lies.length := foldP_len picks _ _
theorem take_succ_fold {α β : Type} (f : β → α → β) (l : List α) (b : β) (i : Nat) (h : i < l.length) : (l.take (i + 1)).foldl f b = f ((l.take i).foldl f b) l[i] := by
  rw [List.take_add_one, List.getElem?_eq_getElem h, List.foldl_append]; rfl
theorem settle2_ok (k : Nat) {on armed : Bool} {left steps : Int} {lies : List ByteArray} {cache : List Put} (hk : cache.length < k) (hl : cache.length < 1000000) (hr : ∀ p ∈ cache, 0 ≤ p.1 ∧ p.1 < lies.length) :
    sector_Disk_settle k (on, armed, left, steps, lies, cache) = some (on, armed, left, steps, settle lies cache, []) := by
  unfold sector_Disk_settle
  refine bind_of (a := settle lies cache) ?_ rfl
  refine loopK_run (fun i => ((i : Int), (cache.take i).foldl setD lies)) cache.length (settle lies cache) k ?_ ?_ hk
  · intro i hlt
    have hp := hr cache[i] (List.getElem_mem hlt)
    have ea : at_ T0 cache (i : Int) = cache[i] := at_nat hlt
    have hlen : ((cache.take i).foldl setD lies).length = lies.length := settle_len _ _
    simp only [ilt_t (show (i : Int) < llen cache by unfold llen; omega), condO_true]
    rw [guardO_pos ⟨by omega, by unfold llen; omega⟩, ea, guardO_pos ⟨hp.1, by simp only [llen, hlen]; exact hp.2⟩, wk_i64 (by omega) (by omega), take_succ_fold setD cache lies i hlt]
    rfl
  · simp only [ilt_f (show llen cache ≤ (cache.length : Int) by unfold llen; omega), condO_false]
    rw [List.take_of_length_le (by omega)]; rfl
theorem settle1_ok (k : Nat) {on armed : Bool} {left steps : Int} {lies : List ByteArray} {cache : List Put} {picks : List Int} (hk : cache.length < k) (hl : cache.length < 1000000) (hr : ∀ p ∈ cache, 0 ≤ p.1 ∧ p.1 < lies.length) :
    sector_Disk_settle_2 k (on, armed, left, steps, lies, cache, picks) = some (on, armed, left, steps, settleP picks lies cache, []) := by
  unfold sector_Disk_settle_2
  refine bind_of (a := settleP picks lies cache) ?_ rfl
  have hz : cache.zipIdx.length = cache.length := by simp
  refine loopK_run (fun i => ((i : Int), (cache.zipIdx.take i).foldl (pickD picks) lies)) cache.length (settleP picks lies cache) k ?_ ?_ hk
  · intro i hlt
    have hp := hr cache[i] (List.getElem_mem hlt)
    have ea : at_ T0 cache (i : Int) = cache[i] := at_nat hlt
    have hlen : ((cache.zipIdx.take i).foldl (pickD picks) lies).length = lies.length := foldP_len picks _ _
    have hzi : cache.zipIdx[i]'(by omega) = (cache[i], i) := by simp
    simp only [ilt_t (show (i : Int) < llen cache by unfold llen; omega), condO_true]
    rw [guardO_pos ⟨by omega, by unfold llen; omega⟩, wk_i64 (by omega) (by omega), take_succ_fold (pickD picks) cache.zipIdx lies i (by omega), hzi]
    by_cases hpl : i < picks.length
    · have eb : at_ (.int .i64) picks (i : Int) = picks[i] := at_nat (t := .int .i64) hpl
      simp only [ilt_t (show (i : Int) < llen picks by unfold llen; omega), condO_true]
      rw [guardO_pos ⟨by omega, by unfold llen; omega⟩, guardO_pos (by decide), eb]
      have eg : picks.getD i 0 = picks[i] := by simp [List.getD_eq_getElem?_getD, hpl]
      by_cases hm : picks[i].tmod 2 = 0
      · simp only [ine_f hm, condO_false]
        have : pickD picks ((cache.zipIdx.take i).foldl (pickD picks) lies) (cache[i], i) = (cache.zipIdx.take i).foldl (pickD picks) lies := by
          unfold pickD; rw [if_neg]; rw [eg]; simp [hm]
        rw [this]; rfl
      · simp only [ine_t hm, condO_true, ea]
        rw [guardO_pos ⟨hp.1, by simp only [llen, hlen]; exact hp.2⟩]
        have : pickD picks ((cache.zipIdx.take i).foldl (pickD picks) lies) (cache[i], i) = setD ((cache.zipIdx.take i).foldl (pickD picks) lies) cache[i] := by
          unfold pickD; rw [if_pos]; rw [eg]; exact ⟨hpl, hm⟩
        rw [this]; rfl
    · simp only [ilt_f (show llen picks ≤ (i : Int) by unfold llen; omega), condO_false]
      have : pickD picks ((cache.zipIdx.take i).foldl (pickD picks) lies) (cache[i], i) = (cache.zipIdx.take i).foldl (pickD picks) lies := by
        unfold pickD; rw [if_neg]; simp; omega
      rw [this]; rfl
  · simp only [ilt_f (show llen cache ≤ (cache.length : Int) by unfold llen; omega), condO_false]
    rw [List.take_of_length_le (by omega)]; rfl
theorem flush_ok (k : Nat) {on armed : Bool} {left steps : Int} {lies : List ByteArray} {cache : List Put} (h0 : 0 < lies.length) (hk : cache.length < k) (hl : cache.length < 1000000) (hr : ∀ p ∈ cache, 0 ≤ p.1 ∧ p.1 < lies.length) :
    sector_Disk_Flush k (on, armed, left, steps, lies, cache) = some (if mayD on armed left = true then (0, true, armed, leftD armed left, WK .i64 (steps + 1), settle lies cache, []) else (14, false, armed, left, steps, lies, cache)) := by
  have e1 : ieq (llen lies) 0 = false := ieq_f (by unfold llen; omega)
  unfold sector_Disk_Flush
  simp only [e1, condO_false, step_spec, Option.bind_some]
  by_cases hm : mayD on armed left = true
  · simp only [hm, if_true]
    have := settle2_ok k (on := true) (armed := armed) (left := leftD armed left) (steps := WK .i64 (steps + 1)) hk hl hr
    simp only [show ieq 0 0 = true by rfl, condO_true, this, Option.bind_some]
  · simp only [hm, Bool.false_eq_true, if_false]
    rfl
theorem put1 : ref01_Put 1000 1 = some ⟨#[1, 1]⟩ := by kernel_rfl
theorem fill1 (l : List Int) (h : l.length = 1) : ref05_Fill 1000 (strOfNums l) = some ((⟨#[1, 1]⟩ : ByteArray) ++ strOfNums l ++ strOfNums (List.replicate 253 0), 0) := by
  have hs : (strOfNums l).size = 1 := by rw [size_strOfNums, h]
  have e1 : WK .u64 (blen (strOfNums l)) = 1 := by rw [blen, hs]; rfl
  unfold ref05_Fill
  rw [e1, put1]
  simp only [Option.bind_some]
  have hc : catOk (⟨#[1, 1]⟩ : ByteArray) (strOfNums l) := by unfold catOk; rw [hs]; decide
  have hb : blen ((⟨#[1, 1]⟩ : ByteArray) ++ strOfNums l) = 3 := by
    show (((⟨#[1, 1]⟩ : ByteArray) ++ strOfNums l).size : Int) = 3
    rw [size_app, hs]; rfl
  rw [guardO_pos hc, hb]
  simp only [show igt 3 256 = false by rfl, condO_false, show WK .i64 (256 - 3) = 253 by rfl]
  rw [guardO_pos (by unfold mkOk; decide), guardO_pos ?_]
  · rfl
  · unfold catOk
    rw [size_app, hs, size_strOfNums, List.length_replicate]
    decide
abbrev withS (c : Int) : ByteArray := (⟨#[1, 1]⟩ : ByteArray) ++ strOfNums [c] ++ strOfNums (List.replicate 253 0)
theorem with_size (c : Int) : (withS c).size = 256 := by
  unfold withS
  rw [size_app, size_app, size_strOfNums, size_strOfNums, List.length_replicate]
  rfl
theorem fill_with (c : Int) : ref05_Fill 1000 (strOfNums [c]) = some (withS c, 0) := fill1 [c] rfl
def noneS : ByteArray := strOfNums (List.replicate 256 0)
theorem rep256 : strings_Repeat 1000 (⟨#[0]⟩, 256) = some noneS := by kernel_rfl
theorem none_size : noneS.size = 256 := by unfold noneS; rw [size_strOfNums, List.length_replicate]
theorem rep_lies (n : Nat) (h1 : 1 ≤ n) (h2 : n ≤ 65536) (s : ByteArray) : slices_Repeat 1000 ((n : Int), [s]) = some (List.replicate n s) := by
  show L_slices_Repeat 1000 ((n : Int), [s]) = _
  unfold L_slices_Repeat
  simp only
  rw [guardO_pos ⟨by omega, by omega⟩, Int.toNat_natCast]
end Go.Proofs.YtlidgpepppjeiaaGreatDoor
/- The disk: what is read behind writes, flushes and crashes; the document's disk. No condition. -/
set_option linter.unusedVariables false
set_option linter.unusedSimpArgs false
namespace Go.Proofs.YtlidgpepppjeiaaGreatDoor
open Go
/-- The state of the disk behind some writes. -/
structure DOk (n : Nat) (lies : List ByteArray) (cache : List Put) : Prop where
  len : lies.length = n
  rng : ∀ p ∈ cache, 0 ≤ p.1 ∧ p.1 < lies.length
theorem DOk.nil {n : Nat} {lies : List ByteArray} (h : lies.length = n) : DOk n lies [] := ⟨h, fun p hp => by cases hp⟩
theorem DOk.put {n : Nat} {lies : List ByteArray} {cache : List Put} (h : DOk n lies cache) {a : Int} {s : ByteArray} (h0 : 0 ≤ a) (h1 : a < n) : DOk n lies (cache ++ [(a, s)]) :=
  ⟨h.len, fun p hp => by
    rcases List.mem_append.1 hp with hp | hp
    · exact h.rng p hp
    · obtain rfl := List.mem_singleton.1 hp
      exact ⟨h0, by rw [h.len]; exact h1⟩⟩
theorem DOk.settle {n : Nat} {lies : List ByteArray} {cache : List Put} (h : DOk n lies cache) : DOk n (settle lies cache) [] := .nil (by rw [settle_len]; exact h.len)
theorem DOk.settleP {n : Nat} {lies : List ByteArray} {cache : List Put} (h : DOk n lies cache) (picks : List Int) : DOk n (settleP picks lies cache) [] := .nil (by rw [settleP_len]; exact h.len)
theorem beq_self (b : Bool) : (!(beq b b)) = false := by cases b <;> rfl
theorem rd_put (lies : List ByteArray) (cache : List Put) (a b : Int) (s : ByteArray) : rd lies (cache ++ [(a, s)]) b = if a = b then s else rd lies cache b := by
  unfold rd
  rw [List.reverse_append]
  simp only [List.reverse_cons, List.reverse_nil, List.nil_append, List.cons_append, List.find?_cons]
  by_cases h : a = b
  · rw [if_pos h, show (a == b) = true by simpa using h]
  · rw [if_neg h, show (a == b) = false by simpa using h]
theorem rd_nil (lies : List ByteArray) (a : Int) : rd lies [] a = lies.getD a.toNat str0 := rfl
theorem getD_set {l : List ByteArray} {i j : Nat} {x d : ByteArray} (h : i < l.length) : (l.set i x).getD j d = if i = j then x else l.getD j d := by
  simp only [List.getD_eq_getElem?_getD, List.getElem?_set]
  by_cases e : i = j
  · subst e; simp [h]
  · simp [e]
theorem snoc_induct {α : Type} {P : List α → Prop} (h0 : P []) (h1 : ∀ l a, P l → P (l ++ [a])) (l : List α) : P l := by
  rw [← List.reverse_reverse l]
  induction l.reverse with
  | nil => exact h0
  | cons a l ih => rw [List.reverse_cons]; exact h1 _ _ ih
theorem rd_settle (lies : List ByteArray) (cache : List Put) (hr : ∀ p ∈ cache, 0 ≤ p.1 ∧ p.1 < lies.length) (a : Int) (h0 : 0 ≤ a) : (settle lies cache).getD a.toNat str0 = rd lies cache a := by
  revert hr
  refine snoc_induct (P := fun cache : List Put => (∀ p ∈ cache, 0 ≤ p.1 ∧ p.1 < lies.length) → (settle lies cache).getD a.toNat str0 = rd lies cache a) (fun _ => rfl) ?_ cache
  rintro c ⟨b, s⟩ ih hr
  have hb := hr (b, s) (by simp)
  rw [rd_put, ← ih (fun p hp => hr p (List.mem_append_left _ hp))]
  rw [show settle lies (c ++ [(b, s)]) = setD (settle lies c) (b, s) by unfold settle; rw [List.foldl_append]; rfl]
  unfold setD
  rw [getD_set (by rw [settle_len]; omega)]
  by_cases e : b = a
  · rw [if_pos (by omega), if_pos e]
  · rw [if_neg (by omega), if_neg e]
theorem write_on (k : Nat) {a : Int} {s : ByteArray} {left steps : Int} {lies : List ByteArray} {cache : List Put} (h0 : 0 ≤ a) (h1 : a < lies.length) (h2 : s.size = 256) (hc : cache.length < 1000000) :
    sector_Disk_Write k (a, s, true, false, left, steps, lies, cache) = some (0, true, false, left, WK .i64 (steps + 1), lies, cache ++ [(a, s)]) := by
  rw [write_ok k h0 h1 h2 hc]; rfl
theorem flush_on (k : Nat) {left steps : Int} {lies : List ByteArray} {cache : List Put} (h0 : 0 < lies.length) (hk : cache.length < k) (hl : cache.length < 1000000) (hr : ∀ p ∈ cache, 0 ≤ p.1 ∧ p.1 < lies.length) :
    sector_Disk_Flush k (true, false, left, steps, lies, cache) = some (0, true, false, left, WK .i64 (steps + 1), settle lies cache, []) := by
  rw [flush_ok k h0 hk hl hr]; rfl
theorem settleP_one (picks : List Int) (lies : List ByteArray) (cache : List Put) (hr : ∀ p ∈ cache, 0 ≤ p.1 ∧ p.1 < lies.length) (a : Nat) :
    (settleP picks lies cache).getD a str0 = lies.getD a str0 ∨ ∃ p ∈ cache, p.1 = (a : Int) ∧ (settleP picks lies cache).getD a str0 = p.2 := by
  have key : ∀ (c : List (Put × Nat)) (l : List ByteArray), l.length = lies.length → (∀ q ∈ c, 0 ≤ q.1.1 ∧ q.1.1 < lies.length) → (c.foldl (pickD picks) l).getD a str0 = l.getD a str0 ∨ ∃ q ∈ c, q.1.1 = (a : Int) ∧ (c.foldl (pickD picks) l).getD a str0 = q.1.2 := by
    intro c
    induction c with
    | nil => intro l _ _; exact .inl rfl
    | cons q c ih =>
      intro l hl hq
      rw [List.foldl_cons]
      rcases ih (pickD picks l q) (by rw [pickD_len]; exact hl) (fun r hr => hq r (List.mem_cons_of_mem _ hr)) with h | ⟨r, hr, h1, h2⟩
      · rw [h]
        have hb := hq q (List.mem_cons_self ..)
        unfold pickD
        split
        · unfold setD
          rw [getD_set (by omega)]
          by_cases e : q.1.1.toNat = a
          · rw [if_pos e]
            refine .inr ⟨q, List.mem_cons_self .., by omega, rfl⟩
          · rw [if_neg e]; exact .inl rfl
        · exact .inl rfl
      · exact .inr ⟨r, List.mem_cons_of_mem _ hr, h1, h2⟩
  have hz : ∀ q ∈ cache.zipIdx, q.1 ∈ cache := by
    rintro ⟨p, i⟩ hp
    exact (List.mem_zipIdx' hp).2 ▸ List.getElem_mem _
  rcases key cache.zipIdx lies rfl (fun q hq => hr q.1 (hz q hq)) with h | ⟨q, hq, h1, h2⟩
  · exact .inl h
  · exact .inr ⟨q.1, hz q hq, h1, h2⟩
theorem vAt_set {α : Type} (d : α) {n : Nat} (v : Vector α n) (i j : Int) (x : α) (h0 : 0 ≤ i) (h1 : i < n) (h2 : 0 ≤ j) : vAt d (vSet v i x) j = if i = j then x else vAt d v j := by
  unfold vAt vSet
  have hs : v.toArray.size = n := v.size_toArray
  simp only [Vector.toArray_setIfInBounds, Array.getD_eq_getD_getElem?, Array.getElem?_setIfInBounds]
  by_cases e : i = j
  · subst e
    rw [if_pos rfl, if_pos rfl, if_pos (by rw [hs]; omega)]; rfl
  · rw [if_neg (by omega), if_neg e]
theorem vAt_rep {α : Type} (d : α) {n : Nat} (x : α) (i : Int) (h0 : 0 ≤ i) (h1 : i < n) : vAt d (Vector.replicate n x) i = x := by
  unfold vAt
  simp only [Vector.toArray_replicate, Array.getD_eq_getD_getElem?]
  rw [Array.getElem?_replicate, if_pos (by omega)]; rfl
end Go.Proofs.YtlidgpepppjeiaaGreatDoor
/- A journal's region is read, made and opened. No condition. -/
set_option linter.unusedVariables false
set_option linter.unusedSimpArgs false
namespace Go.Proofs.YtlidgpepppjeiaaGreatDoor
open Go
theorem fits_ok {b n : Int} {on armed : Bool} {left steps : Int} {lies : List ByteArray} {cache : List Put} (hl : lies.length ≤ 65536) :
    redo_fits 1000 (b, n, on, armed, left, steps, lies, cache) = some (decide (0 ≤ b ∧ 4 ≤ n ∧ n ≤ 65536 ∧ b ≤ (lies.length : Int) - n)) := by
  unfold redo_fits
  simp only
  by_cases h1 : 0 ≤ b
  · by_cases h2 : 4 ≤ n
    · by_cases h3 : n ≤ 65536
      · rw [ige_t h1, condO_true, ige_t h2, condO_true, ile_t h3, condO_true, llen, wk_i64 (by omega) (by omega)]
        by_cases h4 : b ≤ (lies.length : Int) - n
        · rw [ile_t h4, decide_eq_true ⟨h1, h2, h3, h4⟩]
        · rw [ile_f (by omega), decide_eq_false (fun h => h4 h.2.2.2)]
      · rw [ige_t h1, condO_true, ige_t h2, condO_true, ile_f (by omega), condO_false, decide_eq_false (fun h => h3 h.2.2.1)]
    · rw [ige_t h1, condO_true, ige_f (by omega), condO_false, decide_eq_false (fun h => h2 h.2.1)]
  · rw [ige_f (by omega), condO_false, decide_eq_false (fun h => h1 h.1)]
def stp : Nat → Int → Int
  | 0, s => s
  | i + 1, s => WK .i64 (stp i s + 1)
structure PutOk (n : Nat) (p : Put) : Prop where
  lo : 0 ≤ p.1
  hi : p.1 < n
  sz : p.2.size = 256
theorem writes_on (fl : Bool) {left steps : Int} {lies : List ByteArray} {cache puts : List Put} (hp : ∀ p ∈ puts, PutOk lies.length p) (h0 : 0 < lies.length) (hl : cache.length + puts.length < 900) (hr : ∀ p ∈ cache, 0 ≤ p.1 ∧ p.1 < lies.length) :
    ∃ st, redo_write 1000 (fl, true, false, left, steps, puts, lies, cache) = some (0, true, false, left, st, if fl then settle lies (cache ++ puts) else lies, if fl then [] else cache ++ puts) := by
  unfold redo_write
  have hcp : ∀ p ∈ cache ++ puts, 0 ≤ p.1 ∧ p.1 < lies.length := fun p hm => by
    rcases List.mem_append.1 hm with hm | hm
    · exact hr p hm
    · exact ⟨(hp p hm).lo, (hp p hm).hi⟩
  refine ⟨if fl then WK .i64 (stp puts.length steps + 1) else stp puts.length steps, ?_⟩
  refine bind_of (a := .inr (true, false, left, stp puts.length steps, lies, cache ++ puts)) ?_ ?_
  · have s0 : ((0 : Int), true, false, left, steps, lies, cache) = (fun i : Nat => ((i : Int), true, false, left, stp i steps, lies, cache ++ puts.take i)) 0 := by simp [stp]
    simp only [s0]
    refine loopK_run (fun i : Nat => ((i : Int), true, false, left, stp i steps, lies, cache ++ puts.take i)) puts.length _ 1000 ?_ ?_ (by omega)
    · intro i hi
      have hq := hp puts[i] (List.getElem_mem hi)
      have ea : at_ T0 puts (i : Int) = puts[i] := at_nat hi
      simp only [ilt_t (show (i : Int) < llen puts by unfold llen; omega), condO_true, ea]
      rw [guardO_pos ⟨by omega, by unfold llen; omega⟩, write_on 1000 hq.lo hq.hi hq.sz (by rw [List.length_append, List.length_take]; omega)]
      simp only [Option.bind_some, show ine 0 0 = false from rfl, condO_false]
      rw [wk_i64 (x := (i : Int) + 1) (by omega) (by omega), List.append_assoc, ← List.take_succ_eq_append_getElem hi]
      rfl
    · simp only [ilt_f (show llen puts ≤ (puts.length : Int) by unfold llen; omega), condO_false, List.take_length]
  · simp only [caseS_inr]
    cases fl with
    | false => rfl
    | true =>
      simp only [condO_true, if_true]
      rw [flush_on 1000 h0 (by rw [List.length_append]; omega) (by rw [List.length_append]; omega) hcp]
      rfl
def regL (lies : List ByteArray) (b n : Nat) : List ByteArray := (List.range n).map fun i => lies.getD (b + i) str0
theorem regL_len (lies : List ByteArray) (b n : Nat) : (regL lies b n).length = n := by simp [regL]
theorem regL_at (lies : List ByteArray) (b n i : Nat) (h : i < n) : (regL lies b n).getD i str0 = lies.getD (b + i) str0 := by
  unfold regL
  rw [List.getD_eq_getElem?_getD, List.getElem?_map, List.getElem?_range h]
  rfl
theorem regL_take (lies : List ByteArray) (b i : Nat) : regL lies b (i + 1) = regL lies b i ++ [lies.getD (b + i) str0] := by
  unfold regL
  rw [List.range_succ, List.map_append]; rfl
/-- A region that is read whole. -/
theorem open_read {b n : Nat} {armed : Bool} {left steps : Int} {lies : List ByteArray} (h4 : 4 ≤ n) (h6 : n ≤ 64) (hb : b + n ≤ lies.length) (hl : lies.length ≤ 65536) {step : Int × List ByteArray → Option ((Int × List ByteArray) ⊕ (Int ⊕ List ByteArray))}
    (hstep : ∀ i h, step (i, h) = condO (ilt i (n : Int)) ((sector_Disk_Read 1000 ((WK .i64 ((b : Int) + i)), true, armed, left, steps, lies, [])).bind fun r2 => condO (ine r2.2 0) (some (.inr (.inl r2.2))) (guardO ((appOk h ([r2.1] : List ByteArray) 16)) (some (.inl (((WK .i64 (i + 1)), (h ++ ([r2.1] : List ByteArray)))))))) (some (.inr (.inr h)))) :
    loopK 1000 step (0, []) = some (.inr (regL lies b n)) := by
  refine loopK_run (fun i : Nat => ((i : Int), regL lies b i)) n _ 1000 ?_ ?_ (by omega)
  · intro i hi
    simp only [hstep]
    rw [ilt_t (by omega), condO_true, wk_i64 (x := (b : Int) + i) (by omega) (by omega), read_ok 1000 (by omega) (by omega)]
    simp only [Option.bind_some, show ine 0 0 = false from rfl, condO_false]
    rw [guardO_pos (by unfold appOk; simp only [regL_len, List.length_cons, List.length_nil]; omega), wk_i64 (x := (i : Int) + 1) (by omega) (by omega), rd_nil, show ((b : Int) + i).toNat = b + i by omega, regL_take]
    rfl
  · simp only [hstep]
    rw [ilt_f (Int.le_refl _), condO_false]
end Go.Proofs.YtlidgpepppjeiaaGreatDoor
/- A journal is made and opened: the calls' answers. No condition. -/
set_option linter.unusedVariables false
set_option linter.unusedSimpArgs false
namespace Go.Proofs.YtlidgpepppjeiaaGreatDoor
open Go
theorem blank_ok : strOfNums (lrep 256 (0 : Int)) = noneS := rfl
theorem jopen_arg {b n : Int} {on armed : Bool} {left steps : Int} {lies : List ByteArray} {cache : List Put} (hl : lies.length ≤ 65536) (h : ¬ (0 ≤ b ∧ 4 ≤ n ∧ n ≤ 65536 ∧ b ≤ (lies.length : Int) - n)) :
    redo_Open 1000 (b, n, on, armed, left, steps, vgl_check_table, lies, cache) = some (.inl (1, on, armed, left, steps, lies, cache)) := by
  unfold redo_Open
  simp only
  rw [fits_ok hl, decide_eq_false h]
  rfl
theorem format_arg {b n : Int} {on armed : Bool} {left steps : Int} {lies : List ByteArray} {cache : List Put} (hl : lies.length ≤ 65536) (h : ¬ (0 ≤ b ∧ 4 ≤ n ∧ n ≤ 65536 ∧ b ≤ (lies.length : Int) - n)) :
    redo_Format 1000 (b, n, on, armed, left, steps, vgl_check_table, lies, cache) = some (1, on, armed, left, steps, lies, cache) := by
  unfold redo_Format
  simp only
  rw [fits_ok hl, decide_eq_false h]
  rfl
theorem open_form {b n : Nat} {armed : Bool} {left steps : Int} {lies : List ByteArray} (h4 : 4 ≤ n) (h6 : n ≤ 64) (hb : b + n ≤ lies.length) (hl : lies.length ≤ 65536)
    {p s : Int} {all : List (List Put)} (hs : redo_Scan 1000 (regL lies b n, vgl_check_table) = some (p, s, false, all)) :
    redo_Open 1000 (b, n, true, armed, left, steps, vgl_check_table, lies, []) = some (.inl (10, true, armed, left, steps, lies, [])) := by
  unfold redo_Open
  simp only
  rw [fits_ok hl, decide_eq_true ⟨by omega, by omega, by omega, by omega⟩]
  simp only [Option.bind_some, Bool.not_true, condO_false]
  refine bind_of (a := .inr (regL lies b n)) (open_read h4 h6 hb hl (fun i h => rfl)) ?_
  simp only [caseS_inr]
  refine bind_of hs ?_
  simp only [Bool.not_false, condO_true]
theorem open_none {b n p : Nat} {left steps : Int} {lies : List ByteArray} (h4 : 4 ≤ n) (h6 : n ≤ 64) (hb : b + n ≤ lies.length) (hl : lies.length ≤ 65536)
    {s : Int} (hs : redo_Scan 1000 (regL lies b n, vgl_check_table) = some ((p : Int), s, true, [])) (hp : p < n - 1) :
    ∃ st, redo_Open 1000 (b, n, true, false, left, steps, vgl_check_table, lies, []) = some (.inr (0, true, false, left, st, (b : Int), (n : Int), (p : Int), s, 0, false, lies.set (b + 1 + p) noneS, [])) := by
  obtain ⟨st, hw⟩ := writes_on (left := left) (steps := steps) (lies := lies) (cache := []) (puts := [(((b + 1 + p : Nat) : Int), noneS)]) true (fun q hq => by
    obtain rfl := List.mem_singleton.1 hq
    exact ⟨by simp only; omega, by simp only; omega, none_size⟩) (by omega) (by simp) (fun q hq => by cases hq)
  refine ⟨st, ?_⟩
  unfold redo_Open
  simp only
  rw [fits_ok hl, decide_eq_true ⟨by omega, by omega, by omega, by omega⟩]
  simp only [Option.bind_some, Bool.not_true, condO_false]
  refine bind_of (a := .inr (regL lies b n)) (open_read h4 h6 hb hl (fun i h => rfl)) ?_
  simp only [caseS_inr]
  refine bind_of hs ?_
  simp only [Bool.not_true, condO_false, show igt (llen ([] : List (List Put))) 0 = false from rfl, Option.bind_some, caseS_inr, blank_ok]
  rw [guardO_pos (by decide), wk_i64 (x := (b : Int) + 1) (by omega) (by omega), wk_i64 (x := (b : Int) + 1 + p) (by omega) (by omega), show (b : Int) + 1 + p = ((b + 1 + p : Nat) : Int) by omega]
  refine bind_of hw ?_
  simp only [show ine 0 0 = false from rfl, condO_false, if_true, List.nil_append, settle, List.foldl_cons, List.foldl_nil, setD, Int.toNat_natCast]
def hdB (p s : Int) : ByteArray := lineB (headT p s)
theorem secL_le {l : List UInt8} (hl : l.length ≤ 254) (h2 : (putL l.length ++ l).length ≤ 256) : (secL l).length = 256 := by
  simp only [secL, List.length_append, List.length_replicate] at h2 ⊢; omega
theorem line_size {t : List UInt8} (h : t.length ≤ 240) : (lineB t).size = 256 := by
  have h2 : (putL (sealL t).length ++ sealL t).length ≤ 256 := by
    rw [List.length_append]
    have := putL_le (x := (sealL t).length) (by rw [sealL_len]; omega)
    rw [sealL_len] at this ⊢
    omega
  unfold lineB secB
  rw [if_neg (by omega)]
  show (mkB (secL (sealL t))).size = 256
  rw [mkB_size, secL_le (by rw [sealL_len]; omega) h2]
theorem format_ok {b n : Nat} {left steps : Int} {lies : List ByteArray} (h4 : 4 ≤ n) (hb : b + n ≤ lies.length) (hl : lies.length ≤ 65536) :
    ∃ st, redo_Format 1000 (b, n, true, false, left, steps, vgl_check_table, lies, []) = some (0, true, false, left, st, (lies.set b (hdB 0 1)).set (b + 1) noneS, []) := by
  have hsz : (hdB 0 1).size = 256 := line_size (Nat.le_trans (headT_len 0 1) (by decide))
  obtain ⟨st, hw⟩ := writes_on (left := left) (steps := steps) (lies := lies) (cache := []) (puts := [((b : Int), hdB 0 1), (((b + 1 : Nat) : Int), noneS)]) true (fun q hq => by
    simp only [List.mem_cons, List.not_mem_nil, or_false] at hq
    rcases hq with rfl | rfl
    · exact ⟨by simp only; omega, by simp only; omega, hsz⟩
    · exact ⟨by simp only; omega, by simp only; omega, none_size⟩) (by omega) (by simp) (fun q hq => by cases hq)
  refine ⟨st, ?_⟩
  have h1 := kput_le 0 65535 (by decide)
  have h2 := kput_le 1 1099511627776 (by decide)
  unfold redo_Format
  simp only
  rw [fits_ok hl, decide_eq_true ⟨by omega, by omega, by omega, by omega⟩]
  simp only [Option.bind_some, Bool.not_true, condO_false]
  rw [cput16, cput40]
  simp only [Option.bind_some, kind3]
  rw [guardO_pos (catOk_small (by decide) (by omega))]
  simp only [mkB_app]
  rw [guardO_pos (catOk_small (by simp only [List.length_append, List.length_cons, List.length_nil]; omega) (by omega)), line_ok (t := [83, 67, 72] ++ putL (kpn 0 65535) ++ putL (kpn 1 1099511627776)) (Nat.le_trans (headT_len 0 1) (by decide)), guardO_pos (by decide), wk_i64 (x := (b : Int) + 1) (by omega) (by omega), show (b : Int) + 1 = ((b + 1 : Nat) : Int) by omega, blank_ok]
  refine bind_of hw ?_
  simp only [if_true, List.nil_append, settle, List.foldl_cons, List.foldl_nil, setD, Int.toNat_natCast]
theorem none_head : redo_text 1000 (noneS, ⟨#[83, 67, 72]⟩, vgl_check_table) = some (.inl ()) := by kernel_rfl
theorem none_first : redo_text 1000 (noneS, ⟨#[83, 67, 68]⟩, vgl_check_table) = some (.inl ()) := by kernel_rfl
theorem num_zero {n : Int} (h : 0 ≤ n) (h2 : n ≤ 9223372036854775807) : octet_Scan_Num_2 1000 n = some 0 := by
  have e : octet_Scan_Long_2 1000 () = some 0 := by kernel_rfl
  unfold octet_Scan_Num_2
  rw [e]
  simp only [Option.bind_some]
  rw [ilt_f h, condO_false, wk_u64 (by omega) (by omega), igt_f h, condO_false]
  rfl
theorem found_none {p s : Int} {l : List ByteArray} (h0 : 0 ≤ p) (hp : p < l.length) (hn : l.getD p.toNat str0 = noneS) : redo_slots_found 1000 (p, s, l, vgl_check_table) = some [] := by
  unfold redo_slots_found
  have ht : Int.tmod p (llen l) = p := by rw [Int.tmod_eq_emod_of_nonneg h0]; exact Int.emod_eq_of_lt h0 hp
  have ha : at_ .str l p = noneS := hn
  simp only [ht, ha]
  rw [guardO_pos (by unfold nz llen; omega), guardO_pos ⟨h0, hp⟩, none_first]
  simp only [Option.bind_some, caseS_inl]
  rw [num_zero (by decide) (by decide)]
  simp only [Option.bind_some]
  rw [num_zero (by decide) (by decide)]
  rfl
theorem scan_none {l : List ByteArray} (h : 4 ≤ l.length) (hn : l.getD 0 str0 = noneS) : redo_Scan 1000 (l, vgl_check_table) = some (0, 0, false, []) := by
  unfold redo_Scan
  have ha : at_ .str l 0 = noneS := hn
  simp only [ha]
  rw [ilt_f (by unfold llen; omega), condO_false, guardO_pos ⟨by decide, by unfold llen; omega, Int.le_refl _, rfl⟩, guardO_pos ⟨by decide, by unfold llen; omega⟩, none_head]
  simp only [Option.bind_some, caseS_inl]
  rw [num_zero (by decide) (by decide)]
  simp only [Option.bind_some]
  rw [num_zero (by decide) (by decide)]
  rfl
theorem scan_new {l : List ByteArray} (h : 4 ≤ l.length) (hh : l.getD 0 str0 = hdB 0 1) (hn : l.getD 1 str0 = noneS) : redo_Scan 1000 (l, vgl_check_table) = some (0, 1, true, []) := by
  have e1 : redo_text 1000 (hdB 0 1, ⟨#[83, 67, 72]⟩, vgl_check_table) = some (.inr (⟨#[0, 1, 1]⟩, false)) := by kernel_rfl
  have e2 : octet_Scan_Num 1000 (65535, ⟨#[0, 1, 1]⟩, false) = some (0, ⟨#[1, 1]⟩, false) := by kernel_rfl
  have e3 : octet_Scan_Num 1000 (549755813888, ⟨#[1, 1]⟩, false) = some (1, ⟨#[]⟩, false) := by kernel_rfl
  unfold redo_Scan
  have ha : at_ .str l 0 = hdB 0 1 := hh
  simp only [ha]
  rw [ilt_f (by unfold llen; omega), condO_false, guardO_pos ⟨by decide, by unfold llen; omega, Int.le_refl _, rfl⟩, guardO_pos ⟨by decide, by unfold llen; omega⟩, e1]
  simp only [Option.bind_some, caseS_inr, e2, e3]
  have hd : (ldrop 1 l).length = l.length - 1 := by unfold ldrop; rw [List.length_drop]; rfl
  have hf : redo_slots_found 1000 (0, 1, ldrop 1 l, vgl_check_table) = some [] := by
    refine found_none (by decide) (by omega) ?_
    show (l.drop (1 : Int).toNat).getD 0 str0 = noneS
    rw [← hn]
    simp [List.getD_eq_getElem?_getD]
  have hs : sEq (⟨#[]⟩ : ByteArray) str0 = true := rfl
  simp only [Bool.not_false, Bool.not_true, condO_false, hs, show ine 0 0 = false from rfl]
  rw [ige_f (by unfold llen; omega), condO_false, ilt_f (by decide), condO_false]
  simp only [Option.bind_some, caseS_inr]
  refine bind_of (a := (0, 1, [])) ?_ rfl
  refine loopK_run (fun _ : Nat => ((0 : Int), (1 : Int), (0 : Int), ([] : List (List Put)))) 0 _ 1000 (fun i hi => by omega) ?_ (by decide)
  simp only [hf, Option.bind_some]
  rfl
end Go.Proofs.YtlidgpepppjeiaaGreatDoor
/- A journal's transactions, with power on: Commit and Checkpoint. No condition. -/
set_option linter.unusedVariables false
set_option linter.unusedSimpArgs false
namespace Go.Proofs.YtlidgpepppjeiaaGreatDoor
open Go
theorem settle_app (l : List ByteArray) (a b : List Put) : settle l (a ++ b) = settle (settle l a) b := by unfold settle; rw [List.foldl_append]
theorem check_idle {b n p s left steps : Int} {on armed : Bool} {lies : List ByteArray} {cache : List Put} :
    redo_Log_Checkpoint 1000 (b, n, p, s, 0, false, vgl_check_table, on, armed, left, steps, lies, cache) = some (0, b, n, p, s, 0, false, on, armed, left, steps, lies, cache) := rfl
theorem check_on {b n p : Nat} {s u left steps : Int} {lies : List ByteArray} {cache : List Put} (hu : u ≠ 0) (hb : b < lies.length) (hl : cache.length < 890) (hr : ∀ q ∈ cache, 0 ≤ q.1 ∧ q.1 < lies.length) :
    ∃ st, redo_Log_Checkpoint 1000 ((b : Int), (n : Int), (p : Int), s, u, false, vgl_check_table, true, false, left, steps, lies, cache) = some (0, (b : Int), (n : Int), (p : Int), s, 0, false, true, false, left, st, (settle lies cache).set b (hdB p s), []) := by
  obtain ⟨s1, h1⟩ := writes_on (left := left) (steps := steps) (lies := lies) (cache := cache) (puts := []) true (fun q hq => by cases hq) (by omega) (by simp; omega) hr
  have hsz : (hdB p s).size = 256 := line_size (Nat.le_trans (headT_len p s) (by decide))
  obtain ⟨s2, h2⟩ := writes_on (left := left) (steps := s1) (lies := settle lies cache) (cache := []) (puts := [((b : Int), hdB p s)]) true (fun q hq => by
    obtain rfl := List.mem_singleton.1 hq
    exact ⟨by simp only; omega, by simp only [settle_len]; omega, hsz⟩) (by rw [settle_len]; omega) (by simp) (fun q hq => by cases hq)
  refine ⟨s2, ?_⟩
  have k1 := kput_le p 65535 (by decide)
  have k2 := kput_le s 1099511627776 (by decide)
  simp only [if_true, List.append_nil] at h1
  unfold redo_Log_Checkpoint
  refine bind_of (a := 0) rfl ?_
  simp only [show ine 0 0 = false from rfl, condO_false]
  rw [ieq_f hu, condO_false]
  refine bind_of h1 ?_
  refine bind_of (a := (0, true, false, left, s2, (settle lies cache).set b (hdB p s), [])) ?_ ?_
  · simp only [show ieq 0 0 = true from rfl, condO_true]
    rw [cput16, cput40]
    simp only [Option.bind_some, kind3]
    rw [guardO_pos (catOk_small (by decide) (by omega))]
    simp only [mkB_app]
    rw [guardO_pos (catOk_small (by simp only [List.length_append, List.length_cons, List.length_nil]; omega) (by omega)), line_ok (t := [83, 67, 72] ++ putL (kpn p 65535) ++ putL (kpn s 1099511627776)) (Nat.le_trans (headT_len p s) (by decide))]
    refine bind_of h2 ?_
    simp only [if_true, List.nil_append, settle, List.foldl_cons, List.foldl_nil, setD, Int.toNat_natCast]
  · rfl
def wrongQ (b n L : Nat) (q : Put) : Bool := !(q.2.size == 256 && decide (0 ≤ q.1) && decide (q.1 < L) && !(decide ((b : Int) ≤ q.1) && decide (q.1 < (b : Int) + n)))
theorem wrong_ok {b n : Nat} {a p s u left steps : Int} {S : ByteArray} {br on armed : Bool} {lies : List ByteArray} {cache : List Put} (hb : b + n ≤ 100000) :
    redo_Log_wrong 1000 (a, S, (b : Int), (n : Int), p, s, u, br, on, armed, left, steps, lies, cache) = some (wrongQ b n lies.length (a, S)) := by
  unfold redo_Log_wrong wrongQ
  simp only
  by_cases h1 : S.size = 256
  · rw [ine_f (show blen S = 256 by rw [blen, h1]; rfl), condO_false, h1]
    by_cases h2 : 0 ≤ a
    · rw [ilt_f h2, condO_false, decide_eq_true h2]
      by_cases h3 : a < lies.length
      · rw [ige_f (by unfold llen; omega), condO_false, decide_eq_true h3]
        by_cases h4 : (b : Int) ≤ a
        · rw [ige_t h4, condO_true, wk_i64 (by omega) (by omega), decide_eq_true h4]
          by_cases h5 : a < (b : Int) + n
          · rw [ilt_t h5, decide_eq_true h5]; rfl
          · rw [ilt_f (by omega), decide_eq_false h5]; rfl
        · rw [ige_f (by omega), condO_false, decide_eq_false h4]; rfl
      · rw [ige_t (by unfold llen; omega), condO_true, decide_eq_false h3]; simp
    · rw [ilt_t (by omega), condO_true, decide_eq_false h2]; simp
  · rw [ine_t (by rw [blen]; omega), condO_true, show (S.size == 256) = false by simpa using h1]; simp
theorem index_ok {b n : Nat} {p s u left steps : Int} {br on armed : Bool} {puts : List Put} {lies : List ByteArray} {cache : List Put} (hb : b + n ≤ 100000) (hp : puts.length < 900) :
    ∃ r, slices_IndexFunc 1000 (puts, (b : Int), (n : Int), p, s, u, br, on, armed, left, steps, lies, cache) = some r ∧ (r = -1 ∧ (∀ q ∈ puts, wrongQ b n lies.length q = false) ∨ 0 ≤ r ∧ ∃ q ∈ puts, wrongQ b n lies.length q = true) := by
  unfold slices_IndexFunc
  have hstep : ∀ i (hi : i < puts.length), at_ T0 puts (i : Int) = puts[i] := fun i hi => at_nat hi
  by_cases h : puts.findIdx (wrongQ b n lies.length) < puts.length
  · refine ⟨((puts.findIdx (wrongQ b n lies.length) : Nat) : Int), ?_, .inr ⟨by omega, _, List.getElem_mem h, List.findIdx_getElem (w := h)⟩⟩
    refine bind_of (a := .inl ((puts.findIdx (wrongQ b n lies.length) : Nat) : Int)) ?_ rfl
    refine loopK_run (fun i : Nat => (i : Int)) (puts.findIdx (wrongQ b n lies.length)) _ 1000 ?_ ?_ (by omega)
    · intro i hi
      have hn : wrongQ b n lies.length puts[i] = false := by simpa using List.not_of_lt_findIdx hi
      simp only [ilt_t (show (i : Int) < llen puts by unfold llen; omega), condO_true, hstep i (by omega)]
      rw [guardO_pos ⟨by omega, by unfold llen; omega⟩, wrong_ok hb]
      simp only [Option.bind_some, hn, condO_false]
      rw [wk_i64 (by omega) (by omega)]; rfl
    · have hn : wrongQ b n lies.length puts[puts.findIdx (wrongQ b n lies.length)] = true := List.findIdx_getElem (w := h)
      generalize puts.findIdx (wrongQ b n lies.length) = i at h hn ⊢
      simp only [ilt_t (show (i : Int) < llen puts by unfold llen; omega), condO_true, hstep i h]
      rw [guardO_pos ⟨by omega, by unfold llen; omega⟩, wrong_ok hb]
      simp only [Option.bind_some, hn, condO_true]
  · have hall : ∀ q ∈ puts, wrongQ b n lies.length q = false := fun q hq => by
      cases hw : wrongQ b n lies.length q with
      | false => rfl
      | true => exact absurd (List.findIdx_lt_length_of_exists ⟨q, hq, hw⟩) h
    refine ⟨-1, ?_, .inl ⟨rfl, hall⟩⟩
    refine bind_of (a := .inr ()) ?_ rfl
    refine loopK_run (fun i : Nat => (i : Int)) puts.length _ 1000 ?_ ?_ (by omega)
    · intro i hi
      have hn : wrongQ b n lies.length puts[i] = false := hall _ (List.getElem_mem hi)
      simp only [ilt_t (show (i : Int) < llen puts by unfold llen; omega), condO_true, hstep i (by omega)]
      rw [guardO_pos ⟨by omega, by unfold llen; omega⟩, wrong_ok hb]
      simp only [Option.bind_some, hn, condO_false]
      rw [wk_i64 (by omega) (by omega)]; rfl
    · simp only [ilt_f (show llen puts ≤ (puts.length : Int) by unfold llen; omega), condO_false]
def slotA (b m p i : Nat) : Nat := b + 1 + (p + i) % m
def rowsL (b m p : Nat) (puts : List Put) : List Put := puts.mapIdx fun j q => (((slotA b m p (1 + j) : Nat) : Int), q.2)
def atsL (puts : List Put) : List Int := puts.map (·.1)
def blanks (b m p n : Nat) : List Put := [(((slotA b m p (n + 1) : Nat) : Int), noneS), (((slotA b m p (n + 2) : Nat) : Int), noneS)]
def commitD (b m p : Nat) (s : Int) (D : List ByteArray) (puts : List Put) : List ByteArray :=
  settle (settle (settle D (blanks b m p puts.length)) ((((slotA b m p 0 : Nat) : Int), lineB (firstT s (atsL puts))) :: rowsL b m p puts)) [(((slotA b m p (puts.length + 1) : Nat) : Int), lineB (lastT s puts.length))]
theorem commitD_len (b m p : Nat) (s : Int) (D : List ByteArray) (puts : List Put) : (commitD b m p s D puts).length = D.length := by
  unfold commitD; rw [settle_len, settle_len, settle_len]
theorem slotA_lt {b m p i : Nat} (hm : 0 < m) : slotA b m p i < b + (m + 1) := by
  unfold slotA
  have := Nat.mod_lt (p + i) hm
  omega
theorem slot_ok {b n p i : Nat} {j : Int} (hj : j = (i : Int)) (h4 : 4 ≤ n) (h6 : n ≤ 64) (hb : b ≤ 65536) (hp : p ≤ 100) (hi : i ≤ 200) :
    WK .i64 (WK .i64 ((b : Int) + 1) + Int.tmod (WK .i64 ((p : Int) + j)) (WK .i64 ((n : Int) - 1))) = ((slotA b (n - 1) p i : Nat) : Int) := by
  subst hj
  have hm := Nat.mod_lt (p + i) (show 0 < n - 1 by omega)
  rw [wk_i64 (x := (b : Int) + 1) (by omega) (by omega), wk_i64 (x := (p : Int) + i) (by omega) (by omega), wk_i64 (x := (n : Int) - 1) (by omega) (by omega)]
  have e : Int.tmod ((p : Int) + i) ((n : Int) - 1) = (((p + i) % (n - 1) : Nat) : Int) := by
    rw [Int.tmod_eq_emod_of_nonneg (by omega), show (p : Int) + i = ((p + i : Nat) : Int) by omega, show (n : Int) - 1 = ((n - 1 : Nat) : Int) by omega]
    exact (Int.natCast_emod _ _).symm
  rw [e, wk_i64 (by omega) (by omega)]
  unfold slotA; omega
theorem slotPut {b n p i L : Nat} {s : ByteArray} (h4 : 4 ≤ n) (hb : b + n ≤ L) (hs : s.size = 256) : PutOk L (((slotA b (n - 1) p i : Nat) : Int), s) :=
  ⟨by simp only; omega, by have := slotA_lt (b := b) (p := p) (i := i) (show 0 < n - 1 by omega); simp only; omega, hs⟩
theorem rowsL_ok {b n p L : Nat} {puts : List Put} (h4 : 4 ≤ n) (hb : b + n ≤ L) (hp : ∀ q ∈ puts, PutOk L q) : ∀ q ∈ rowsL b (n - 1) p puts, PutOk L q := by
  intro q hq
  unfold rowsL at hq
  obtain ⟨j, hj, rfl⟩ := List.mem_mapIdx.1 hq
  exact slotPut h4 hb (hp _ (List.getElem_mem hj)).sz
theorem rowsL_len (b m p : Nat) (puts : List Put) : (rowsL b m p puts).length = puts.length := by simp [rowsL]
theorem rowsL_take (b m p : Nat) (puts : List Put) (i : Nat) (hi : i < puts.length) : rowsL b m p (puts.take (i + 1)) = rowsL b m p (puts.take i) ++ [(((slotA b m p (1 + i) : Nat) : Int), puts[i].2)] := by
  unfold rowsL
  rw [List.take_succ_eq_append_getElem hi, List.mapIdx_concat, List.length_take, show min i puts.length = i by omega]
theorem atsL_take (puts : List Put) (i : Nat) (hi : i < puts.length) : atsL (puts.take (i + 1)) = atsL (puts.take i) ++ [puts[i].1] := by
  unfold atsL
  rw [List.take_succ_eq_append_getElem hi, List.map_append]; rfl
theorem commit_bad {b n : Nat} {p s u left steps : Int} {puts : List Put} {lies : List ByteArray} {cache : List Put} {on armed : Bool} (hb : b + n ≤ 100000) (hp : puts.length < 900) (hbad : puts = [] ∨ ∃ q ∈ puts, wrongQ b n lies.length q = true) :
    redo_Log_Commit 1000 ((b : Int), (n : Int), p, s, u, false, puts, vgl_check_table, on, armed, left, steps, lies, cache) = some (1, (b : Int), (n : Int), p, s, u, false, on, armed, left, steps, lies, cache) := by
  unfold redo_Log_Commit
  refine bind_of (a := 0) rfl ?_
  simp only [show ine 0 0 = false from rfl, condO_false]
  refine bind_of (a := .inl 1) ?_ rfl
  by_cases h0 : puts = []
  · subst h0; rfl
  · obtain ⟨r, hr, hc⟩ := index_ok (p := p) (s := s) (u := u) (left := left) (steps := steps) (br := false) (on := on) (armed := armed) (puts := puts) (lies := lies) (cache := cache) hb hp
    have hl : puts.length ≠ 0 := fun h => h0 (List.length_eq_zero_iff.1 h)
    rw [ieq_f (by unfold llen; omega), condO_false, hr]
    rcases hc with ⟨_, hall⟩ | ⟨h, _⟩
    · rcases hbad with h | ⟨q, hq, hw⟩
      · exact absurd h h0
      · rw [hall q hq] at hw; cases hw
    · simp only [Option.bind_some]
      rw [ige_t h, condO_true]
theorem room_ok {n : Nat} (h4 : 4 ≤ n) (h6 : n ≤ 64) : mnI 60 (WK .i64 (WK .i64 (WK .i64 ((n : Int) - 1) - 2) - 1)) = (n : Int) - 4 := by
  rw [wk_i64 (x := (n : Int) - 1) (by omega) (by omega), wk_i64 (x := (n : Int) - 1 - 2) (by omega) (by omega), wk_i64 (by omega) (by omega)]
  unfold mnI
  split <;> omega
theorem commit_size {b n : Nat} {p s u left steps : Int} {puts : List Put} {lies : List ByteArray} {cache : List Put} {on armed : Bool} (hb : b + n ≤ 100000) (h4 : 4 ≤ n) (h6 : n ≤ 64) (hp : puts.length < 900) (hall : ∀ q ∈ puts, wrongQ b n lies.length q = false) (hs : n - 4 < puts.length) :
    redo_Log_Commit 1000 ((b : Int), (n : Int), p, s, u, false, puts, vgl_check_table, on, armed, left, steps, lies, cache) = some (11, (b : Int), (n : Int), p, s, u, false, on, armed, left, steps, lies, cache) := by
  obtain ⟨r, hr, hc⟩ := index_ok (p := p) (s := s) (u := u) (left := left) (steps := steps) (br := false) (on := on) (armed := armed) (puts := puts) (lies := lies) (cache := cache) hb hp
  unfold redo_Log_Commit
  refine bind_of (a := 0) rfl ?_
  simp only [show ine 0 0 = false from rfl, condO_false]
  refine bind_of (a := .inl 11) ?_ rfl
  rw [ieq_f (by unfold llen; omega), condO_false, hr]
  rcases hc with ⟨rfl, _⟩ | ⟨h, q, hq, hw⟩
  · simp only [Option.bind_some, show ige (-1) 0 = false from rfl, condO_false]
    refine bind_of (a := 0) rfl ?_
    simp only [show ine 0 0 = false from rfl, condO_false, room_ok h4 h6]
    rw [igt_t (by unfold llen; omega), condO_true]
  · rw [hall q hq] at hw; cases hw
end Go.Proofs.YtlidgpepppjeiaaGreatDoor
/- A journal's lines are read: what is found at a place. No condition. -/
set_option linter.unusedVariables false
set_option linter.unusedSimpArgs false
namespace Go.Proofs.YtlidgpepppjeiaaGreatDoor
open Go
theorem sealed_small {t : List UInt8} (h : t.length ≤ 245) : lineB t = mkB (secL (sealL t)) ∧ secO (secL (sealL t)) = (mkB (sealL t), true) := by
  have hs := secB_small (l := sealL t) (by rw [sealL_len]; omega)
  exact ⟨by unfold lineB; rw [hs], open_fill (by rw [sealL_len]; omega) (by rw [hs])⟩
theorem text_line {a b c : UInt8} {r : List UInt8} (h : r.length ≤ 240) : redo_text 1000 (lineB ([a, b, c] ++ r), mkB [a, b, c], vgl_check_table) = some (.inr (mkB r, false)) := by
  have hl : ([a, b, c] ++ r).length ≤ 245 := by simp only [List.length_append, List.length_cons, List.length_nil]; omega
  obtain ⟨e1, e2⟩ := sealed_small hl
  unfold redo_text
  simp only
  rw [e1, sopen_ok, e2]
  simp only [Option.bind_some]
  rw [copen_ok 1000 (by decide) (by omega) (by omega)]
  simp only [Option.bind_some, Bool.not_true, condO_false]
  have hb : blen (mkB [a, b, c]) = 3 := rfl
  have hb2 : blen (mkB ([a, b, c] ++ r)) = (r.length : Int) + 3 := by rw [blen_mkB, List.length_append]; simp only [List.length_cons, List.length_nil]; omega
  have hd := scut_drop ([a, b, c] ++ r) 3
  rw [hb2] at hd
  rw [hb, hb2, ilt_f (by omega), condO_false, guardO_pos ⟨by omega, by omega, by omega⟩, scut_take]
  have ht : ([a, b, c] ++ r).take (3 : Int).toNat = [a, b, c] := rfl
  rw [ht, sEq_self]
  simp only [Bool.not_true, condO_false]
  rw [guardO_pos ⟨by omega, by omega, by omega⟩, hd]
  rfl
theorem num_line {most : Int} {x : Nat} {r : List UInt8} (h : (x : Int) ≤ most) (hm : most ≤ 9223372036854775807) : octet_Scan_Num 1000 (most, mkB (putL x ++ r), false) = some ((x : Int), mkB r, false) := by
  refine (num_some 1000 (by decide) hm ?_).1
  unfold numL
  rw [long_put (by omega)]
  simp only [Option.bind_some]
  rw [if_neg (by omega)]
def txOf (l : List ByteArray) (p : Nat) (ats : List Int) : List Put := ats.mapIdx fun j a => (a, l.getD ((p + 1 + j) % l.length) str0)
theorem txOf_take (l : List ByteArray) (p : Nat) (ats : List Int) (i : Nat) (hi : i < ats.length) : txOf l p (ats.take (i + 1)) = txOf l p (ats.take i) ++ [(ats[i], l.getD ((p + 1 + i) % l.length) str0)] := by
  unfold txOf
  rw [List.take_succ_eq_append_getElem hi, List.mapIdx_concat, List.length_take, show min i ats.length = i by omega]
theorem tmod_nat {z : Int} {x m : Nat} (h : z = (x : Int)) : Int.tmod z (m : Int) = ((x % m : Nat) : Int) := by
  subst h
  rw [Int.tmod_eq_emod_of_nonneg (by omega)]
  exact (Int.natCast_emod _ _).symm
theorem at_str (l : List ByteArray) (i : Nat) : at_ .str l (i : Int) = l.getD i str0 := rfl
theorem found_tx {p s : Nat} {l : List ByteArray} {ats : List Int} (hm : 3 ≤ l.length) (h62 : l.length ≤ 62) (hp : p < l.length) (hs : s ≤ 1099511627776) (hk1 : 1 ≤ ats.length) (hk : ats.length + 2 ≤ l.length) (ha : ∀ a ∈ ats, 0 ≤ a ∧ a ≤ 65535) (h1 : l.getD p str0 = lineB (firstT s ats)) :
    redo_slots_found 1000 ((p : Int), (s : Int), l, vgl_check_table) = some (if l.getD ((p + ats.length + 1) % l.length) str0 = lineB (lastT s ats.length) then txOf l p ats else []) := by
  have hks : kpn (s : Int) 1099511627776 = s := by unfold kpn; omega
  have hk60 : min ats.length 60 = ats.length := by omega
  have hft : firstT s ats = [83, 67, 68] ++ (putL s ++ (putL ats.length ++ restT ats)) := by
    unfold firstT
    rw [hks, hk60, List.take_length, List.append_assoc, List.append_assoc]
  have hrl := restT_le ats
  have hl1 := putL_le (x := s) (by omega)
  have hl2 := putL_le (x := ats.length) (by omega)
  have hpm : Int.tmod (p : Int) (llen l) = (p : Int) := by unfold llen; rw [tmod_nat rfl, Nat.mod_eq_of_lt hp]
  have hnz : nz (llen l) := by unfold nz llen; omega
  have hin : ∀ x : Nat, inR ((x % l.length : Nat) : Int) (llen l) := fun x => ⟨by omega, by have := Nat.mod_lt x (show 0 < l.length by omega); unfold llen; omega⟩
  have hinp : inR (p : Int) (llen l) := ⟨by omega, by unfold llen; omega⟩
  unfold redo_slots_found
  simp only [hpm, at_str, h1]
  rw [guardO_pos hnz, guardO_pos hinp, hft, kind3, text_line (by simp only [List.length_append]; omega)]
  simp only [Option.bind_some, caseS_inr]
  rw [num_line (by omega) (by decide)]
  simp only [Option.bind_some]
  rw [num_line (by omega) (by decide)]
  simp only [Option.bind_some, Bool.not_false, Bool.not_true, condO_false]
  rw [ine_f rfl, condO_false, ilt_f (by omega), condO_false, wk_i64 (x := (ats.length : Int) + 2) (by omega) (by omega), igt_f (by unfold llen; omega), condO_false]
  refine bind_of (a := (mkB [], false, txOf l p ats, ats)) ?_ ?_
  · have s0 : ((0 : Int), mkB (restT ats), false, ([] : List Put), ([] : List Int)) = (fun i : Nat => ((i : Int), mkB (restT (ats.drop i)), false, txOf l p (ats.take i), ats.take i)) 0 := rfl
    simp only [s0]
    refine loopK_run (fun i : Nat => ((i : Int), mkB (restT (ats.drop i)), false, txOf l p (ats.take i), ats.take i)) ats.length _ 1000 ?_ ?_ (by omega)
    · intro i hi
      have hai := ha ats[i] (List.getElem_mem hi)
      have hr : restT (ats.drop i) = putL (kpn ats[i] 65535) ++ restT (ats.drop (i + 1)) := by
        rw [List.drop_eq_getElem_cons hi]; rfl
      have hka : ((kpn ats[i] 65535 : Nat) : Int) = ats[i] := by unfold kpn; omega
      have hkl := kpn_le ats[i] 65535
      have l1 : (ats.take i).length ≤ 62 := by rw [List.length_take]; omega
      have l2 : (txOf l p (ats.take i)).length ≤ 62 := by simp only [txOf, List.length_mapIdx]; exact l1
      have wi : WK .i64 (WK .i64 ((p : Int) + 1) + (i : Int)) = ((p + 1 + i : Nat) : Int) := by
        rw [wk_i64 (x := (p : Int) + 1) (by omega) (by omega), wk_i64 (by omega) (by omega)]; omega
      simp only [hr]
      rw [ilt_t (by omega), condO_true, num_line (by omega) (by decide)]
      simp only [Option.bind_some, hka, wi]
      have ht : Int.tmod ((p + 1 + i : Nat) : Int) (llen l) = (((p + 1 + i) % l.length : Nat) : Int) := tmod_nat rfl
      rw [ht, guardO_pos (by unfold appOk; simp only [List.length_cons, List.length_nil]; omega), guardO_pos hnz, guardO_pos (hin _), at_str, guardO_pos (by unfold appOk; simp only [List.length_cons, List.length_nil]; omega), wk_i64 (x := (i : Int) + 1) (by omega) (by omega), txOf_take l p ats i hi]
      rw [List.take_succ_eq_append_getElem hi]
      rfl
    · simp only
      rw [ilt_f (by omega), condO_false, List.drop_length, List.take_length]
      rfl
  · have hsE : sEq (mkB []) str0 = true := rfl
    have wl : WK .i64 (WK .i64 ((p : Int) + (ats.length : Int)) + 1) = ((p + ats.length + 1 : Nat) : Int) := by
      rw [wk_i64 (x := (p : Int) + (ats.length : Int)) (by omega) (by omega), wk_i64 (by omega) (by omega)]; omega
    have ht : Int.tmod ((p + ats.length + 1 : Nat) : Int) (llen l) = (((p + ats.length + 1) % l.length : Nat) : Int) := tmod_nat rfl
    have kk1 := kput_le (s : Int) 1099511627776 (by decide)
    have kk2 := kput_le (ats.length : Int) 1099511627776 (by decide)
    simp only [hsE, Bool.not_false, Bool.not_true, condO_false, show ine 0 0 = false from rfl, wl, ht, at_str]
    refine bind_of (a := if l.getD ((p + ats.length + 1) % l.length) str0 = lineB (lastT s ats.length) then .inr () else .inl []) ?_ ?_
    · rw [guardO_pos hnz, guardO_pos hinp, first_ok (s : Int) ats (by omega)]
      simp only [Option.bind_some]
      rw [← hft, sEq_self]
      simp only [Bool.not_true, condO_false]
      rw [guardO_pos hnz, guardO_pos (hin _), cput40]
      simp only [Option.bind_some, kind3]
      rw [guardO_pos (catOk_small (by decide) (by omega)), cput40]
      simp only [Option.bind_some, mkB_app]
      rw [guardO_pos (catOk_small (by simp only [List.length_append, List.length_cons, List.length_nil]; omega) (by omega)), line_ok (t := [83, 67, 67] ++ putL (kpn (s : Int) 1099511627776) ++ putL (kpn (ats.length : Int) 1099511627776)) (Nat.le_trans (lastT_len s ats.length) (by decide))]
      show condO (!(sEq (l.getD ((p + ats.length + 1) % l.length) str0) (lineB (lastT s ats.length)))) _ _ = _
      by_cases h : l.getD ((p + ats.length + 1) % l.length) str0 = lineB (lastT s ats.length)
      · rw [if_pos h, h, sEq_self]; rfl
      · have : sEq (l.getD ((p + ats.length + 1) % l.length) str0) (lineB (lastT s ats.length)) = false := by
          rw [← Bool.not_eq_true]; intro e; exact h (sEq_iff.1 e)
        rw [if_neg h, this]; rfl
    · split <;> rfl
end Go.Proofs.YtlidgpepppjeiaaGreatDoor
/- A journal's region is scanned. No condition. -/
set_option linter.unusedVariables false
set_option linter.unusedSimpArgs false
namespace Go.Proofs.YtlidgpepppjeiaaGreatDoor
open Go
/-- A whole transaction at a place. -/
structure TxAt (l : List ByteArray) (p s : Nat) (tx : List Put) : Prop where
  len1 : 1 ≤ tx.length
  len : tx.length + 2 ≤ l.length
  rng : ∀ q ∈ tx, 0 ≤ q.1 ∧ q.1 ≤ 65535
  first : l.getD p str0 = lineB (firstT s (atsL tx))
  rows : ∀ j (h : j < tx.length), l.getD ((p + 1 + j) % l.length) str0 = (tx[j]).2
  last : l.getD ((p + tx.length + 1) % l.length) str0 = lineB (lastT s tx.length)
theorem found_at {l : List ByteArray} {p s : Nat} {tx : List Put} (h3 : 3 ≤ l.length) (h62 : l.length ≤ 62) (hp : p < l.length) (hs : s ≤ 1099511627776) (t : TxAt l p s tx) : redo_slots_found 1000 ((p : Int), (s : Int), l, vgl_check_table) = some tx := by
  have hl : (atsL tx).length = tx.length := by simp [atsL]
  have h := found_tx (ats := atsL tx) h3 h62 hp hs (by rw [hl]; exact t.len1) (by rw [hl]; exact t.len) (fun a ha => by
    obtain ⟨q, hq, rfl⟩ := List.mem_map.1 ha
    exact t.rng q hq) t.first
  rw [h, hl, if_pos t.last]
  congr 1
  apply List.ext_getElem
  · simp [txOf, atsL]
  · intro j h1 h2
    simp only [txOf, atsL, List.getElem_mapIdx, List.getElem_map]
    rw [t.rows j h2]
def Chain (l : List ByteArray) : Nat → Nat → List (List Put) → Prop
  | p, s, [] => redo_slots_found 1000 ((p : Int), (s : Int), l, vgl_check_table) = some []
  | p, s, tx :: r => TxAt l p s tx ∧ Chain l ((p + (tx.length + 2)) % l.length) (s + 1) r
def usedT : List (List Put) → Nat
  | [] => 0
  | tx :: r => tx.length + 2 + usedT r
def endP (m : Nat) : Nat → List (List Put) → Nat
  | p, [] => p
  | p, tx :: r => endP m ((p + (tx.length + 2)) % m) r
theorem endP_lt {m : Nat} (hm : 0 < m) : ∀ (txs : List (List Put)) (p : Nat), p < m → endP m p txs < m
  | [], _, h => h
  | tx :: r, p, _ => endP_lt hm r _ (Nat.mod_lt _ hm)
theorem scan_loop {l : List ByteArray} (h3 : 3 ≤ l.length) (h62 : l.length ≤ 62) {step : Int × Int × Int × List (List Put) → Option ((Int × Int × Int × List (List Put)) ⊕ (Int × Int × List (List Put)))}
    (hstep : ∀ p s u a, step (p, s, u, a) = (redo_slots_found 1000 (p, s, l, vgl_check_table)).bind fun r5 => condO (ieq (llen r5) 0) (some (.inr (p, s, a))) (condO (igt (WK .i64 (u + (WK .i64 ((llen r5) + 2)))) (llen l)) (some (.inr (p, s, a))) (guardO (appOk a ([r5] : List (List Put)) 24) (guardO (nz (llen l)) (some (.inl (Int.tmod (WK .i64 (WK .i64 (p + llen r5) + 2)) (llen l), WK .i64 (s + 1), WK .i64 (u + WK .i64 (llen r5 + 2)), a ++ ([r5] : List (List Put))))))))) :
    ∀ (txs : List (List Put)) (p s u k : Nat) (a : List (List Put)), p < l.length → s + txs.length ≤ 1099511627776 → Chain l p s txs → u + usedT txs ≤ l.length → a.length + txs.length ≤ 1000 → txs.length < k →
      loopK k step ((p : Int), (s : Int), (u : Int), a) = some (((endP l.length p txs : Nat) : Int), ((s + txs.length : Nat) : Int), a ++ txs)
  | [], p, s, u, k, a, hp, hs, hc, hu, ha, hk => by
    obtain ⟨k, rfl⟩ : ∃ j, k = j + 1 := ⟨k - 1, by omega⟩
    have hc : redo_slots_found 1000 ((p : Int), (s : Int), l, vgl_check_table) = some [] := hc
    simp only [loopK, hstep, hc, Option.bind_some, show ieq (llen ([] : List Put)) 0 = true from rfl, condO_true, caseS_inr, List.append_nil, endP, List.length_nil, Nat.add_zero]
  | tx :: r, p, s, u, k, a, hp, hs, hc, hu, ha, hk => by
    obtain ⟨k, rfl⟩ : ∃ j, k = j + 1 := ⟨k - 1, by omega⟩
    simp only [List.length_cons] at hs ha hk
    obtain ⟨t, hc⟩ := hc
    simp only [usedT] at hu
    have h1 := t.len1
    have h2 := t.len
    have hf := found_at h3 h62 hp (by omega) t
    have e0 : ieq (llen tx) 0 = false := ieq_f (by unfold llen; omega)
    have e1 : WK .i64 ((llen tx) + 2) = ((tx.length + 2 : Nat) : Int) := by unfold llen; rw [wk_i64 (by omega) (by omega)]; omega
    have e2 : WK .i64 ((u : Int) + ((tx.length + 2 : Nat) : Int)) = ((u + (tx.length + 2) : Nat) : Int) := by rw [wk_i64 (by omega) (by omega)]; omega
    have e3 : WK .i64 (WK .i64 ((p : Int) + llen tx) + 2) = ((p + (tx.length + 2) : Nat) : Int) := by
      unfold llen; rw [wk_i64 (x := (p : Int) + (tx.length : Int)) (by omega) (by omega), wk_i64 (by omega) (by omega)]; omega
    have e4 : WK .i64 ((s : Int) + 1) = ((s + 1 : Nat) : Int) := by rw [wk_i64 (by omega) (by omega)]; omega
    have e5 : igt ((u + (tx.length + 2) : Nat) : Int) (llen l) = false := igt_f (by unfold llen; omega)
    have e6 : Int.tmod ((p + (tx.length + 2) : Nat) : Int) (llen l) = (((p + (tx.length + 2)) % l.length : Nat) : Int) := tmod_nat rfl
    have g1 : appOk a ([tx] : List (List Put)) 24 := by unfold appOk; simp only [List.length_cons, List.length_nil]; omega
    have g2 : nz (llen l) := by unfold nz llen; omega
    have ih := scan_loop h3 h62 hstep r ((p + (tx.length + 2)) % l.length) (s + 1) (u + (tx.length + 2)) k (a ++ [tx]) (Nat.mod_lt _ (by omega)) (by omega) hc (by omega) (by rw [List.length_append]; simp only [List.length_cons, List.length_nil]; omega) (by omega)
    simp only [loopK, hstep, hf, Option.bind_some, e0, e1, e2, e3, e4, e5, e6, condO_false, guardO_pos g1, guardO_pos g2, caseS_inl]
    rw [ih]
    simp only [endP, List.length_cons, List.append_assoc, List.singleton_append, show s + 1 + r.length = s + (r.length + 1) by omega]
theorem scan_ok {R : List ByteArray} {p s : Nat} {txs : List (List Put)} (h4 : 4 ≤ R.length) (h63 : R.length ≤ 63) (hh : R.getD 0 str0 = hdB p s) (hp : p < R.length - 1) (hs1 : 1 ≤ s) (hs : s ≤ 549755813888) (hc : Chain (R.drop 1) p s txs) (hu : usedT txs ≤ R.length - 1) (ht : txs.length ≤ 900) :
    redo_Scan 1000 (R, vgl_check_table) = some (((endP (R.length - 1) p txs : Nat) : Int), ((s + txs.length : Nat) : Int), true, txs) := by
  have hd : (R.drop 1).length = R.length - 1 := List.length_drop ..
  have hdr : ldrop 1 R = R.drop 1 := rfl
  have hks : kpn (s : Int) 1099511627776 = s := by unfold kpn; omega
  have hkp : kpn (p : Int) 65535 = p := by unfold kpn; omega
  have hH : R.getD 0 str0 = lineB ([83, 67, 72] ++ (putL p ++ (putL s ++ []))) := by
    rw [hh]; unfold hdB headT; rw [hks, hkp, List.append_nil, List.append_assoc]
  have l1 := putL_le (x := s) (by omega)
  have l2 := putL_le (x := p) (by omega)
  have ha : at_ .str R 0 = R.getD 0 str0 := rfl
  unfold redo_Scan
  simp only [ha, hH, hdr]
  rw [ilt_f (by unfold llen; omega), condO_false, guardO_pos ⟨by decide, by unfold llen; omega, Int.le_refl _, rfl⟩, guardO_pos ⟨by decide, by unfold llen; omega⟩, kind3, text_line (by simp only [List.length_append, List.length_nil]; omega)]
  simp only [Option.bind_some, caseS_inr]
  rw [num_line (by omega) (by decide)]
  simp only [Option.bind_some]
  rw [num_line (by omega) (by decide)]
  have hsE : sEq (mkB []) str0 = true := rfl
  simp only [Option.bind_some, Bool.not_false, Bool.not_true, condO_false, hsE, show ine 0 0 = false from rfl]
  rw [ige_f (by unfold llen; omega), condO_false, ilt_f (by omega), condO_false]
  simp only [Option.bind_some, caseS_inr]
  rw [← hd]
  refine bind_of (scan_loop (l := R.drop 1) (by omega) (by omega) (fun p s u a => rfl) txs p s 0 1000 [] (by omega) (by omega) hc (by omega) (by simp only [List.length_nil]; omega) (by omega)) ?_
  rfl
end Go.Proofs.YtlidgpepppjeiaaGreatDoor
/- What of a sector is a line: the program's and the document's answers are one. No condition. -/
set_option linter.unusedVariables false
set_option linter.unusedSimpArgs false
namespace Go.Proofs.YtlidgpepppjeiaaGreatDoor
open Go
theorem xor_cancel {a b k : Nat} (h : a ^^^ k = b ^^^ k) : a = b := by
  have := congrArg (· ^^^ k) h
  simpa [Nat.xor_assoc] using this
theorem p1_inj {a b : Nat} (ha : a < 4294967296) (hb : b < 4294967296) (h : p1 a = p1 b) : a = b := by
  have mix : ∀ {x y : Nat}, x < 4294967296 → y < 4294967296 → x / 2 = (y / 2) ^^^ 3988292384 → False := fun {x y} hx hy e => by
    have h1 : (x / 2).testBit 31 = false := Nat.testBit_lt_two_pow (by omega)
    have h2 : (y / 2).testBit 31 = false := Nat.testBit_lt_two_pow (by omega)
    rw [e, Nat.testBit_xor, h2] at h1
    revert h1; decide
  unfold p1 at h
  by_cases h1 : a % 2 = 1
  · by_cases h2 : b % 2 = 1
    · rw [if_pos h1, if_pos h2] at h
      have := xor_cancel h
      omega
    · rw [if_pos h1, if_neg h2] at h
      exact (mix hb ha h.symm).elim
  · by_cases h2 : b % 2 = 1
    · rw [if_neg h1, if_pos h2] at h
      exact (mix ha hb h).elim
    · rw [if_neg h1, if_neg h2] at h
      omega
theorem q1_inj {a b : Nat} (ha : a < 4294967296) (hb : b < 4294967296) (h : q1 a = q1 b) : a = b := by
  rw [← p1_4, ← p1_4] at h
  exact p1_inj ha hb (p1_inj (p1_lt ha) (p1_lt hb) (p1_inj (p1_lt (p1_lt ha)) (p1_lt (p1_lt hb)) (p1_inj (p1_lt (p1_lt (p1_lt ha))) (p1_lt (p1_lt (p1_lt hb))) h)))
theorem byteP_inj {a b : Nat} (ha : a < 4294967296) (hb : b < 4294967296) (h : byteP a = byteP b) : a = b := q1_inj ha hb (q1_inj (q1_lt ha) (q1_lt hb) h)
theorem xor256 {t : Nat} (h : t < 256) (y : Nat) : t ^^^ (256 * y) = 256 * y + t := by
  have := split256 (256 * y + t)
  rw [show (256 * y + t) / 256 = y by omega, show (256 * y + t) % 256 = t by omega, Nat.xor_comm] at this
  exact this.symm
theorem byte_step (c t y : Nat) : byteP (c ^^^ (t ^^^ (256 * y))) = byteP (c ^^^ t) ^^^ y := by
  rw [← Nat.xor_assoc, byteP_xor, byteP_256]
theorem addN_4 (c : Nat) (t0 t1 t2 t3 : UInt8) : addN c [t0, t1, t2, t3] = byteP (byteP (byteP (byteP (c ^^^ (t0.toNat ^^^ 256 * (t1.toNat ^^^ 256 * (t2.toNat ^^^ 256 * t3.toNat))))))) := by
  rw [byte_step, byte_step, byte_step]
  rfl
theorem tail_inj {c : Nat} (hc : c < 4294967296) {t u : List UInt8} (ht : t.length = 4) (hu : u.length = 4) (h : addN c t = addN c u) : t = u := by
  rcases t with _ | ⟨t0, _ | ⟨t1, _ | ⟨t2, _ | ⟨t3, _ | ⟨t4, t⟩⟩⟩⟩⟩ <;> simp at ht
  rcases u with _ | ⟨u0, _ | ⟨u1, _ | ⟨u2, _ | ⟨u3, _ | ⟨u4, u⟩⟩⟩⟩⟩ <;> simp at hu
  rw [addN_4, addN_4] at h
  have lt : ∀ (b : UInt8), b.toNat < 256 := fun b => b.toNat_lt
  have a0 := lt t0; have a1 := lt t1; have a2 := lt t2; have a3 := lt t3
  have b0 := lt u0; have b1 := lt u1; have b2 := lt u2; have b3 := lt u3
  rw [xor256 a2, xor256 a1, xor256 a0, xor256 b2, xor256 b1, xor256 b0] at h
  have hw : ∀ {w : Nat}, w < 4294967296 → c ^^^ w < 4294967296 := fun h => Nat.xor_lt_two_pow (n := 32) hc h
  have h4 := byteP_inj (hw (by omega)) (hw (by omega)) (byteP_inj (byteP_lt (hw (by omega))) (byteP_lt (hw (by omega))) (byteP_inj (byteP_lt (byteP_lt (hw (by omega)))) (byteP_lt (byteP_lt (hw (by omega)))) (byteP_inj (byteP_lt (byteP_lt (byteP_lt (hw (by omega))))) (byteP_lt (byteP_lt (byteP_lt (hw (by omega))))) h)))
  rw [Nat.xor_comm c, Nat.xor_comm c] at h4
  have h5 := xor_cancel h4
  have e0 : t0 = u0 := UInt8.toNat_inj.1 (by omega)
  have e1 : t1 = u1 := UInt8.toNat_inj.1 (by omega)
  have e2 : t2 = u2 := UInt8.toNat_inj.1 (by omega)
  have e3 : t3 = u3 := UInt8.toNat_inj.1 (by omega)
  rw [e0, e1, e2, e3]
theorem whole_iff {l : List UInt8} (h4 : 4 ≤ l.length) : sumN 0 l = 558161692 ↔ sealL (l.take (l.length - 4)) = l := by
  constructor
  · intro h
    have hs := own_sum (l.take (l.length - 4))
    have hl := List.take_append_drop (l.length - 4) l
    generalize hm : l.take (l.length - 4) = m at hs hl ⊢
    have ht : (l.drop (l.length - 4)).length = 4 := by rw [List.length_drop]; omega
    generalize l.drop (l.length - 4) = t at hl ht
    have e : ∀ x : List UInt8, sumN 0 (m ++ x) = 4294967295 ^^^ addN (addN (4294967295 ^^^ 0) m) x := fun x => by unfold sumN addN; rw [List.foldl_append]
    have hs' : sumN 0 (m ++ tailL (sumN 0 m)) = 558161692 := hs
    have h' : sumN 0 (m ++ t) = 558161692 := by rw [hl]; exact h
    rw [e] at hs' h'
    have h6 := hs'.trans h'.symm
    rw [Nat.xor_comm, Nat.xor_comm 4294967295 (addN (addN (4294967295 ^^^ 0) m) t)] at h6
    have h7 := tail_inj (addN_lt _ (by decide) m) (by simp [tailL]) ht (xor_cancel h6)
    rw [← hl, ← h7]; rfl
  · intro h
    rw [← h]; exact own_sum _
/-- A text without its sum. -/
def opnL (l : List UInt8) : Option (List UInt8) := if l.length < 4 then none else if sealL (l.take (l.length - 4)) = l then some (l.take (l.length - 4)) else none
def opnB (l : List UInt8) : ByteArray × Bool := match opnL l with
  | none => (str0, false)
  | some m => (mkB m, true)
theorem copen_any (l : List UInt8) (hl : l.length ≤ 300) : check_Open 1000 (mkB l, vgl_check_table) = some (opnB l) := by
  unfold check_Open opnB opnL
  simp only
  rw [blen_mkB]
  by_cases h : l.length < 4
  · rw [ilt_t (by omega), condO_true, if_pos h]
  · rw [ilt_f (by omega), condO_false, if_neg h, cof_ok 1000 (by decide) (by omega) (by omega)]
    simp only [Option.bind_some]
    by_cases g : sealL (l.take (l.length - 4)) = l
    · rw [ieq_t (by rw [(whole_iff (by omega)).2 g]; rfl), if_pos g]
      simp only [Bool.not_true, condO_false]
      rw [wk_i64 (by omega) (by omega), guardO_pos ⟨by omega, by omega, by omega⟩, scut_take, show ((l.length : Int) - 4).toNat = l.length - 4 by omega]
    · rw [ieq_f (fun e => g ((whole_iff (by omega)).1 (by omega))), if_neg g]
      simp only [Bool.not_false, condO_true]
theorem rcopen_any (l : List UInt8) (hl : l.length ≤ 300) : ref04_Open 1000 (mkB l) = some (opnB l) := by
  unfold ref04_Open opnB opnL
  rw [blen_mkB]
  by_cases h : l.length < 4
  · rw [ilt_t (by omega), condO_true, if_pos h]
  · rw [ilt_f (by omega), condO_false, if_neg h, wk_i64 (by omega) (by omega), guardO_pos ⟨by omega, by omega, by omega⟩, scut_take, show ((l.length : Int) - 4).toNat = l.length - 4 by omega, rseal_ok 1000 (by decide) (by rw [List.length_take]; omega) (by rw [List.length_take]; omega)]
    simp only [Option.bind_some]
    by_cases g : sealL (l.take (l.length - 4)) = l
    · rw [g, sEq_self, if_pos rfl]
      simp only [Bool.not_true, condO_false]
      rw [guardO_pos ⟨by omega, by omega, by omega⟩]
    · have : sEq (mkB (sealL (l.take (l.length - 4)))) (mkB l) = false := by
        rw [← Bool.not_eq_true]; intro e; exact g (mkB_inj (sEq_iff.1 e))
      rw [this, if_neg g]
      simp only [Bool.not_false, condO_true]
/-- What a sector was made of. -/
def secT (m : List UInt8) : List UInt8 := (secO m).1.data.toList
theorem secT_eq (m : List UInt8) : (secO m).1 = mkB (secT m) := mkB_of _
theorem secT_len (m : List UInt8) : (secT m).length ≤ 256 := by
  unfold secT secO
  cases h : textL 256 m with
  | none => simp [str0]
  | some x =>
    obtain ⟨t, r⟩ := x
    have ht := (text_some 1000 (by decide) (by decide) h).2
    simp only
    split
    · simp [str0]
    · split
      · simp [str0]
      · simp; omega
/-- A line's text behind its kind. -/
def lineK (K m : List UInt8) : Option (List UInt8) := (opnL (secT m)).bind fun t => if t.length < 3 then none else if t.take 3 = K then some (t.drop 3) else none
theorem opnL_len {l m : List UInt8} (h : opnL l = some m) : m.length ≤ l.length := by
  unfold opnL at h
  split at h
  · cases h
  · split at h
    · obtain rfl := Option.some.inj h
      rw [List.length_take]; omega
    · cases h
theorem lineK_len {K m r : List UInt8} (h : lineK K m = some r) : r.length ≤ 256 := by
  unfold lineK at h
  cases hO : opnL (secT m) with
  | none => rw [hO] at h; cases h
  | some t =>
    have h1 := opnL_len hO
    have h2 := secT_len m
    rw [hO] at h
    simp only [Option.bind_some] at h
    split at h
    · cases h
    · split at h
      · obtain rfl := Option.some.inj h
        rw [List.length_drop]; omega
      · cases h
theorem text_any {K m : List UInt8} (hK : K.length = 3) : redo_text 1000 (mkB m, mkB K, vgl_check_table) = some (match lineK K m with | none => .inl () | some r => .inr (mkB r, false)) := by
  unfold redo_text lineK
  simp only
  have h256 := secT_len m
  rw [sopen_ok, Option.bind_some, secT_eq, copen_any _ (by omega), Option.bind_some]
  unfold opnB
  cases hO : opnL (secT m) with
  | none => rfl
  | some t =>
    have h1 := opnL_len hO
    simp only [Option.bind_some, Bool.not_true, condO_false, blen_mkB, hK]
    by_cases h : t.length < 3
    · rw [ilt_t (by omega), condO_true, if_pos h]
    · rw [ilt_f (by omega), condO_false, if_neg h, guardO_pos ⟨by omega, by omega, by omega⟩, scut_take]
      by_cases g : t.take 3 = K
      · have : sEq (mkB (t.take ((3 : Nat) : Int).toNat)) (mkB K) = true := by rw [Int.toNat_natCast, g]; exact sEq_self _
        rw [this, if_pos g]
        simp only [Bool.not_true, condO_false]
        have hd := scut_drop t ((3 : Nat) : Int)
        rw [blen_mkB] at hd
        rw [guardO_pos ⟨by omega, by omega, by omega⟩, hd]
        rfl
      · have : sEq (mkB (t.take ((3 : Nat) : Int).toNat)) (mkB K) = false := by
          rw [Int.toNat_natCast, ← Bool.not_eq_true]; intro e; exact g (mkB_inj (sEq_iff.1 e))
        rw [this, if_neg g]
        simp only [Bool.not_false, condO_true]
theorem rtext_any {K m : List UInt8} (hK : K.length = 3) (hm : m.length ≤ 300) : ref07_text 1000 (mkB m, mkB K) = some (match lineK K m with | none => (str0, 0, true) | some r => (mkB r, 0, false)) := by
  unfold ref07_text lineK
  simp only
  have h256 := secT_len m
  rw [ropen_ok _ hm, Option.bind_some, secT_eq, rcopen_any _ (by omega), Option.bind_some]
  unfold opnB
  cases hO : opnL (secT m) with
  | none => rfl
  | some t =>
    have h1 := opnL_len hO
    simp only [Option.bind_some, Bool.not_true, condO_false, blen_mkB]
    by_cases h : t.length < 3
    · rw [ilt_t (by omega), condO_true, if_pos h]
    · rw [ilt_f (by omega), condO_false, if_neg h, guardO_pos ⟨by omega, by omega, by omega⟩, scut_take]
      by_cases g : t.take 3 = K
      · have : sEq (mkB (t.take (3 : Int).toNat)) (mkB K) = true := by rw [show (3 : Int).toNat = 3 from rfl, g]; exact sEq_self _
        rw [this, if_pos g]
        simp only [Bool.not_true, condO_false]
        have hd := scut_drop t 3
        rw [blen_mkB] at hd
        rw [guardO_pos ⟨by omega, by omega, by omega⟩, hd]
        rfl
      · have : sEq (mkB (t.take (3 : Int).toNat)) (mkB K) = false := by
          rw [show (3 : Int).toNat = 3 from rfl, ← Bool.not_eq_true]; intro e; exact g (mkB_inj (sEq_iff.1 e))
        rw [this, if_neg g]
        simp only [Bool.not_false, condO_true]
theorem loop_ex {H E R : Type} {step : H → Option (H ⊕ E)} {f : E → Option R} (I : Nat → H → Prop) (Q : E → Prop) (P : R → Prop) (n : Nat) {h0 : H} {k : Nat} (hk : n < k) (h : I n h0) (hs : ∀ n h, I n h → Goes I Q n (step h)) (hf : ∀ e, Q e → ∃ r, f e = some r ∧ P r) : ∃ r, (loopK k step h0).bind f = some r ∧ P r := by
  obtain ⟨e, he, hq⟩ := loopK_inv (step := step) I Q (fun n h hi => by
    have g := hs n h hi
    generalize step h = o at g ⊢
    cases g with
    | on m lt i => exact .inl ⟨_, m, rfl, lt, i⟩
    | out q => exact .inr ⟨_, rfl, q⟩) n h0 h k hk
  obtain ⟨r, h1, h2⟩ := hf e hq
  exact ⟨r, by rw [he]; exact h1, h2⟩
theorem num_spoilt {most : Int} (h0 : 0 ≤ most) (hm : most ≤ 9223372036854775807) (s : ByteArray) : octet_Scan_Num 1000 (most, s, true) = some (0, s, true) := by
  unfold octet_Scan_Num
  simp only [long_spoilt, Option.bind_some]
  rw [ilt_f h0, condO_false, igt_f (by rw [wk_u64 (by omega) (by omega)]; omega), condO_false]
  rfl
theorem rnum_spoilt {most : Int} (h0 : 0 ≤ most) (hm : most ≤ 9223372036854775807) (s : ByteArray) (a : Int) : ref01_Scan_Num 1000 (most, s, a, true) = some (0, s, a, true) := by
  unfold ref01_Scan_Num ref01_Scan_Long
  simp only [condO_true, Option.bind_some]
  rw [ilt_f h0, condO_false, igt_f (by rw [wk_u64 (by omega) (by omega)]; omega), condO_false]
  simp only [Option.bind_some, condO_true]
theorem end_ok {p l : List UInt8} : ref01_Scan_End 1000 (mkB (p ++ l), (p.length : Int), false) = some (if l = [] then 0 else 10) := by
  unfold ref01_Scan_End
  simp only [condO_false, blen_mkB, List.length_append]
  by_cases h : l = []
  · subst h
    rw [ilt_f (by simp), condO_false, if_pos rfl]
  · have : l.length ≠ 0 := fun e => h (List.length_eq_zero_iff.1 e)
    rw [ilt_t (by omega), condO_true, if_neg h]
theorem end_bad (s : ByteArray) (a : Int) : ref01_Scan_End 1000 (s, a, true) = some 10 := rfl
end Go.Proofs.YtlidgpepppjeiaaGreatDoor
/- What is found at a place, of any sectors: nothing, or a whole transaction. No condition. -/
set_option linter.unusedVariables false
set_option linter.unusedSimpArgs false
namespace Go.Proofs.YtlidgpepppjeiaaGreatDoor
open Go
def Small (l : List ByteArray) : Prop := ∀ s ∈ l, s.size ≤ 300
theorem small_at {l : List ByteArray} (h : Small l) (i : Nat) : ∃ m : List UInt8, l.getD i str0 = mkB m ∧ m.length ≤ 300 := by
  by_cases hi : i < l.length
  · have e : l.getD i str0 = l[i] := by rw [List.getD_eq_getElem?_getD, List.getElem?_eq_getElem hi]; rfl
    refine ⟨l[i].data.toList, by rw [e], ?_⟩
    have := h l[i] (List.getElem_mem hi)
    rw [Array.length_toList]; exact this
  · refine ⟨[], ?_, by simp⟩
    rw [List.getD_eq_getElem?_getD, List.getElem?_eq_none (by omega)]; rfl
theorem numL_le {most : Int} {l r : List UInt8} {n : Nat} (hm : most ≤ 9223372036854775807) (h : numL most l = some (n, r)) : (n : Int) ≤ most ∧ r.length ≤ l.length := by
  have h1 := num_some 1000 (by decide) hm h
  obtain ⟨p, hp, _⟩ := longL_len h1.2.1
  refine ⟨h1.2.2, ?_⟩
  rw [← hp, List.length_append]; omega
theorem txOf_ats (l : List ByteArray) (p : Nat) (ats : List Int) : atsL (txOf l p ats) = ats := by
  unfold atsL txOf
  apply List.ext_getElem
  · simp
  · intro i h1 h2; simp
theorem txOf_len (l : List ByteArray) (p : Nat) (ats : List Int) : (txOf l p ats).length = ats.length := by simp [txOf]
theorem txOf_at {l : List ByteArray} {p s : Nat} {ats : List Int} (h1 : 1 ≤ ats.length) (h2 : ats.length + 2 ≤ l.length) (hr : ∀ a ∈ ats, 0 ≤ a ∧ a ≤ 65535) (hf : l.getD p str0 = lineB (firstT s ats)) (hl : l.getD ((p + ats.length + 1) % l.length) str0 = lineB (lastT s ats.length)) : TxAt l p s (txOf l p ats) := by
  refine ⟨by rw [txOf_len]; exact h1, by rw [txOf_len]; exact h2, fun q hq => ?_, by rw [txOf_ats]; exact hf, fun j hj => ?_, by rw [txOf_len]; exact hl⟩
  · have : q.1 ∈ atsL (txOf l p ats) := List.mem_map.2 ⟨q, hq, rfl⟩
    rw [txOf_ats] at this
    exact hr _ this
  · simp only [txOf, List.getElem_mapIdx]
theorem text7_none {a b c : UInt8} {m : List UInt8} (h : lineK [a, b, c] m = none) : redo_text 1000 (mkB m, mkB [a, b, c], vgl_check_table) = some (.inl ()) := by rw [text_any rfl, h]
theorem text_line3 {a b c : UInt8} {m r : List UInt8} (h : lineK [a, b, c] m = some r) : redo_text 1000 (mkB m, mkB [a, b, c], vgl_check_table) = some (.inr (mkB r, false)) := by rw [text_any rfl, h]
theorem rtext7_none {a b c : UInt8} {m : List UInt8} (hm : m.length ≤ 300) (h : lineK [a, b, c] m = none) : ref07_text 1000 (mkB m, mkB [a, b, c]) = some (str0, 0, true) := by rw [rtext_any rfl hm, h]
theorem rtext_line3 {a b c : UInt8} {m r : List UInt8} (hm : m.length ≤ 300) (h : lineK [a, b, c] m = some r) : ref07_text 1000 (mkB m, mkB [a, b, c]) = some (mkB r, 0, false) := by rw [rtext_any rfl hm, h]
theorem found_any {p s : Nat} {l : List ByteArray} (hS : Small l) (hm : 3 ≤ l.length) (h62 : l.length ≤ 62) (hp : p < l.length) (hs : s ≤ 1099511627776) :
    ∃ tx, redo_slots_found 1000 ((p : Int), (s : Int), l, vgl_check_table) = some tx ∧ (tx = [] ∨ TxAt l p s tx) := by
  have hpm : Int.tmod (p : Int) (llen l) = (p : Int) := by unfold llen; rw [tmod_nat rfl, Nat.mod_eq_of_lt hp]
  have hnz : nz (llen l) := by unfold nz llen; omega
  have hin : ∀ x : Nat, inR ((x % l.length : Nat) : Int) (llen l) := fun x => ⟨by omega, by have := Nat.mod_lt x (show 0 < l.length by omega); unfold llen; omega⟩
  have hinp : inR (p : Int) (llen l) := ⟨by omega, by unfold llen; omega⟩
  obtain ⟨m, em, hml⟩ := small_at hS p
  have none : ∀ {o : Option (List Put)}, o = some [] → ∃ tx, o = some tx ∧ (tx = [] ∨ TxAt l p s tx) := fun h => ⟨[], h, .inl rfl⟩
  unfold redo_slots_found
  simp only [hpm, at_str]
  rw [guardO_pos hnz, guardO_pos hinp, em, kind3]
  cases hk : lineK [83, 67, 68] m with
  | none =>
    rw [text7_none hk]
    simp only [Option.bind_some, caseS_inl]
    refine ⟨[], ?_, .inl rfl⟩
    rw [num_zero (by decide) (by decide)]
    simp only [Option.bind_some]
    rw [num_zero (by decide) (by decide)]
    rfl
  | some r =>
    have hrl := lineK_len hk
    rw [text_line3 hk]
    simp only [Option.bind_some, caseS_inr]
    cases h1 : numL 1099511627776 r with
    | none =>
      obtain ⟨t, ht⟩ := num_none 1000 (by decide) (by decide) h1
      rw [ht]
      simp only [Option.bind_some]
      rw [num_spoilt (by decide) (by decide)]
      simp only [Option.bind_some, Bool.not_true, Bool.not_false, condO_true]
      exact none rfl
    | some x =>
      obtain ⟨x, r1⟩ := x
      have q1 := numL_le (by decide) h1
      rw [(num_some 1000 (by decide) (by decide) h1).1]
      simp only [Option.bind_some]
      cases h2 : numL 60 r1 with
      | none =>
        obtain ⟨t, ht⟩ := num_none 1000 (by decide) (by decide) h2
        rw [ht]
        simp only [Option.bind_some, Bool.not_true, Bool.not_false, condO_true]
        exact none rfl
      | some y =>
        obtain ⟨k, r2⟩ := y
        have q2 := numL_le (by decide) h2
        rw [(num_some 1000 (by decide) (by decide) h2).1]
        simp only [Option.bind_some, Bool.not_true, Bool.not_false, condO_false]
        by_cases hx : (x : Int) = (s : Int)
        case neg => rw [ine_t hx, condO_true]; exact none rfl
        rw [ine_f hx, condO_false]
        by_cases hk1 : (k : Int) < 1
        · rw [ilt_t hk1, condO_true]; exact none rfl
        rw [ilt_f (by omega), condO_false, wk_i64 (x := (k : Int) + 2) (by omega) (by omega)]
        by_cases hkm : (l.length : Int) < (k : Int) + 2
        · rw [igt_t (by unfold llen; omega), condO_true]; exact none rfl
        rw [igt_f (by unfold llen; omega), condO_false]
        refine loop_ex (I := fun m (h : Int × ByteArray × Bool × List Put × List Int) => ∃ (i : Nat) (t : ByteArray) (bad : Bool) (ats : List Int), h = ((i : Int), t, bad, txOf l p ats, ats) ∧ m + i = k ∧ ats.length = i ∧ (bad = false → (∃ r', t = mkB r' ∧ r'.length ≤ 300) ∧ ∀ a ∈ ats, 0 ≤ a ∧ a ≤ 65535))
          (Q := fun e => ∃ (t : ByteArray) (bad : Bool) (ats : List Int), e = (t, bad, txOf l p ats, ats) ∧ ats.length = k ∧ (bad = false → (∃ r', t = mkB r' ∧ r'.length ≤ 300) ∧ ∀ a ∈ ats, 0 ≤ a ∧ a ≤ 65535)) (P := fun tx => tx = [] ∨ TxAt l p s tx) k (by omega) ?_ ?_ ?_
        · exact ⟨0, mkB r2, false, [], rfl, by omega, rfl, fun _ => ⟨⟨r2, rfl, by omega⟩, fun a ha => by cases ha⟩⟩
        · rintro m' h ⟨i, t, bad, ats, rfl, hmi, hla, hg⟩
          by_cases hi : i < k
          · have wi : WK .i64 (WK .i64 ((p : Int) + 1) + (i : Int)) = ((p + 1 + i : Nat) : Int) := by
              rw [wk_i64 (x := (p : Int) + 1) (by omega) (by omega), wk_i64 (by omega) (by omega)]; omega
            have ht : Int.tmod ((p + 1 + i : Nat) : Int) (llen l) = (((p + 1 + i) % l.length : Nat) : Int) := tmod_nat rfl
            have l2 := txOf_len l p ats
            obtain ⟨a, t', bad', e, hg'⟩ : ∃ (a : Int) (t' : ByteArray) (bad' : Bool), octet_Scan_Num 1000 (65535, t, bad) = some (a, t', bad') ∧ (bad' = false → (∃ r', t' = mkB r' ∧ r'.length ≤ 300) ∧ ∀ b ∈ ats ++ [a], 0 ≤ b ∧ b ≤ 65535) := by
              cases bad with
              | true => exact ⟨0, t, true, num_spoilt (by decide) (by decide) t, fun h => by cases h⟩
              | false =>
                obtain ⟨⟨r', rfl, hr'⟩, hat⟩ := hg rfl
                cases h3 : numL 65535 r' with
                | none =>
                  obtain ⟨t', ht'⟩ := num_none 1000 (by decide) (by decide) h3
                  exact ⟨0, t', true, ht', fun h => by cases h⟩
                | some z =>
                  obtain ⟨z, r3⟩ := z
                  have q3 := numL_le (by decide) h3
                  refine ⟨z, mkB r3, false, (num_some 1000 (by decide) (by decide) h3).1, fun _ => ⟨⟨r3, rfl, by omega⟩, fun b hb => ?_⟩⟩
                  rcases List.mem_append.1 hb with hb | hb
                  · exact hat b hb
                  · obtain rfl := List.mem_singleton.1 hb
                    omega
            have hx1 : txOf l p (ats ++ [a]) = txOf l p ats ++ [(a, l.getD ((p + 1 + i) % l.length) str0)] := by
              unfold txOf
              rw [List.mapIdx_concat, hla]
            simp only [ilt_t (show (i : Int) < (k : Int) by omega), condO_true, e, Option.bind_some, wi, ht, at_str]
            rw [guardO_pos (by unfold appOk; simp only [List.length_cons, List.length_nil]; omega), guardO_pos hnz, guardO_pos (hin _), guardO_pos (by unfold appOk; simp only [List.length_cons, List.length_nil]; omega), wk_i64 (x := (i : Int) + 1) (by omega) (by omega)]
            exact .on (m' - 1) (by omega) ⟨i + 1, t', bad', ats ++ [a], by rw [hx1]; rfl, by omega, by rw [List.length_append, hla]; rfl, hg'⟩
          · simp only [ilt_f (show (k : Int) ≤ (i : Int) by omega), condO_false]
            exact .out ⟨t, bad, ats, rfl, by omega, hg⟩
        · rintro _ ⟨t, bad, ats, rfl, hla, hg⟩
          cases bad with
          | true =>
            simp only [Bool.not_true, Bool.not_false, condO_true, show ine 10 0 = true from rfl, Option.bind_some, caseS_inl]
            exact none rfl
          | false =>
            obtain ⟨⟨r', rfl, hr'⟩, hat⟩ := hg rfl
            simp only [Bool.not_true, Bool.not_false, condO_false]
            by_cases hre : r' = []
            case neg =>
              have : sEq (mkB r') str0 = false := by
                rw [← Bool.not_eq_true]; intro e
                exact hre (mkB_inj (show mkB r' = mkB [] from sEq_iff.1 e))
              simp only [this, Bool.not_false, condO_true, show ine 10 0 = true from rfl, Option.bind_some, caseS_inl]
              exact none rfl
            subst hre
            have hsE : sEq (mkB []) str0 = true := rfl
            have wl : WK .i64 (WK .i64 ((p : Int) + (k : Int)) + 1) = ((p + k + 1 : Nat) : Int) := by
              rw [wk_i64 (x := (p : Int) + (k : Int)) (by omega) (by omega), wk_i64 (by omega) (by omega)]; omega
            have ht : Int.tmod ((p + k + 1 : Nat) : Int) (llen l) = (((p + k + 1) % l.length : Nat) : Int) := tmod_nat rfl
            have kk1 := kput_le (s : Int) 1099511627776 (by decide)
            have kk2 := kput_le (k : Int) 1099511627776 (by decide)
            simp only [hsE, Bool.not_true, condO_false, show ine 0 0 = false from rfl, wl, ht, at_str]
            rw [guardO_pos hnz, guardO_pos hinp, first_ok (s : Int) ats (by omega)]
            simp only [Option.bind_some]
            by_cases hf : mkB m = lineB (firstT (s : Int) ats)
            case neg =>
              have : sEq (mkB m) (lineB (firstT (s : Int) ats)) = false := by
                rw [← Bool.not_eq_true]; intro e; exact hf (sEq_iff.1 e)
              simp only [this, Bool.not_false, condO_true, Option.bind_some, caseS_inl]
              exact none rfl
            rw [hf, sEq_self]
            simp only [Bool.not_true, condO_false]
            rw [guardO_pos hnz, guardO_pos (hin _), cput40]
            simp only [Option.bind_some, kind3]
            rw [guardO_pos (catOk_small (by decide) (by omega)), cput40]
            simp only [Option.bind_some, mkB_app]
            rw [guardO_pos (catOk_small (by simp only [List.length_append, List.length_cons, List.length_nil]; omega) (by omega)), line_ok (t := [83, 67, 67] ++ putL (kpn (s : Int) 1099511627776) ++ putL (kpn (k : Int) 1099511627776)) (Nat.le_trans (lastT_len s k) (by decide))]
            by_cases hl : l.getD ((p + k + 1) % l.length) str0 = lineB (lastT (s : Int) k)
            · have e : sEq (l.getD ((p + k + 1) % l.length) str0) (secB (sealL ([83, 67, 67] ++ putL (kpn (s : Int) 1099511627776) ++ putL (kpn (k : Int) 1099511627776)))).1 = true := sEq_iff.2 hl
              rw [e]
              simp only [Bool.not_true, condO_false, Option.bind_some, caseS_inr]
              exact ⟨_, rfl, .inr (txOf_at (by omega) (by omega) hat (em.trans hf) (by rw [hla]; exact hl))⟩
            · have e : sEq (l.getD ((p + k + 1) % l.length) str0) (secB (sealL ([83, 67, 67] ++ putL (kpn (s : Int) 1099511627776) ++ putL (kpn (k : Int) 1099511627776)))).1 = false := by
                rw [← Bool.not_eq_true]; intro e; exact hl (sEq_iff.1 e)
              rw [e]
              simp only [Bool.not_false, condO_true, Option.bind_some, caseS_inl]
              exact none rfl
end Go.Proofs.YtlidgpepppjeiaaGreatDoor
/- A region is scanned by the program as by the document. No condition. -/
set_option linter.unusedVariables false
set_option linter.unusedSimpArgs false
namespace Go.Proofs.YtlidgpepppjeiaaGreatDoor
open Go
def rstep (x : List ByteArray) (h4 : Int × Int × Int × List (List Put)) : Option ((Int × Int × Int × List (List Put)) ⊕ (Int × Int × Bool × List (List Put))) := guardO ((inR (WK .i64 (1 + h4.1)) (llen x))) ((ref07_text 1000 ((at_ .str x (WK .i64 (1 + h4.1))), ⟨#[83, 67, 68]⟩)).bind fun r5 => (ref01_Scan_Num 1000 (1099511627776, r5.1, r5.2.1, r5.2.2)).bind fun r6 => (ref01_Scan_Num 1000 (60, r6.2.1, r6.2.2.1, r6.2.2.2)).bind fun r7 => condO r7.2.2.2 (some (.inr ((h4.1, h4.2.1, true, h4.2.2.2)))) (condO (ine r6.1 h4.2.1) (some (.inr ((h4.1, h4.2.1, true, h4.2.2.2)))) (condO (ilt r7.1 1) (some (.inr ((h4.1, h4.2.1, true, h4.2.2.2)))) (condO (igt (WK .i64 ((WK .i64 (h4.2.2.1 + r7.1)) + 2)) (WK .i64 ((llen x) - 1))) (some (.inr ((h4.1, h4.2.1, true, h4.2.2.2)))) ((loopK (H := Int × ByteArray × Int × Bool × (List (Int × ByteArray)) × (List Int)) (E := ByteArray × Int × Bool × (List (Int × ByteArray)) × (List Int)) 1000 (fun h8 => condO (ilt h8.1 r7.1) ((ref01_Scan_Num 1000 (65535, h8.2.1, h8.2.2.1, h8.2.2.2.1)).bind fun r9 => guardO ((appOk h8.2.2.2.2.2 ([r9.1] : List Int) 8)) (guardO ((nz (WK .i64 ((llen x) - 1)))) (guardO ((inR (WK .i64 (1 + (Int.tmod (WK .i64 ((WK .i64 (h4.1 + 1)) + h8.1)) (WK .i64 ((llen x) - 1))))) (llen x))) (guardO ((appOk h8.2.2.2.2.1 ([(r9.1, (at_ .str x (WK .i64 (1 + (Int.tmod (WK .i64 ((WK .i64 (h4.1 + 1)) + h8.1)) (WK .i64 ((llen x) - 1)))))))] : List (Int × ByteArray)) 24)) (some (.inl (((WK .i64 (h8.1 + 1)), r9.2.1, r9.2.2.1, r9.2.2.2, (h8.2.2.2.2.1 ++ ([(r9.1, (at_ .str x (WK .i64 (1 + (Int.tmod (WK .i64 ((WK .i64 (h4.1 + 1)) + h8.1)) (WK .i64 ((llen x) - 1)))))))] : List (Int × ByteArray))), (h8.2.2.2.2.2 ++ ([r9.1] : List Int)))))))))) (some (.inr ((h8.2.1, h8.2.2.1, h8.2.2.2.1, h8.2.2.2.2.1, h8.2.2.2.2.2))))) ((0, r7.2.1, r7.2.2.1, r7.2.2.2, ([] : List (Int × ByteArray)), ([] : List Int)))).bind fun r8 => (ref01_Scan_End 1000 (r8.1, r8.2.1, r8.2.2.1)).bind fun r9 => condO (ine r9 0) (some (.inr ((h4.1, h4.2.1, true, h4.2.2.2)))) (guardO ((inR (WK .i64 (1 + h4.1)) (llen x))) ((ref07_First 1000 (h4.2.1, r8.2.2.2.2)).bind fun r10 => condO (!(sEq r10 (at_ .str x (WK .i64 (1 + h4.1))))) (some (.inr ((h4.1, h4.2.1, true, h4.2.2.2)))) (guardO ((nz (WK .i64 ((llen x) - 1)))) (guardO ((inR (WK .i64 (1 + (Int.tmod (WK .i64 ((WK .i64 (h4.1 + r7.1)) + 1)) (WK .i64 ((llen x) - 1))))) (llen x))) ((ref07_keep 1000 (h4.2.1, 1099511627776)).bind fun r11 => (ref01_Put 1000 r11).bind fun r12 => guardO ((catOk ⟨#[83, 67, 67]⟩ r12)) ((ref07_keep 1000 (r7.1, 1099511627776)).bind fun r13 => (ref01_Put 1000 r13).bind fun r14 => guardO ((catOk (⟨#[83, 67, 67]⟩ ++ r12) r14)) ((ref04_Seal 1000 ((⟨#[83, 67, 67]⟩ ++ r12) ++ r14)).bind fun r15 => (ref05_Fill 1000 r15).bind fun r16 => condO (!(sEq r16.1 (at_ .str x (WK .i64 (1 + (Int.tmod (WK .i64 ((WK .i64 (h4.1 + r7.1)) + 1)) (WK .i64 ((llen x) - 1)))))))) (some (.inr ((h4.1, h4.2.1, true, h4.2.2.2)))) (guardO ((appOk h4.2.2.2 ([r8.2.2.2.1] : List (List (Int × ByteArray))) 24)) (guardO ((nz (WK .i64 ((llen x) - 1)))) (some (.inl (((Int.tmod (WK .i64 ((WK .i64 (h4.1 + r7.1)) + 2)) (WK .i64 ((llen x) - 1))), (WK .i64 (h4.2.1 + 1)), (WK .i64 ((WK .i64 (h4.2.2.1 + r7.1)) + 2)), (h4.2.2.2 ++ ([r8.2.2.2.1] : List (List (Int × ByteArray))))))))))))))))))))))
theorem drop_at (R : List ByteArray) (i : Nat) : R.getD (1 + i) str0 = (R.drop 1).getD i str0 := by simp [List.getD_eq_getElem?_getD, Nat.add_comm]
/-- What a line's numbers are. -/
theorem tx_line {l : List ByteArray} {p s : Nat} {tx : List Put} {m : List UInt8} (h62 : l.length ≤ 62) (hs : s ≤ 1099511627776) (t : TxAt l p s tx) (hm : l.getD p str0 = mkB m) : lineK [83, 67, 68] m = some (putL s ++ (putL tx.length ++ restT (atsL tx))) := by
  have hk := t.len
  have hla : (atsL tx).length = tx.length := by simp [atsL]
  have hks : kpn (s : Int) 1099511627776 = s := by unfold kpn; omega
  have hft : firstT s (atsL tx) = [83, 67, 68] ++ (putL s ++ (putL tx.length ++ restT (atsL tx))) := by
    unfold firstT
    rw [hks, hla, show min tx.length 60 = tx.length by omega, ← hla, List.take_length, List.append_assoc, List.append_assoc]
  have hrl := restT_le (atsL tx)
  have hl1 := putL_le (x := s) (by omega)
  have hl2 := putL_le (x := tx.length) (by omega)
  have h1 := text_line (a := 83) (b := 67) (c := 68) (r := putL s ++ (putL tx.length ++ restT (atsL tx))) (by simp only [List.length_append]; omega)
  rw [← hft, ← t.first, hm, text_any rfl] at h1
  cases hk : lineK [83, 67, 68] m with
  | none => rw [hk] at h1; cases h1
  | some r =>
    rw [hk] at h1
    have := Option.some.inj h1
    have h2 : mkB r = mkB (putL s ++ (putL tx.length ++ restT (atsL tx))) := congrArg (fun z => z.1) (Sum.inr.inj this)
    rw [mkB_inj h2]
theorem rnum_line {most : Int} {x : Nat} {p r : List UInt8} (hl : (p ++ (putL x ++ r)).length ≤ 900) (h : (x : Int) ≤ most) (hm : most ≤ 9223372036854775807) : ∃ q, q ++ r = p ++ (putL x ++ r) ∧ ref01_Scan_Num 1000 (most, mkB (p ++ (putL x ++ r)), (p.length : Int), false) = some ((x : Int), mkB (p ++ (putL x ++ r)), (q.length : Int), false) := by
  refine rnum_some 1000 (by decide) (by omega) hm ?_
  unfold numL
  rw [long_put (by omega)]
  simp only [Option.bind_some]
  rw [if_neg (by omega)]
section
variable {R : List ByteArray} {p s u m : Nat} {a : List (List Put)}
structure ROk (R : List ByteArray) (p s u m : Nat) (a : List (List Put)) : Prop where
  sm : Small R
  len : R.length = m + 1
  m3 : 3 ≤ m
  m62 : m ≤ 62
  hp : p < m
  hs : s ≤ 1000000000000
  hu : u ≤ m
  ha : a.length ≤ 100
theorem ROk.dl (o : ROk R p s u m a) : (R.drop 1).length = m := by rw [List.length_drop, o.len]; omega
theorem rstep_tx {tx : List Put} (o : ROk R p s u m a) (t : TxAt (R.drop 1) p s tx) (hf : u + (tx.length + 2) ≤ m) :
    rstep R ((p : Int), (s : Int), (u : Int), a) = some (.inl ((((p + (tx.length + 2)) % m : Nat) : Int), ((s + 1 : Nat) : Int), ((u + (tx.length + 2) : Nat) : Int), a ++ [tx])) := by
  have hlen := o.len
  have h3 := o.m3
  have h62 := o.m62
  have hp := o.hp
  have hs := o.hs
  have hal := o.ha
  have hdl := o.dl
  have hk1 := t.len1
  obtain ⟨c, em, hcl⟩ := small_at o.sm (1 + p)
  have em2 := em
  rw [drop_at] at em2
  have hln := tx_line (by omega) (by omega) t em2
  have hla : (atsL tx).length = tx.length := by simp [atsL]
  have hrl := restT_le (atsL tx)
  have hl1 := putL_le (x := s) (by omega)
  have hl2 := putL_le (x := tx.length) (by omega)
  have w1 : WK .i64 (1 + (p : Int)) = ((1 + p : Nat) : Int) := by rw [wk_i64 (by omega) (by omega)]; omega
  have wm : WK .i64 (llen R - 1) = (m : Int) := by unfold llen; rw [wk_i64 (by omega) (by omega)]; omega
  have hnz : nz (m : Int) := by unfold nz; omega
  have hin : ∀ x : Nat, inR ((1 + x % m : Nat) : Int) (llen R) := fun x => ⟨by omega, by have := Nat.mod_lt x (show 0 < m by omega); unfold llen; omega⟩
  have hinp : inR ((1 + p : Nat) : Int) (llen R) := ⟨by omega, by unfold llen; omega⟩
  unfold rstep
  simp only [w1, wm, at_str]
  rw [guardO_pos hinp, em, kind3, rtext_line3 hcl hln]
  simp only [Option.bind_some]
  obtain ⟨q1, e1, n1⟩ := rnum_line (most := 1099511627776) (p := []) (x := s) (r := putL tx.length ++ restT (atsL tx)) (by simp only [List.length_append, List.nil_append]; omega) (by omega) (by decide)
  rw [List.nil_append] at e1 n1
  have n1 : ref01_Scan_Num 1000 (1099511627776, mkB (putL s ++ (putL tx.length ++ restT (atsL tx))), 0, false) = _ := n1
  rw [n1]
  simp only [Option.bind_some]
  obtain ⟨q2, e2, n2⟩ := rnum_line (most := 60) (p := q1) (x := tx.length) (r := restT (atsL tx)) (by rw [e1]; simp only [List.length_append]; omega) (by omega) (by decide)
  rw [e1] at e2 n2
  rw [n2]
  simp only [Option.bind_some, condO_false]
  rw [ine_f rfl, condO_false, ilt_f (by omega), condO_false, wk_i64 (x := (u : Int) + (tx.length : Int)) (by omega) (by omega), wk_i64 (x := (u : Int) + (tx.length : Int) + 2) (by omega) (by omega), igt_f (by omega), condO_false]
  generalize hS : putL s ++ (putL tx.length ++ restT (atsL tx)) = S at e2 hln
  have hSl : S.length ≤ 250 := by rw [← hS]; simp only [List.length_append]; omega
  have hrow : ∀ i < tx.length, (R.drop 1).getD ((p + 1 + i) % m) str0 = (tx.getD i (0, str0)).2 := fun i hi => by
    have := t.rows i hi
    rw [hdl] at this
    rw [this, List.getD_eq_getElem?_getD, List.getElem?_eq_getElem hi]; rfl
  have htk : ∀ i (hi : i < tx.length), tx.take (i + 1) = tx.take i ++ [((atsL tx).getD i 0, (R.drop 1).getD ((p + 1 + i) % m) str0)] := fun i hi => by
    rw [List.take_succ_eq_append_getElem hi, hrow i hi]
    congr 2
    simp [atsL, List.getD_eq_getElem?_getD, hi]
  refine bind_of (a := (mkB S, (S.length : Int), false, tx, atsL tx)) ?_ ?_
  · have inv := loopK_inv (H := Int × ByteArray × Int × Bool × List Put × List Int) (E := ByteArray × Int × Bool × List Put × List Int)
      (fun m' (h : Int × ByteArray × Int × Bool × List Put × List Int) => ∃ (i : Nat) (q : List UInt8), h = ((i : Int), mkB S, (q.length : Int), false, tx.take i, (atsL tx).take i) ∧ m' + i = tx.length ∧ q ++ restT ((atsL tx).drop i) = S)
      (fun e => e = (mkB S, (S.length : Int), false, tx, atsL tx))
      (step := fun h8 => condO (ilt h8.1 (tx.length : Int)) ((ref01_Scan_Num 1000 (65535, h8.2.1, h8.2.2.1, h8.2.2.2.1)).bind fun r9 => guardO ((appOk h8.2.2.2.2.2 ([r9.1] : List Int) 8)) (guardO ((nz (m : Int))) (guardO ((inR (WK .i64 (1 + (Int.tmod (WK .i64 ((WK .i64 ((p : Int) + 1)) + h8.1)) (m : Int)))) (llen R))) (guardO ((appOk h8.2.2.2.2.1 ([(r9.1, (at_ .str R (WK .i64 (1 + (Int.tmod (WK .i64 ((WK .i64 ((p : Int) + 1)) + h8.1)) (m : Int))))))] : List (Int × ByteArray)) 24)) (some (.inl (((WK .i64 (h8.1 + 1)), r9.2.1, r9.2.2.1, r9.2.2.2, (h8.2.2.2.2.1 ++ ([(r9.1, (at_ .str R (WK .i64 (1 + (Int.tmod (WK .i64 ((WK .i64 ((p : Int) + 1)) + h8.1)) (m : Int))))))] : List (Int × ByteArray))), (h8.2.2.2.2.2 ++ ([r9.1] : List Int)))))))))) (some (.inr ((h8.2.1, h8.2.2.1, h8.2.2.2.1, h8.2.2.2.2.1, h8.2.2.2.2.2))))) ?_ tx.length ((0 : Int), mkB S, (q2.length : Int), false, [], []) ⟨0, q2, rfl, by omega, e2⟩ 1000 (by omega)
    · obtain ⟨e, he, rfl⟩ := inv
      exact he
    · rintro m' h ⟨i, q, rfl, hmi, hq⟩
      by_cases hi : i < tx.length
      · left
        have hai : (atsL tx)[i]'(by omega) = (atsL tx).getD i 0 := by rw [List.getD_eq_getElem?_getD, List.getElem?_eq_getElem (by omega)]; rfl
        have hrng : 0 ≤ (atsL tx).getD i 0 ∧ (atsL tx).getD i 0 ≤ 65535 := by
          rw [← hai]
          obtain ⟨z, hz, he⟩ := List.mem_map.1 (List.getElem_mem (show i < (atsL tx).length by omega))
          rw [← he]; exact t.rng z hz
        have hr : restT ((atsL tx).drop i) = putL (kpn ((atsL tx).getD i 0) 65535) ++ restT ((atsL tx).drop (i + 1)) := by
          rw [List.drop_eq_getElem_cons (by omega), hai]; rfl
        have hka : ((kpn ((atsL tx).getD i 0) 65535 : Nat) : Int) = (atsL tx).getD i 0 := by unfold kpn; omega
        have hkl := kpn_le ((atsL tx).getD i 0) 65535
        rw [hr] at hq
        obtain ⟨q', e', n'⟩ := rnum_line (most := 65535) (p := q) (x := kpn ((atsL tx).getD i 0) 65535) (r := restT ((atsL tx).drop (i + 1))) (by rw [hq]; omega) (by omega) (by decide)
        rw [hq] at e' n'
        have l1 : ((atsL tx).take i).length ≤ 62 := by rw [List.length_take]; omega
        have l2 : (tx.take i).length ≤ 62 := by rw [List.length_take]; omega
        have wi : WK .i64 (WK .i64 ((p : Int) + 1) + (i : Int)) = ((p + 1 + i : Nat) : Int) := by
          rw [wk_i64 (x := (p : Int) + 1) (by omega) (by omega), wk_i64 (by omega) (by omega)]; omega
        have ht : Int.tmod ((p + 1 + i : Nat) : Int) (m : Int) = (((p + 1 + i) % m : Nat) : Int) := tmod_nat rfl
        have hlt := Nat.mod_lt (p + 1 + i) (show 0 < m by omega)
        have wt : WK .i64 (1 + (((p + 1 + i) % m : Nat) : Int)) = ((1 + (p + 1 + i) % m : Nat) : Int) := by rw [wk_i64 (by omega) (by omega)]; omega
        refine ⟨_, m' - 1, ?_, by omega, i + 1, q', rfl, by omega, e'⟩
        simp only
        rw [ilt_t (by omega), condO_true, n']
        simp only [Option.bind_some, wi, ht, wt, at_str, hka]
        rw [guardO_pos (by unfold appOk; simp only [List.length_cons, List.length_nil]; omega), guardO_pos hnz, guardO_pos (hin _), guardO_pos (by unfold appOk; simp only [List.length_cons, List.length_nil]; omega), wk_i64 (x := (i : Int) + 1) (by omega) (by omega), htk i hi, drop_at]
        rw [List.take_succ_eq_append_getElem (show i < (atsL tx).length by omega), hai]
        rfl
      · right
        obtain rfl : i = tx.length := by omega
        have hd : (atsL tx).drop tx.length = [] := by rw [← hla, List.drop_length]
        rw [hd] at hq
        have hq' : q = S := by rw [← hq]; simp [restT]
        subst hq'
        refine ⟨_, ?_, rfl⟩
        simp only
        rw [ilt_f (by omega), condO_false, List.take_length, ← hla, List.take_length]
  · have he := end_ok (p := S) (l := [])
    rw [List.append_nil, if_pos rfl] at he
    have kk1 := kput_le (s : Int) 1099511627776 (by decide)
    have kk2 := kput_le (tx.length : Int) 1099511627776 (by decide)
    have hlast := t.last
    rw [hdl] at hlast
    have hfirst := t.first
    have wl : WK .i64 (WK .i64 ((p : Int) + (tx.length : Int)) + 1) = ((p + tx.length + 1 : Nat) : Int) := by
      rw [wk_i64 (x := (p : Int) + (tx.length : Int)) (by omega) (by omega), wk_i64 (by omega) (by omega)]; omega
    have wl2 : WK .i64 (WK .i64 ((p : Int) + (tx.length : Int)) + 2) = ((p + (tx.length + 2) : Nat) : Int) := by
      rw [wk_i64 (x := (p : Int) + (tx.length : Int)) (by omega) (by omega), wk_i64 (by omega) (by omega)]; omega
    have ht : Int.tmod ((p + tx.length + 1 : Nat) : Int) (m : Int) = (((p + tx.length + 1) % m : Nat) : Int) := tmod_nat rfl
    have ht2 : Int.tmod ((p + (tx.length + 2) : Nat) : Int) (m : Int) = (((p + (tx.length + 2)) % m : Nat) : Int) := tmod_nat rfl
    have hlt := Nat.mod_lt (p + tx.length + 1) (show 0 < m by omega)
    have wt : WK .i64 (1 + (((p + tx.length + 1) % m : Nat) : Int)) = ((1 + (p + tx.length + 1) % m : Nat) : Int) := by rw [wk_i64 (by omega) (by omega)]; omega
    have ws : WK .i64 ((s : Int) + 1) = ((s + 1 : Nat) : Int) := by rw [wk_i64 (by omega) (by omega)]; omega
    simp only [he, Option.bind_some, show ine 0 0 = false from rfl, condO_false, wl, wl2, ht, ht2, wt, ws, at_str]
    rw [guardO_pos hinp, rfirst_ok (s : Int) (atsL tx) (by omega)]
    simp only [Option.bind_some]
    rw [← em, drop_at, hfirst, sEq_self]
    simp only [Bool.not_true, condO_false]
    rw [guardO_pos hnz, guardO_pos (hin _), keep40]
    simp only [Option.bind_some]
    rw [rkput (s : Int) _ (by decide)]
    simp only [Option.bind_some]
    rw [kind3, guardO_pos (catOk_small (by decide) (by omega)), keep40]
    simp only [Option.bind_some]
    rw [rkput (tx.length : Int) _ (by decide)]
    simp only [Option.bind_some, mkB_app]
    rw [guardO_pos (catOk_small (by simp only [List.length_append, List.length_cons, List.length_nil]; omega) (by omega)), rline_ok (t := [83, 67, 67] ++ putL (kpn (s : Int) 1099511627776) ++ putL (kpn (tx.length : Int) 1099511627776)) (Nat.le_trans (lastT_len s tx.length) (by decide)), drop_at, hlast]
    have e : sEq (secB (sealL ([83, 67, 67] ++ putL (kpn (s : Int) 1099511627776) ++ putL (kpn (tx.length : Int) 1099511627776)))).1 (lineB (lastT (s : Int) tx.length)) = true := sEq_self _
    rw [e]
    simp only [Bool.not_true, condO_false]
    rw [guardO_pos (by unfold appOk; simp only [List.length_cons, List.length_nil]; omega), guardO_pos hnz]
    rw [show (u : Int) + (tx.length : Int) + 2 = ((u + (tx.length + 2) : Nat) : Int) by omega]
end
end Go.Proofs.YtlidgpepppjeiaaGreatDoor
