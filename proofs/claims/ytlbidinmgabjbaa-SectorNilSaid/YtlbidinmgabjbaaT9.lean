/- Texts of the proof, put together: part 9. No condition. -/
import Derived.Test.YtlbidinmgabjbaaT8
/- The disk: what its calls compute. No condition. -/
set_option linter.unusedVariables false
set_option linter.unusedSimpArgs false
namespace Go.Proofs.Ytlbidinmgabjbaa
open Go
abbrev Put := Int × ByteArray
/-- May a step be done? -/
abbrev mayD (on armed : Bool) (left : Int) : Bool := on && !(armed && left == 0)
abbrev leftD (armed : Bool) (left : Int) : Int := if armed = true then WK .i64 (left - 1) else left
theorem step_spec (k : Nat) (on armed : Bool) (left steps : Int) (lies : List ByteArray) (cache : List Put) :
    sector_Disk_step k (on, armed, left, steps, lies, cache) = some (if mayD on armed left = true then (0, true, armed, leftD armed left, WK .i64 (steps + 1), lies, cache) else (14, false, armed, left, steps, lies, cache)) := by
  cases on <;> cases armed <;> by_cases h : left = 0 <;> simp [sector_Disk_step, mayD, leftD, h, ieq_f, ieq_t]
theorem write_ok (k : Nat) {a : Int} {s : ByteArray} {on armed : Bool} {left steps : Int} {lies : List ByteArray} {cache : List Put} (h0 : 0 ≤ a) (h1 : a < lies.length) (h2 : s.size = 256) (hc : cache.length < 1000000) :
    sector_Disk_Write k (a, s, on, armed, left, steps, lies, cache) = some (if mayD on armed left = true then (0, true, armed, leftD armed left, WK .i64 (steps + 1), lies, cache ++ [(a, s)]) else (14, false, armed, left, steps, lies, cache)) := by
  have e1 : ilt a 0 = false := ilt_f h0
  have e2 : ige a (llen lies) = false := ige_f h1
  have e3 : ine (blen s) 256 = false := ine_f (by rw [blen, h2]; rfl)
  unfold sector_Disk_Write
  simp only [e1, e2, e3, condO_false, step_spec, Option.bind_some]
  have hap : appOk cache ([(a, s)] : List Put) 24 := by
    unfold appOk; simp; omega
  by_cases hm : mayD on armed left = true
  · simp only [hm, if_true]
    rw [guardO_pos hap]
    simp
  · simp only [hm, Bool.false_eq_true, if_false]
    rfl
/-- What is known of a sector. -/
def rd (lies : List ByteArray) (cache : List Put) (a : Int) : ByteArray :=
  match cache.reverse.find? (fun p => p.1 == a) with
  | some p => p.2
  | none => lies.getD a.toNat str0
theorem find_iter (a : Int) : ∀ (l : List Put), iterL l (fun (_ : Unit) p => condO (ine p.1 a) (some (.inl ())) (some (.inr (p.2, (0 : Int))))) () = some (match l.find? (fun p => p.1 == a) with | some p => Sum.inr (p.2, 0) | none => .inl ())
  | [] => rfl
  | p :: l => by
    simp only [iterL, List.find?_cons]
    by_cases h : p.1 = a
    · simp [h]
    · have : (p.1 == a) = false := by simpa using h
      have h2 : ine p.1 a = true := by simpa using h
      simp only [this, h2, condO_true, Option.bind_some, caseS_inl]
      exact find_iter a l
theorem read_ok (k : Nat) {a : Int} {armed : Bool} {left steps : Int} {lies : List ByteArray} {cache : List Put} (h0 : 0 ≤ a) (h1 : a < lies.length) :
    sector_Disk_Read k (a, true, armed, left, steps, lies, cache) = some (rd lies cache a, 0) := by
  have e1 : ilt a 0 = false := ilt_f h0
  have e2 : ige a (llen lies) = false := ige_f h1
  unfold sector_Disk_Read
  simp only [e1, e2, condO_false, Bool.not_true]
  have := iterL_back cache (fun (_ : Unit) (p : Put) => condO (ine p.1 a) (some (Sum.inl ())) (some (.inr (p.2, (0 : Int))))) ()
  rw [this, find_iter]
  unfold rd
  cases hf : cache.reverse.find? (fun p => p.1 == a) with
  | none =>
    simp only [Option.bind_some, caseS_inl]
    rw [guardO_pos ⟨h0, h1⟩]
    rfl
  | some p => simp
theorem read_off (k : Nat) {a : Int} {armed : Bool} {left steps : Int} {lies : List ByteArray} {cache : List Put} (h0 : 0 ≤ a) (h1 : a < lies.length) :
    sector_Disk_Read k (a, false, armed, left, steps, lies, cache) = some (str0, 14) := by
  have e1 : ilt a 0 = false := ilt_f h0
  have e2 : ige a (llen lies) = false := ige_f h1
  unfold sector_Disk_Read
  simp only [e1, e2, condO_false, Bool.not_false, condO_true]
theorem read_arg (k : Nat) {a : Int} {on armed : Bool} {left steps : Int} {lies : List ByteArray} {cache : List Put} (h : a < 0 ∨ lies.length ≤ a) :
    sector_Disk_Read k (a, on, armed, left, steps, lies, cache) = some (str0, 1) := by
  unfold sector_Disk_Read
  by_cases h0 : a < 0
  · have e1 : ilt a 0 = true := by simpa using h0
    simp only [e1, condO_true]
  · have e1 : ilt a 0 = false := by simpa using h0
    have e2 : ige a (llen lies) = true := ige_t (by unfold llen; omega)
    simp only [e1, e2, condO_false, condO_true]
theorem peek_ok (k : Nat) {a : Int} {on armed : Bool} {left steps : Int} {lies : List ByteArray} {cache : List Put} (h0 : 0 ≤ a) (h1 : a < lies.length) :
    sector_Disk_Peek k (a, on, armed, left, steps, lies, cache) = some (lies.getD a.toNat str0) := by
  have e1 : ilt a 0 = false := ilt_f h0
  have e2 : ige a (llen lies) = false := ige_f h1
  unfold sector_Disk_Peek
  simp only [e1, e2, condO_false]
  rw [guardO_pos ⟨h0, h1⟩]
  rfl
theorem peek_arg (k : Nat) {a : Int} {on armed : Bool} {left steps : Int} {lies : List ByteArray} {cache : List Put} (h : a < 0 ∨ lies.length ≤ a) :
    sector_Disk_Peek k (a, on, armed, left, steps, lies, cache) = some str0 := by
  unfold sector_Disk_Peek
  by_cases h0 : a < 0
  · have e1 : ilt a 0 = true := by simpa using h0
    simp only [e1, condO_true]
  · have e1 : ilt a 0 = false := by simpa using h0
    have e2 : ige a (llen lies) = true := ige_t (by unfold llen; omega)
    simp only [e1, e2, condO_false, condO_true]
/-! ### what is settled -/
def setD (l : List ByteArray) (p : Put) : List ByteArray := l.set p.1.toNat p.2
def settle (lies : List ByteArray) (cache : List Put) : List ByteArray := cache.foldl setD lies
def pickD (picks : List Int) (l : List ByteArray) (q : Put × Nat) : List ByteArray := if q.2 < picks.length ∧ (picks.getD q.2 0).tmod 2 ≠ 0 then setD l q.1 else l
def settleP (picks : List Int) (lies : List ByteArray) (cache : List Put) : List ByteArray := cache.zipIdx.foldl (pickD picks) lies
theorem setD_len (l : List ByteArray) (p : Put) : (setD l p).length = l.length := by simp [setD]
theorem settle_len : ∀ (cache : List Put) (lies : List ByteArray), (settle lies cache).length = lies.length
  | [], _ => rfl
  | p :: c, l => by
    have := settle_len c (setD l p)
    simp only [settle, List.foldl_cons] at this ⊢
    rw [this, setD_len]
theorem pickD_len (picks : List Int) (l : List ByteArray) (q : Put × Nat) : (pickD picks l q).length = l.length := by
  unfold pickD; split
  · exact setD_len _ _
  · rfl
theorem foldP_len (picks : List Int) : ∀ (c : List (Put × Nat)) (lies : List ByteArray), (c.foldl (pickD picks) lies).length = lies.length
  | [], _ => rfl
  | p :: c, l => by rw [List.foldl_cons, foldP_len picks c, pickD_len]
theorem settleP_len (picks : List Int) (cache : List Put) (lies : List ByteArray) : (settleP picks lies cache).length = lies.length := foldP_len picks _ _
theorem take_succ_fold {α β : Type} (f : β → α → β) (l : List α) (b : β) (i : Nat) (h : i < l.length) : (l.take (i + 1)).foldl f b = f ((l.take i).foldl f b) l[i] := by
  rw [List.take_add_one, List.getElem?_eq_getElem h, List.foldl_append]; rfl
theorem settle2_ok (k : Nat) {on armed : Bool} {left steps : Int} {lies : List ByteArray} {cache : List Put} (hk : cache.length < k) (hl : cache.length < 1000000) (hr : ∀ p ∈ cache, 0 ≤ p.1 ∧ p.1 < lies.length) :
    sector_Disk_settle_2 k (on, armed, left, steps, lies, cache) = some (on, armed, left, steps, settle lies cache, []) := by
  unfold sector_Disk_settle_2
  refine bind_of (a := settle lies cache) ?_ rfl
  refine loopK_run (fun i => ((i : Int), (cache.take i).foldl setD lies)) cache.length (settle lies cache) k ?_ ?_ hk
  · intro i hlt
    have hp := hr cache[i] (List.getElem_mem hlt)
    have ea : at_ T0 cache (i : Int) = cache[i] := at_nat hlt
    have hlen : ((cache.take i).foldl setD lies).length = lies.length := settle_len _ _
    simp only [ilt_t (show (i : Int) < llen cache by unfold llen; omega), condO_true]
    rw [guardO_pos ⟨by omega, by unfold llen; omega⟩, ea, guardO_pos ⟨hp.1, by simp only [llen, hlen]; exact hp.2⟩, wk_i64 (by omega) (by omega), take_succ_fold setD cache lies i hlt]
    rfl
  · simp only [ilt_f (show llen cache ≤ (cache.length : Int) by unfold llen; omega), condO_false]
    rw [List.take_of_length_le (by omega)]; rfl
theorem settle1_ok (k : Nat) {on armed : Bool} {left steps : Int} {lies : List ByteArray} {cache : List Put} {picks : List Int} (hk : cache.length < k) (hl : cache.length < 1000000) (hr : ∀ p ∈ cache, 0 ≤ p.1 ∧ p.1 < lies.length) :
    sector_Disk_settle k (on, armed, left, steps, lies, cache, picks) = some (on, armed, left, steps, settleP picks lies cache, []) := by
  unfold sector_Disk_settle
  refine bind_of (a := settleP picks lies cache) ?_ rfl
  have hz : cache.zipIdx.length = cache.length := by simp
  refine loopK_run (fun i => ((i : Int), (cache.zipIdx.take i).foldl (pickD picks) lies)) cache.length (settleP picks lies cache) k ?_ ?_ hk
  · intro i hlt
    have hp := hr cache[i] (List.getElem_mem hlt)
    have ea : at_ T0 cache (i : Int) = cache[i] := at_nat hlt
    have hlen : ((cache.zipIdx.take i).foldl (pickD picks) lies).length = lies.length := foldP_len picks _ _
    have hzi : cache.zipIdx[i]'(by omega) = (cache[i], i) := by simp
    simp only [ilt_t (show (i : Int) < llen cache by unfold llen; omega), condO_true]
    rw [guardO_pos ⟨by omega, by unfold llen; omega⟩, wk_i64 (by omega) (by omega), take_succ_fold (pickD picks) cache.zipIdx lies i (by omega), hzi]
    by_cases hpl : i < picks.length
    · have eb : at_ (.int .i64) picks (i : Int) = picks[i] := at_nat (t := .int .i64) hpl
      simp only [ilt_t (show (i : Int) < llen picks by unfold llen; omega), condO_true]
      rw [guardO_pos ⟨by omega, by unfold llen; omega⟩, guardO_pos (by decide), eb]
      have eg : picks.getD i 0 = picks[i] := by simp [List.getD_eq_getElem?_getD, hpl]
      by_cases hm : picks[i].tmod 2 = 0
      · simp only [ine_f hm, condO_false]
        have : pickD picks ((cache.zipIdx.take i).foldl (pickD picks) lies) (cache[i], i) = (cache.zipIdx.take i).foldl (pickD picks) lies := by
          unfold pickD; rw [if_neg]; rw [eg]; simp [hm]
        rw [this]; rfl
      · simp only [ine_t hm, condO_true, ea]
        rw [guardO_pos ⟨hp.1, by simp only [llen, hlen]; exact hp.2⟩]
        have : pickD picks ((cache.zipIdx.take i).foldl (pickD picks) lies) (cache[i], i) = setD ((cache.zipIdx.take i).foldl (pickD picks) lies) cache[i] := by
          unfold pickD; rw [if_pos]; rw [eg]; exact ⟨hpl, hm⟩
        rw [this]; rfl
    · simp only [ilt_f (show llen picks ≤ (i : Int) by unfold llen; omega), condO_false]
      have : pickD picks ((cache.zipIdx.take i).foldl (pickD picks) lies) (cache[i], i) = (cache.zipIdx.take i).foldl (pickD picks) lies := by
        unfold pickD; rw [if_neg]; simp; omega
      rw [this]; rfl
  · simp only [ilt_f (show llen cache ≤ (cache.length : Int) by unfold llen; omega), condO_false]
    rw [List.take_of_length_le (by omega)]; rfl
theorem flush_ok (k : Nat) {on armed : Bool} {left steps : Int} {lies : List ByteArray} {cache : List Put} (h0 : 0 < lies.length) (hk : cache.length < k) (hl : cache.length < 1000000) (hr : ∀ p ∈ cache, 0 ≤ p.1 ∧ p.1 < lies.length) :
    sector_Disk_Flush k (on, armed, left, steps, lies, cache) = some (if mayD on armed left = true then (0, true, armed, leftD armed left, WK .i64 (steps + 1), settle lies cache, []) else (14, false, armed, left, steps, lies, cache)) := by
  have e1 : ieq (llen lies) 0 = false := ieq_f (by unfold llen; omega)
  unfold sector_Disk_Flush
  simp only [e1, condO_false, step_spec, Option.bind_some]
  by_cases hm : mayD on armed left = true
  · simp only [hm, if_true]
    have := settle2_ok k (on := true) (armed := armed) (left := leftD armed left) (steps := WK .i64 (steps + 1)) hk hl hr
    simp only [show ieq 0 0 = true by rfl, condO_true, this, Option.bind_some]
  · simp only [hm, Bool.false_eq_true, if_false]
    rfl
theorem crash_ok (k : Nat) {on armed : Bool} {left steps : Int} {lies : List ByteArray} {cache : List Put} {picks : List Int} (h0 : 0 < lies.length) (hk : cache.length < k) (hl : cache.length < 1000000) (hr : ∀ p ∈ cache, 0 ≤ p.1 ∧ p.1 < lies.length) :
    sector_Disk_Crash k (on, armed, left, steps, picks, lies, cache) = some (true, false, left, steps, settleP picks lies cache, []) := by
  have e1 : ieq (llen lies) 0 = false := ieq_f (by unfold llen; omega)
  unfold sector_Disk_Crash
  simp only [e1, condO_false]
  rw [settle1_ok k hk hl hr]
  rfl
/-! ### sectors of one byte -/
theorem put1 : ref01_Put 1000 1 = some ⟨#[1, 1]⟩ := by kernel_rfl
theorem fill1 (l : List Int) (h : l.length = 1) : ref05_Fill 1000 (strOfNums l) = some ((⟨#[1, 1]⟩ : ByteArray) ++ strOfNums l ++ strOfNums (List.replicate 253 0), 0) := by
  have hs : (strOfNums l).size = 1 := by rw [size_strOfNums, h]
  have e1 : WK .u64 (blen (strOfNums l)) = 1 := by rw [blen, hs]; rfl
  unfold ref05_Fill
  rw [e1, put1]
  simp only [Option.bind_some]
  have hc : catOk (⟨#[1, 1]⟩ : ByteArray) (strOfNums l) := by unfold catOk; rw [hs]; decide
  have hb : blen ((⟨#[1, 1]⟩ : ByteArray) ++ strOfNums l) = 3 := by
    show (((⟨#[1, 1]⟩ : ByteArray) ++ strOfNums l).size : Int) = 3
    rw [size_app, hs]; rfl
  rw [guardO_pos hc, hb]
  simp only [show igt 3 256 = false by rfl, condO_false, show WK .i64 (256 - 3) = 253 by rfl]
  rw [guardO_pos (by unfold mkOk; decide), guardO_pos ?_]
  · rfl
  · unfold catOk
    rw [size_app, hs, size_strOfNums, List.length_replicate]
    decide
abbrev withS (c : Int) : ByteArray := (⟨#[1, 1]⟩ : ByteArray) ++ strOfNums [c] ++ strOfNums (List.replicate 253 0)
theorem with_size (c : Int) : (withS c).size = 256 := by
  unfold withS
  rw [size_app, size_app, size_strOfNums, size_strOfNums, List.length_replicate]
  rfl
theorem fill_with (c : Int) : ref05_Fill 1000 (strOfNums [c]) = some (withS c, 0) := fill1 [c] rfl
def noneS : ByteArray := strOfNums (List.replicate 256 0)
theorem rep256 : strings_Repeat 1000 (⟨#[0]⟩, 256) = some noneS := by kernel_rfl
theorem none_size : noneS.size = 256 := by unfold noneS; rw [size_strOfNums, List.length_replicate]
theorem rep_lies (n : Nat) (h1 : 1 ≤ n) (h2 : n ≤ 65536) (s : ByteArray) : slices_Repeat 1000 ((n : Int), [s]) = some (List.replicate n s) := by
  show L_slices_Repeat 1000 ((n : Int), [s]) = _
  unfold L_slices_Repeat
  simp only
  rw [guardO_pos ⟨by omega, by omega⟩, Int.toNat_natCast]
theorem awake_ok : law05_awake 1000 () = some true := by kernel_rfl
end Go.Proofs.Ytlbidinmgabjbaa
/- The plain law of SectorNil. No condition. -/
set_option linter.unusedVariables false
set_option linter.unusedSimpArgs false
namespace Go.Proofs.Ytlbidinmgabjbaa
open Go
def SectorNilPure : Prop := ∀ (z0 : Ty.den (.int .i64)), wfT (.int .i64) z0 → ∃ k, law05_SectorNil k z0 = some true
theorem sectorNil_law : SectorNilPure := by
  intro (z : Int) _
  refine ⟨1000, ?_⟩
  have h1 : ref05_Fill 1000 (strOfNums [120]) = some (withS 120, 0) := fill_with 120
  have h2 : sector_Disk_Crash 1000 (false, false, 0, 0, ([1] : List Int), ([] : List ByteArray), ([] : List (Int × ByteArray))) = some (false, false, 0, 0, [], []) := by kernel_rfl
  have h3 : sector_Disk_Read 1000 (z, false, false, 0, 0, [], []) = some (str0, 1) := read_arg 1000 (by simp; omega)
  have h4 : sector_Disk_Peek 1000 (z, false, false, 0, 0, [], []) = some str0 := peek_arg 1000 (by simp; omega)
  have h5 : sector_Disk_Write 1000 (0, withS 120, false, false, 0, 0, [], []) = some (1, false, false, 0, 0, [], []) := by rfl
  unfold law05_SectorNil
  rw [h1]
  simp only [Option.bind_some, h2, h3, awake_ok, sector_Disk_Read_2, sector_Disk_Write_2, sector_Disk_Crash_2, sector_Disk_Flush_2, sector_Disk_Peek_2, h4, h5, condO_true]
  have hz : ∀ {α : Type} (x : Option α), condO (ilt z 0) x (condO (ige z 0) x none) = x := by
    intro α x
    by_cases h : z < 0
    · rw [ilt_t h]; rfl
    · rw [ilt_f (by omega), ige_t (by omega)]; rfl
  rw [hz, hz]
  rfl
end Go.Proofs.Ytlbidinmgabjbaa
