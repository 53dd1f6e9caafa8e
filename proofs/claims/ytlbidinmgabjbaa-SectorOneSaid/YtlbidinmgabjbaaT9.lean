/- Texts of the proof, put together: part 9. No condition. -/
import Derived.Test.YtlbidinmgabjbaaT8
import Derived.Lib.BitFns
import Derived.Lib.ItoaNum
/- Plain facts about what walks compute with. No condition. -/
set_option linter.unusedVariables false
set_option linter.unusedSimpArgs false
namespace Go.Proofs.Ytlbidinmgabjbaa
open Go
theorem wk_i64 {x : Int} (h1 : -9223372036854775808 ≤ x) (h2 : x ≤ 9223372036854775807) : WK .i64 x = x := wrap_i64 h1 h2
theorem wk_u64 {x : Int} (h1 : 0 ≤ x) (h2 : x ≤ 18446744073709551615) : WK .u64 x = x := by
  simp only [WK, IntKind.wrap, IntKind.bits, IntKind.signed]; simp; omega
theorem wk_u8 {x : Int} (h1 : 0 ≤ x) (h2 : x ≤ 255) : WK .u8 x = x := by
  simp only [WK, IntKind.wrap, IntKind.bits, IntKind.signed]; simp; omega
theorem wk_u8_mod (x : Int) : WK .u8 x = x % 256 := by
  simp only [WK, IntKind.wrap, IntKind.bits, IntKind.signed]; simp
theorem wk_u32_mod (x : Int) : WK .u32 x = x % 4294967296 := by
  simp only [WK, IntKind.wrap, IntKind.bits, IntKind.signed]; simp
theorem wk_u64_mod (x : Int) : WK .u64 x = x % 18446744073709551616 := by
  simp only [WK, IntKind.wrap, IntKind.bits, IntKind.signed]; simp
@[simp] theorem condO_true {α : Type} (x y : Option α) : condO true x y = x := rfl
@[simp] theorem condO_false {α : Type} (x y : Option α) : condO false x y = y := rfl
theorem condO_ite {α : Type} (b : Bool) (x y : Option α) : condO b x y = if b = true then x else y := by cases b <;> rfl
theorem condO_eq {α : Type} {b : Bool} {x y z : Option α} (h1 : b = true → x = z) (h2 : b = false → y = z) : condO b x y = z := by cases b <;> simp_all
@[simp] theorem caseS_inl {α β R : Type} (a : α) (f : α → R) (g : β → R) : caseS (.inl a) f g = f a := rfl
@[simp] theorem caseS_inr {α β R : Type} (b : β) (f : α → R) (g : β → R) : caseS (.inr b) f g = g b := rfl
theorem condO_app {α β : Type} (f : α → β) {b : Bool} {x y z : α} (h : condO b (some x) (some y) = some z) : condO b (some (f x)) (some (f y)) = some (f z) := by
  cases b <;> simp only [condO_true, condO_false, Option.some.injEq] at h ⊢ <;> rw [h]
theorem bind_of {α β : Type} {o : Option α} {f : α → Option β} {a : α} {r : Option β} (h : o = some a) (hf : f a = r) : o.bind f = r := by rw [h]; exact hf
/-! ### numbers told -/
theorem ieq_f {a b : Int} (h : a ≠ b) : ieq a b = false := by simpa using h
theorem ieq_t {a b : Int} (h : a = b) : ieq a b = true := by simpa using h
theorem ine_f {a b : Int} (h : a = b) : ine a b = false := by simpa using h
theorem ine_t {a b : Int} (h : a ≠ b) : ine a b = true := by simpa using h
theorem ilt_t {a b : Int} (h : a < b) : ilt a b = true := by simpa using h
theorem ilt_f {a b : Int} (h : b ≤ a) : ilt a b = false := by simpa using h
theorem ile_t {a b : Int} (h : a ≤ b) : ile a b = true := by simpa using h
theorem ile_f {a b : Int} (h : b < a) : ile a b = false := by simpa using h
theorem igt_t {a b : Int} (h : b < a) : igt a b = true := by simpa using h
theorem igt_f {a b : Int} (h : a ≤ b) : igt a b = false := by simpa using h
theorem ige_t {a b : Int} (h : b ≤ a) : ige a b = true := by simpa using h
theorem ige_f {a b : Int} (h : a < b) : ige a b = false := by simpa using h
/-! ### texts -/
theorem sEq_iff {a b : ByteArray} : sEq a b = true ↔ a = b := by
  unfold sEq
  constructor
  · intro h
    have h : a.data.toList = b.data.toList := by simpa using h
    exact Go.WideShapes.bytes_inj h
  · rintro rfl; simp
theorem sEq_self (a : ByteArray) : sEq a a = true := sEq_iff.2 rfl
theorem sEq_dec (a b : ByteArray) : sEq a b = decide (a.data.toList = b.data.toList) := by
  unfold sEq
  rw [Bool.eq_iff_iff]
  simp
theorem bytes_ext {a b : ByteArray} (h : a.data.toList = b.data.toList) : a = b := Go.WideShapes.bytes_inj h
@[simp] theorem size_strOfNums (l : List Int) : (strOfNums l).size = l.length := by simp [strOfNums, ByteArray.size]
@[simp] theorem size_app (a b : ByteArray) : (a ++ b).size = a.size + b.size := by simp
@[simp] theorem data_app (a b : ByteArray) : (a ++ b).data.toList = a.data.toList ++ b.data.toList := by simp
/-! ### lists -/
theorem at_get {t : Ty} {l : List t.den} {i : Int} (h0 : 0 ≤ i) (h1 : i < l.length) : at_ t l i = l[i.toNat]'(by omega) := by
  unfold at_
  rw [List.getD_eq_getElem?_getD, List.getElem?_eq_getElem (by omega)]
  rfl
theorem at_nat {t : Ty} {l : List t.den} {n : Nat} (h : n < l.length) : at_ t l (n : Int) = l[n] := by
  rw [at_get (by omega) (by omega)]
  congr 1
/-! ### loops -/
/-- A loop, by a measure and an invariant. -/
theorem loopK_inv {H E : Type} {step : H → Option (H ⊕ E)} (I : Nat → H → Prop) (Q : E → Prop)
    (hs : ∀ n h, I n h → (∃ h' m, step h = some (.inl h') ∧ m < n ∧ I m h') ∨ (∃ e, step h = some (.inr e) ∧ Q e)) : ∀ (n : Nat) (h : H), I n h → ∀ k, n < k → ∃ e, loopK k step h = some e ∧ Q e := by
  intro n
  induction n using Nat.strongRecOn with
  | _ n ih =>
    intro h hI k hk
    cases k with
    | zero => omega
    | succ k =>
      rcases hs n h hI with ⟨h', m, h1, h2, h3⟩ | ⟨e, h1, h2⟩
      · obtain ⟨e, he, hq⟩ := ih m h2 h' h3 k (by omega)
        exact ⟨e, by simp only [loopK, h1, Option.bind_some, caseS_inl]; exact he, hq⟩
      · exact ⟨e, by simp only [loopK, h1, Option.bind_some, caseS_inr], h2⟩
/-- A loop whose rounds are known. -/
theorem loopK_run {H E : Type} {step : H → Option (H ⊕ E)} (p : Nat → H) : ∀ (n : Nat) (e : E) (k : Nat), (∀ i < n, step (p i) = some (.inl (p (i + 1)))) → step (p n) = some (.inr e) → n < k → loopK k step (p 0) = some e := by
  intro n
  induction n generalizing p with
  | zero =>
    intro e k _ h2 hk
    cases k with
    | zero => omega
    | succ k => simp only [loopK, h2, Option.bind_some, caseS_inr]
  | succ n ih =>
    intro e k h1 h2 hk
    cases k with
    | zero => omega
    | succ k =>
      simp only [loopK, h1 0 (by omega), Option.bind_some, caseS_inl]
      exact ih (fun i => p (i + 1)) e k (fun i hi => h1 (i + 1) (by omega)) h2 (by omega)
/-- What a round may end with: another round with less to do, or the way out. -/
inductive Goes {H E : Type} (I : Nat → H → Prop) (Q : E → Prop) (n : Nat) : Option (H ⊕ E) → Prop
  | on {h' : H} (m : Nat) (lt : m < n) (i : I m h') : Goes I Q n (some (.inl h'))
  | out {e : E} (q : Q e) : Goes I Q n (some (.inr e))
theorem Goes.bind {H E S : Type} {I : Nat → H → Prop} {Q : E → Prop} {n : Nat} {o : Option S} {f : S → Option (H ⊕ E)} (P : S → Prop) (h : ∃ s, o = some s ∧ P s) (hf : ∀ s, P s → Goes I Q n (f s)) : Goes I Q n (o.bind f) := by
  obtain ⟨s, rfl, hp⟩ := h
  exact hf s hp
theorem loop_bind {H E R : Type} {step : H → Option (H ⊕ E)} {f : E → Option R} {r : Option R} {h0 : H} {k : Nat} (I : Nat → H → Prop) (Q : E → Prop) (n : Nat) (hk : n < k) (h : I n h0)
    (hs : ∀ n h, I n h → Goes I Q n (step h)) (hf : ∀ e, Q e → f e = r) : (loopK k step h0).bind f = r := by
  obtain ⟨e, he, hq⟩ := loopK_inv (step := step) I Q (fun n h hi => by
    have g := hs n h hi
    generalize step h = o at g ⊢
    cases g with
    | on m lt i => exact .inl ⟨_, m, rfl, lt, i⟩
    | out q => exact .inr ⟨_, rfl, q⟩) n h0 h k hk
  rw [he]
  exact hf e hq
theorem and_bound (x : Int) (m : Nat) (h : m < 4611686018427387904) : 0 ≤ andK .i64 x m ∧ andK .i64 x m ≤ m := by
  have e : (BitVec.ofInt IntKind.i64.bits x &&& BitVec.ofInt IntKind.i64.bits (m : Int)).toNat ≤ m := by
    rw [BitVec.toNat_and]
    refine Nat.le_trans Nat.and_le_right ?_
    rw [BitVec.toNat_ofInt]
    simp only [IntKind.bits]
    omega
  have w : andK .i64 x m = ((BitVec.ofInt IntKind.i64.bits x &&& BitVec.ofInt IntKind.i64.bits (m : Int)).toNat : Int) := wrap_i64 (by omega) (by omega)
  rw [w]
  omega
theorem iterL_congr {α H E : Type} {f g : H → α → Option (H ⊕ E)} : ∀ (l : List α) (h : H), (∀ h, ∀ a ∈ l, f h a = g h a) → iterL l f h = iterL l g h
  | [], h, _ => rfl
  | a :: l, h, hfg => by
    simp only [iterL]
    rw [hfg h a (List.mem_cons_self ..)]
    cases g h a with
    | none => rfl
    | some y => cases y with
      | inl h' => exact iterL_congr l h' (fun h b hb => hfg h b (List.mem_cons_of_mem _ hb))
      | inr e => rfl
theorem iterL_map {α β H E : Type} (q : β → α) (f : H → α → Option (H ⊕ E)) : ∀ (l : List β) (h : H), iterL (l.map q) f h = iterL l (fun h b => f h (q b)) h
  | [], h => rfl
  | b :: l, h => by
    simp only [List.map_cons, iterL]
    cases f h (q b) with
    | none => rfl
    | some y => cases y with
      | inl h' => exact iterL_map q f l h'
      | inr e => rfl
theorem foldL_map {α β H : Type} (q : β → α) (f : H → α → Option H) : ∀ (l : List β) (h : H), foldL (l.map q) f h = foldL l (fun h b => f h (q b)) h
  | [], h => rfl
  | b :: l, h => by
    simp only [List.map_cons, foldL]
    cases f h (q b) with
    | none => rfl
    | some y => exact foldL_map q f l y
theorem backL_snd {α : Type} (l : List α) : (backL l).map (·.2) = l.reverse := by
  simp [backL, List.map_reverse, List.map_map, Function.comp_def]
/-- Rounds that look at the elements alone. -/
theorem iterL_back {α H E : Type} (l : List α) (f : H → α → Option (H ⊕ E)) (h : H) : iterL (backL l) (fun h p => f h p.2) h = iterL l.reverse f h := by
  rw [← backL_snd, iterL_map]
theorem foldL_back {α H : Type} (l : List α) (f : H → α → Option H) (h : H) : foldL (backL l) (fun h p => f h p.2) h = foldL l.reverse f h := by
  rw [← backL_snd, foldL_map]
theorem foldL_pure {α H : Type} (f : H → α → H) : ∀ (l : List α) (h : H), foldL l (fun h a => some (f h a)) h = some (l.foldl f h)
  | [], h => rfl
  | a :: l, h => by simp only [foldL, Option.bind_some, List.foldl_cons]; exact foldL_pure f l (f h a)
end Go.Proofs.Ytlbidinmgabjbaa
/- The disk: what its calls compute. No condition. -/
set_option linter.unusedVariables false
set_option linter.unusedSimpArgs false
namespace Go.Proofs.Ytlbidinmgabjbaa
open Go
abbrev Put := Int × ByteArray
/-- May a step be done? -/
abbrev mayD (on armed : Bool) (left : Int) : Bool := on && !(armed && left == 0)
abbrev leftD (armed : Bool) (left : Int) : Int := if armed = true then WK .i64 (left - 1) else left
theorem step_spec (k : Nat) (on armed : Bool) (left steps : Int) (lies : List ByteArray) (cache : List Put) :
    sector_Disk_step k (on, armed, left, steps, lies, cache) = some (if mayD on armed left = true then (0, true, armed, leftD armed left, WK .i64 (steps + 1), lies, cache) else (14, false, armed, left, steps, lies, cache)) := by
  cases on <;> cases armed <;> by_cases h : left = 0 <;> simp [sector_Disk_step, mayD, leftD, h, ieq_f, ieq_t]
theorem write_ok (k : Nat) {a : Int} {s : ByteArray} {on armed : Bool} {left steps : Int} {lies : List ByteArray} {cache : List Put} (h0 : 0 ≤ a) (h1 : a < lies.length) (h2 : s.size = 256) (hc : cache.length < 1000000) :
    sector_Disk_Write k (a, s, on, armed, left, steps, lies, cache) = some (if mayD on armed left = true then (0, true, armed, leftD armed left, WK .i64 (steps + 1), lies, cache ++ [(a, s)]) else (14, false, armed, left, steps, lies, cache)) := by
  have e1 : ilt a 0 = false := ilt_f h0
  have e2 : ige a (llen lies) = false := ige_f h1
  have e3 : ine (blen s) 256 = false := ine_f (by rw [blen, h2]; rfl)
  unfold sector_Disk_Write
  simp only [e1, e2, e3, condO_false, step_spec, Option.bind_some]
  have hap : appOk cache ([(a, s)] : List Put) 24 := by
    unfold appOk; simp; omega
  by_cases hm : mayD on armed left = true
  · simp only [hm, if_true]
    rw [guardO_pos hap]
    simp
  · simp only [hm, Bool.false_eq_true, if_false]
    rfl
/-- What is known of a sector. -/
def rd (lies : List ByteArray) (cache : List Put) (a : Int) : ByteArray :=
  match cache.reverse.find? (fun p => p.1 == a) with
  | some p => p.2
  | none => lies.getD a.toNat str0
theorem find_iter (a : Int) : ∀ (l : List Put), iterL l (fun (_ : Unit) p => condO (ine p.1 a) (some (.inl ())) (some (.inr (p.2, (0 : Int))))) () = some (match l.find? (fun p => p.1 == a) with | some p => Sum.inr (p.2, 0) | none => .inl ())
  | [] => rfl
  | p :: l => by
    simp only [iterL, List.find?_cons]
    by_cases h : p.1 = a
    · simp [h]
    · have : (p.1 == a) = false := by simpa using h
      have h2 : ine p.1 a = true := by simpa using h
      simp only [this, h2, condO_true, Option.bind_some, caseS_inl]
      exact find_iter a l
theorem read_ok (k : Nat) {a : Int} {armed : Bool} {left steps : Int} {lies : List ByteArray} {cache : List Put} (h0 : 0 ≤ a) (h1 : a < lies.length) :
    sector_Disk_Read k (a, true, armed, left, steps, lies, cache) = some (rd lies cache a, 0) := by
  have e1 : ilt a 0 = false := ilt_f h0
  have e2 : ige a (llen lies) = false := ige_f h1
  unfold sector_Disk_Read
  simp only [e1, e2, condO_false, Bool.not_true]
  have := iterL_back cache (fun (_ : Unit) (p : Put) => condO (ine p.1 a) (some (Sum.inl ())) (some (.inr (p.2, (0 : Int))))) ()
  rw [this, find_iter]
  unfold rd
  cases hf : cache.reverse.find? (fun p => p.1 == a) with
  | none =>
    simp only [Option.bind_some, caseS_inl]
    rw [guardO_pos ⟨h0, h1⟩]
    rfl
  | some p => simp
theorem read_off (k : Nat) {a : Int} {armed : Bool} {left steps : Int} {lies : List ByteArray} {cache : List Put} (h0 : 0 ≤ a) (h1 : a < lies.length) :
    sector_Disk_Read k (a, false, armed, left, steps, lies, cache) = some (str0, 14) := by
  have e1 : ilt a 0 = false := ilt_f h0
  have e2 : ige a (llen lies) = false := ige_f h1
  unfold sector_Disk_Read
  simp only [e1, e2, condO_false, Bool.not_false, condO_true]
theorem read_arg (k : Nat) {a : Int} {on armed : Bool} {left steps : Int} {lies : List ByteArray} {cache : List Put} (h : a < 0 ∨ lies.length ≤ a) :
    sector_Disk_Read k (a, on, armed, left, steps, lies, cache) = some (str0, 1) := by
  unfold sector_Disk_Read
  by_cases h0 : a < 0
  · have e1 : ilt a 0 = true := by simpa using h0
    simp only [e1, condO_true]
  · have e1 : ilt a 0 = false := by simpa using h0
    have e2 : ige a (llen lies) = true := ige_t (by unfold llen; omega)
    simp only [e1, e2, condO_false, condO_true]
theorem peek_ok (k : Nat) {a : Int} {on armed : Bool} {left steps : Int} {lies : List ByteArray} {cache : List Put} (h0 : 0 ≤ a) (h1 : a < lies.length) :
    sector_Disk_Peek k (a, on, armed, left, steps, lies, cache) = some (lies.getD a.toNat str0) := by
  have e1 : ilt a 0 = false := ilt_f h0
  have e2 : ige a (llen lies) = false := ige_f h1
  unfold sector_Disk_Peek
  simp only [e1, e2, condO_false]
  rw [guardO_pos ⟨h0, h1⟩]
  rfl
theorem peek_arg (k : Nat) {a : Int} {on armed : Bool} {left steps : Int} {lies : List ByteArray} {cache : List Put} (h : a < 0 ∨ lies.length ≤ a) :
    sector_Disk_Peek k (a, on, armed, left, steps, lies, cache) = some str0 := by
  unfold sector_Disk_Peek
  by_cases h0 : a < 0
  · have e1 : ilt a 0 = true := by simpa using h0
    simp only [e1, condO_true]
  · have e1 : ilt a 0 = false := by simpa using h0
    have e2 : ige a (llen lies) = true := ige_t (by unfold llen; omega)
    simp only [e1, e2, condO_false, condO_true]
/-! ### what is settled -/
def setD (l : List ByteArray) (p : Put) : List ByteArray := l.set p.1.toNat p.2
def settle (lies : List ByteArray) (cache : List Put) : List ByteArray := cache.foldl setD lies
def pickD (picks : List Int) (l : List ByteArray) (q : Put × Nat) : List ByteArray := if q.2 < picks.length ∧ (picks.getD q.2 0).tmod 2 ≠ 0 then setD l q.1 else l
def settleP (picks : List Int) (lies : List ByteArray) (cache : List Put) : List ByteArray := cache.zipIdx.foldl (pickD picks) lies
theorem setD_len (l : List ByteArray) (p : Put) : (setD l p).length = l.length := by simp [setD]
theorem settle_len : ∀ (cache : List Put) (lies : List ByteArray), (settle lies cache).length = lies.length
  | [], _ => rfl
  | p :: c, l => by
    have := settle_len c (setD l p)
    simp only [settle, List.foldl_cons] at this ⊢
    rw [this, setD_len]
theorem pickD_len (picks : List Int) (l : List ByteArray) (q : Put × Nat) : (pickD picks l q).length = l.length := by
  unfold pickD; split
  · exact setD_len _ _
  · rfl
theorem foldP_len (picks : List Int) : ∀ (c : List (Put × Nat)) (lies : List ByteArray), (c.foldl (pickD picks) lies).length = lies.length
  | [], _ => rfl
  | p :: c, l => by rw [List.foldl_cons, foldP_len picks c, pickD_len]
theorem settleP_len (picks : List Int) (cache : List Put) (lies : List ByteArray) : (settleP picks lies cache).length = lies.length := foldP_len picks _ _
theorem take_succ_fold {α β : Type} (f : β → α → β) (l : List α) (b : β) (i : Nat) (h : i < l.length) : (l.take (i + 1)).foldl f b = f ((l.take i).foldl f b) l[i] := by
  rw [List.take_add_one, List.getElem?_eq_getElem h, List.foldl_append]; rfl
theorem settle2_ok (k : Nat) {on armed : Bool} {left steps : Int} {lies : List ByteArray} {cache : List Put} (hk : cache.length < k) (hl : cache.length < 1000000) (hr : ∀ p ∈ cache, 0 ≤ p.1 ∧ p.1 < lies.length) :
    sector_Disk_settle_2 k (on, armed, left, steps, lies, cache) = some (on, armed, left, steps, settle lies cache, []) := by
  unfold sector_Disk_settle_2
  refine bind_of (a := settle lies cache) ?_ rfl
  refine loopK_run (fun i => ((i : Int), (cache.take i).foldl setD lies)) cache.length (settle lies cache) k ?_ ?_ hk
  · intro i hlt
    have hp := hr cache[i] (List.getElem_mem hlt)
    have ea : at_ T0 cache (i : Int) = cache[i] := at_nat hlt
    have hlen : ((cache.take i).foldl setD lies).length = lies.length := settle_len _ _
    simp only [ilt_t (show (i : Int) < llen cache by unfold llen; omega), condO_true]
    rw [guardO_pos ⟨by omega, by unfold llen; omega⟩, ea, guardO_pos ⟨hp.1, by simp only [llen, hlen]; exact hp.2⟩, wk_i64 (by omega) (by omega), take_succ_fold setD cache lies i hlt]
    rfl
  · simp only [ilt_f (show llen cache ≤ (cache.length : Int) by unfold llen; omega), condO_false]
    rw [List.take_of_length_le (by omega)]; rfl
theorem settle1_ok (k : Nat) {on armed : Bool} {left steps : Int} {lies : List ByteArray} {cache : List Put} {picks : List Int} (hk : cache.length < k) (hl : cache.length < 1000000) (hr : ∀ p ∈ cache, 0 ≤ p.1 ∧ p.1 < lies.length) :
    sector_Disk_settle k (on, armed, left, steps, lies, cache, picks) = some (on, armed, left, steps, settleP picks lies cache, []) := by
  unfold sector_Disk_settle
  refine bind_of (a := settleP picks lies cache) ?_ rfl
  have hz : cache.zipIdx.length = cache.length := by simp
  refine loopK_run (fun i => ((i : Int), (cache.zipIdx.take i).foldl (pickD picks) lies)) cache.length (settleP picks lies cache) k ?_ ?_ hk
  · intro i hlt
    have hp := hr cache[i] (List.getElem_mem hlt)
    have ea : at_ T0 cache (i : Int) = cache[i] := at_nat hlt
    have hlen : ((cache.zipIdx.take i).foldl (pickD picks) lies).length = lies.length := foldP_len picks _ _
    have hzi : cache.zipIdx[i]'(by omega) = (cache[i], i) := by simp
    simp only [ilt_t (show (i : Int) < llen cache by unfold llen; omega), condO_true]
    rw [guardO_pos ⟨by omega, by unfold llen; omega⟩, wk_i64 (by omega) (by omega), take_succ_fold (pickD picks) cache.zipIdx lies i (by omega), hzi]
    by_cases hpl : i < picks.length
    · have eb : at_ (.int .i64) picks (i : Int) = picks[i] := at_nat (t := .int .i64) hpl
      simp only [ilt_t (show (i : Int) < llen picks by unfold llen; omega), condO_true]
      rw [guardO_pos ⟨by omega, by unfold llen; omega⟩, guardO_pos (by decide), eb]
      have eg : picks.getD i 0 = picks[i] := by simp [List.getD_eq_getElem?_getD, hpl]
      by_cases hm : picks[i].tmod 2 = 0
      · simp only [ine_f hm, condO_false]
        have : pickD picks ((cache.zipIdx.take i).foldl (pickD picks) lies) (cache[i], i) = (cache.zipIdx.take i).foldl (pickD picks) lies := by
          unfold pickD; rw [if_neg]; rw [eg]; simp [hm]
        rw [this]; rfl
      · simp only [ine_t hm, condO_true, ea]
        rw [guardO_pos ⟨hp.1, by simp only [llen, hlen]; exact hp.2⟩]
        have : pickD picks ((cache.zipIdx.take i).foldl (pickD picks) lies) (cache[i], i) = setD ((cache.zipIdx.take i).foldl (pickD picks) lies) cache[i] := by
          unfold pickD; rw [if_pos]; rw [eg]; exact ⟨hpl, hm⟩
        rw [this]; rfl
    · simp only [ilt_f (show llen picks ≤ (i : Int) by unfold llen; omega), condO_false]
      have : pickD picks ((cache.zipIdx.take i).foldl (pickD picks) lies) (cache[i], i) = (cache.zipIdx.take i).foldl (pickD picks) lies := by
        unfold pickD; rw [if_neg]; simp; omega
      rw [this]; rfl
  · simp only [ilt_f (show llen cache ≤ (cache.length : Int) by unfold llen; omega), condO_false]
    rw [List.take_of_length_le (by omega)]; rfl
theorem flush_ok (k : Nat) {on armed : Bool} {left steps : Int} {lies : List ByteArray} {cache : List Put} (h0 : 0 < lies.length) (hk : cache.length < k) (hl : cache.length < 1000000) (hr : ∀ p ∈ cache, 0 ≤ p.1 ∧ p.1 < lies.length) :
    sector_Disk_Flush k (on, armed, left, steps, lies, cache) = some (if mayD on armed left = true then (0, true, armed, leftD armed left, WK .i64 (steps + 1), settle lies cache, []) else (14, false, armed, left, steps, lies, cache)) := by
  have e1 : ieq (llen lies) 0 = false := ieq_f (by unfold llen; omega)
  unfold sector_Disk_Flush
  simp only [e1, condO_false, step_spec, Option.bind_some]
  by_cases hm : mayD on armed left = true
  · simp only [hm, if_true]
    have := settle2_ok k (on := true) (armed := armed) (left := leftD armed left) (steps := WK .i64 (steps + 1)) hk hl hr
    simp only [show ieq 0 0 = true by rfl, condO_true, this, Option.bind_some]
  · simp only [hm, Bool.false_eq_true, if_false]
    rfl
theorem crash_ok (k : Nat) {on armed : Bool} {left steps : Int} {lies : List ByteArray} {cache : List Put} {picks : List Int} (h0 : 0 < lies.length) (hk : cache.length < k) (hl : cache.length < 1000000) (hr : ∀ p ∈ cache, 0 ≤ p.1 ∧ p.1 < lies.length) :
    sector_Disk_Crash k (on, armed, left, steps, picks, lies, cache) = some (true, false, left, steps, settleP picks lies cache, []) := by
  have e1 : ieq (llen lies) 0 = false := ieq_f (by unfold llen; omega)
  unfold sector_Disk_Crash
  simp only [e1, condO_false]
  rw [settle1_ok k hk hl hr]
  rfl
/-! ### sectors of one byte -/
theorem put1 : ref01_Put 1000 1 = some ⟨#[1, 1]⟩ := by kernel_rfl
theorem fill1 (l : List Int) (h : l.length = 1) : ref05_Fill 1000 (strOfNums l) = some ((⟨#[1, 1]⟩ : ByteArray) ++ strOfNums l ++ strOfNums (List.replicate 253 0), 0) := by
  have hs : (strOfNums l).size = 1 := by rw [size_strOfNums, h]
  have e1 : WK .u64 (blen (strOfNums l)) = 1 := by rw [blen, hs]; rfl
  unfold ref05_Fill
  rw [e1, put1]
  simp only [Option.bind_some]
  have hc : catOk (⟨#[1, 1]⟩ : ByteArray) (strOfNums l) := by unfold catOk; rw [hs]; decide
  have hb : blen ((⟨#[1, 1]⟩ : ByteArray) ++ strOfNums l) = 3 := by
    show (((⟨#[1, 1]⟩ : ByteArray) ++ strOfNums l).size : Int) = 3
    rw [size_app, hs]; rfl
  rw [guardO_pos hc, hb]
  simp only [show igt 3 256 = false by rfl, condO_false, show WK .i64 (256 - 3) = 253 by rfl]
  rw [guardO_pos (by unfold mkOk; decide), guardO_pos ?_]
  · rfl
  · unfold catOk
    rw [size_app, hs, size_strOfNums, List.length_replicate]
    decide
abbrev withS (c : Int) : ByteArray := (⟨#[1, 1]⟩ : ByteArray) ++ strOfNums [c] ++ strOfNums (List.replicate 253 0)
theorem with_size (c : Int) : (withS c).size = 256 := by
  unfold withS
  rw [size_app, size_app, size_strOfNums, size_strOfNums, List.length_replicate]
  rfl
theorem fill_with (c : Int) : ref05_Fill 1000 (strOfNums [c]) = some (withS c, 0) := fill1 [c] rfl
def noneS : ByteArray := strOfNums (List.replicate 256 0)
theorem rep256 : strings_Repeat 1000 (⟨#[0]⟩, 256) = some noneS := by kernel_rfl
theorem none_size : noneS.size = 256 := by unfold noneS; rw [size_strOfNums, List.length_replicate]
theorem rep_lies (n : Nat) (h1 : 1 ≤ n) (h2 : n ≤ 65536) (s : ByteArray) : slices_Repeat 1000 ((n : Int), [s]) = some (List.replicate n s) := by
  show L_slices_Repeat 1000 ((n : Int), [s]) = _
  unfold L_slices_Repeat
  simp only
  rw [guardO_pos ⟨by omega, by omega⟩, Int.toNat_natCast]
theorem awake_ok : law05_awake 1000 () = some true := by kernel_rfl
end Go.Proofs.Ytlbidinmgabjbaa
/- Octets: numbers and texts as bytes, what puts them and what reads them. No condition. -/
set_option linter.unusedVariables false
set_option linter.unusedSimpArgs false
namespace Go.Proofs.Ytlbidinmgabjbaa
open Go
abbrev mkB (l : List UInt8) : ByteArray := ⟨l.toArray⟩
theorem mkB_of (s : ByteArray) : s = mkB s.data.toList := by cases s; rfl
theorem mkB_inj {a b : List UInt8} (h : mkB a = mkB b) : a = b := by
  have := congrArg (fun s : ByteArray => s.data.toList) h
  simpa using this
theorem mkB_size (l : List UInt8) : (mkB l).size = l.length := by simp [ByteArray.size]
theorem blen_mkB (l : List UInt8) : blen (mkB l) = (l.length : Int) := by rw [blen, mkB_size]
theorem mkB_app (a b : List UInt8) : mkB a ++ mkB b = mkB (a ++ b) := bytes_ext (by rw [data_app])
theorem nums_mkB (l : List Int) : strOfNums l = mkB (l.map fun n => UInt8.ofNat n.toNat) := rfl
theorem sAt_mkB (l : List UInt8) (i : Int) : sAt (mkB l) i = ((l.getD i.toNat 0).toNat : Int) := rfl
theorem scut_take (l : List UInt8) (n : Int) : scut (mkB l) 0 n = mkB (l.take n.toNat) := by
  apply bytes_ext
  simp [scut, ByteArray.data_extract]
theorem scut_drop (l : List UInt8) (n : Int) : scut (mkB l) n (blen (mkB l)) = mkB (l.drop n.toNat) := by
  apply bytes_ext
  rw [blen_mkB]
  simp [scut, ByteArray.data_extract, List.extract]
  exact List.take_of_length_le (by simp)
theorem byte_lt (b : UInt8) : (b.toNat : Int) ≤ 255 := by have := b.toNat_lt; omega
/-! ### the number that bytes are -/
def bval (l : List UInt8) : Nat := l.foldl (fun h b => h * 256 + b.toNat) 0
theorem bval_snoc (l : List UInt8) (b : UInt8) : bval (l ++ [b]) = bval l * 256 + b.toNat := by simp [bval, List.foldl_append]
theorem bval_lt (l : List UInt8) : bval l < 256 ^ l.length := by
  rw [← List.reverse_reverse l]
  induction l.reverse with
  | nil => simp [bval]
  | cons b l ih =>
    rw [List.reverse_cons, bval_snoc, List.length_append, List.length_singleton, Nat.pow_succ]
    have := b.toNat_lt
    omega
theorem bval_take (l : List UInt8) (i : Nat) (h : i < l.length) : bval (l.take (i + 1)) = bval (l.take i) * 256 + (l.getD i 0).toNat := by
  rw [List.take_add_one, List.getElem?_eq_getElem h, Option.toList_some, bval_snoc, List.getD_eq_getElem?_getD, List.getElem?_eq_getElem h]
  rfl
theorem bval_take_lt (l : List UInt8) (i : Nat) (h : i ≤ 7) : bval (l.take i) < 72057594037927936 := by
  refine Nat.lt_of_lt_of_le (bval_lt _) ?_
  have : (l.take i).length ≤ 7 := by rw [List.length_take]; omega
  calc 256 ^ (l.take i).length ≤ 256 ^ 7 := Nat.pow_le_pow_right (by decide) this
    _ = 72057594037927936 := by decide
theorem or_shl {h b : Int} (h0 : 0 ≤ h) (h1 : h < 72057594037927936) (b0 : 0 ≤ b) (b1 : b ≤ 255) : orK .u64 (shlK .u64 h 8) b = h * 256 + b := by
  obtain ⟨n, rfl⟩ := Int.eq_ofNat_of_zero_le h0
  obtain ⟨m, rfl⟩ := Int.eq_ofNat_of_zero_le b0
  have e1 : shlK .u64 (n : Int) 8 = ((n * 256 : Nat) : Int) := by
    show WK .u64 ((n : Int) * 2 ^ (min (8 : Int).toNat 64)) = _
    rw [show ((2 : Int) ^ (min (8 : Int).toNat 64)) = 256 by decide, wk_u64 (by omega) (by omega)]
    omega
  rw [e1]
  show WK .u64 (((BitVec.ofInt 64 ((n * 256 : Nat) : Int)) ||| (BitVec.ofInt 64 (m : Int))).toNat : Int) = _
  rw [BitVec.toNat_or, BitVec.toNat_ofInt, BitVec.toNat_ofInt]
  rw [show (((n * 256 : Nat) : Int) % ((2 ^ 64 : Nat) : Int)).toNat = n * 256 by omega, show (((m : Nat) : Int) % ((2 ^ 64 : Nat) : Int)).toNat = m by omega]
  have e2 : n * 256 ||| m = n * 256 + m := by
    have := Nat.two_pow_add_eq_or_of_lt (i := 8) (b := m) (by omega) n
    rw [Nat.mul_comm n 256]
    exact this.symm
  rw [e2, wk_u64 (by omega) (by omega)]
  omega
/-! ### a number that is put -/
def wdt (x : Nat) : Nat := (Lib.bitLen x + 7) / 8
def digs : Nat → Nat → List UInt8
  | 0, _ => []
  | n + 1, x => digs n (x / 256) ++ [UInt8.ofNat (x % 256)]
theorem digs_len : ∀ (n x : Nat), (digs n x).length = n
  | 0, _ => rfl
  | n + 1, x => by simp [digs, digs_len n]
theorem digs_cons : ∀ (n x : Nat), digs (n + 1) x = UInt8.ofNat (x / 256 ^ n % 256) :: digs n x
  | 0, x => by simp [digs]
  | n + 1, x => by
    rw [digs, digs_cons n (x / 256), Nat.div_div_eq_div_mul, ← Nat.pow_succ', digs]
    rfl
theorem wdt_zero : wdt 0 = 0 := by decide
theorem wdt_step {x : Nat} (h0 : x ≠ 0) (h : x < 18446744073709551616) : wdt x = wdt (x / 256) + 1 := by
  unfold wdt
  by_cases hx : 256 ≤ x
  · rw [Lib.bitLen_shift8 x hx h]; omega
  · have h1 := Lib.bitLen_le8 ⟨x, by omega⟩
    have h2 : 1 ≤ Lib.bitLen x := by
      rw [Lib.bitLen_half x h0 (by simpa using h)]; omega
    rw [show x / 256 = 0 by omega, show Lib.bitLen 0 = 0 by decide]
    simp only at h1
    omega
theorem wdt_le {x : Nat} (h : x < 18446744073709551616) : wdt x ≤ 8 := by
  have := Lib.bitLen_le x 64 (by decide) (by simpa using h)
  unfold wdt; omega
theorem digs_val (x : Nat) : x < 18446744073709551616 → bval (digs (wdt x) x) = x := by
  induction x using Nat.strongRecOn with
  | _ x ih =>
    intro h
    by_cases h0 : x = 0
    · subst h0; rw [wdt_zero]; rfl
    · rw [wdt_step h0 h, digs, bval_snoc, ih (x / 256) (by omega) (by omega)]
      have : (UInt8.ofNat (x % 256)).toNat = x % 256 := by simp
      rw [this]; omega
theorem digs_head (x : Nat) : x ≠ 0 → x < 18446744073709551616 → (digs (wdt x) x).getD 0 0 ≠ 0 := by
  induction x using Nat.strongRecOn with
  | _ x ih =>
    intro h0 h
    rw [wdt_step h0 h, digs]
    by_cases hx : x / 256 = 0
    · rw [hx, wdt_zero]
      simp only [digs, List.nil_append]
      show UInt8.ofNat (x % 256) ≠ 0
      intro e
      have e2 := congrArg UInt8.toNat e
      simp at e2
      omega
    · have := ih (x / 256) (by omega) hx (by omega)
      have hl : 0 < (digs (wdt (x / 256)) (x / 256)).length := by
        rw [digs_len, wdt_step hx (by omega)]; omega
      rw [List.getD_eq_getElem?_getD, List.getElem?_append_left hl, ← List.getD_eq_getElem?_getD]
      exact this
def putL (x : Nat) : List UInt8 := UInt8.ofNat (wdt x) :: digs (wdt x) x
theorem putL_len (x : Nat) : (putL x).length = wdt x + 1 := by simp [putL, digs_len]
/-! ### what reading comes to -/
def longL : List UInt8 → Option (Nat × List UInt8)
  | [] => none
  | c :: r => if 8 < c.toNat ∨ r.length < c.toNat ∨ (0 < c.toNat ∧ r.getD 0 0 = 0) then none else some (bval (r.take c.toNat), r.drop c.toNat)
theorem long_put {x : Nat} (h : x < 18446744073709551616) (r : List UInt8) : longL (putL x ++ r) = some (x, r) := by
  have hw := wdt_le h
  have hc : (UInt8.ofNat (wdt x)).toNat = wdt x := by simp; omega
  simp only [putL, List.cons_append, longL, hc]
  rw [if_neg, List.take_left' (digs_len _ _), List.drop_left' (digs_len _ _), digs_val x h]
  rw [List.length_append, digs_len]
  intro hh
  rcases hh with hh | hh | ⟨hh, hz⟩
  · omega
  · omega
  · have h0 : x ≠ 0 := by
      rintro rfl
      rw [wdt_zero] at hh; omega
    rw [List.getD_eq_getElem?_getD, List.getElem?_append_left (by rw [digs_len]; exact hh), ← List.getD_eq_getElem?_getD] at hz
    exact digs_head x h0 h hz
theorem longL_len {l r : List UInt8} {n : Nat} (h : longL l = some (n, r)) : ∃ p, p ++ r = l ∧ 1 ≤ p.length ∧ p.length ≤ 9 ∧ n < 18446744073709551616 := by
  cases l with
  | nil => simp [longL] at h
  | cons c l =>
    simp only [longL] at h
    split at h
    · cases h
    · rename_i hn
      simp only [Option.some.injEq, Prod.mk.injEq] at h
      obtain ⟨rfl, rfl⟩ := h
      refine ⟨c :: l.take c.toNat, by simp, by simp, by rw [List.length_cons, List.length_take]; omega, ?_⟩
      refine Nat.lt_of_lt_of_le (bval_lt _) ?_
      have : (l.take c.toNat).length ≤ 8 := by rw [List.length_take]; omega
      calc 256 ^ (l.take c.toNat).length ≤ 256 ^ 8 := Nat.pow_le_pow_right (by decide) this
        _ = 18446744073709551616 := by decide
end Go.Proofs.Ytlbidinmgabjbaa
/- Octets: what the program's and the document's functions answer. No condition. -/
set_option linter.unusedVariables false
set_option linter.unusedSimpArgs false
namespace Go.Proofs.Ytlbidinmgabjbaa
open Go
theorem take_ok (k : Nat) {l : List UInt8} {n : Int} (h0 : 0 ≤ n) (h1 : n ≤ l.length) : octet_Scan_take k (n, mkB l, false) = some (mkB (l.take n.toNat), true, mkB (l.drop n.toNat), false) := by
  unfold octet_Scan_take
  simp only [condO_false, ilt_f h0, igt_f (show n ≤ blen (mkB l) by rw [blen_mkB]; exact h1)]
  rw [guardO_pos ⟨by decide, h0, by rw [blen_mkB]; exact h1⟩, guardO_pos ⟨h0, by rw [blen_mkB]; exact h1, Int.le_refl _⟩, scut_take, scut_drop]
theorem take_bad (k : Nat) {l : List UInt8} {n : Int} (h : n < 0 ∨ (l.length : Int) < n) : octet_Scan_take k (n, mkB l, false) = some (str0, false, mkB l, true) := by
  unfold octet_Scan_take
  by_cases h0 : n < 0
  · simp only [condO_false, ilt_t h0, condO_true]
  · simp only [condO_false, ilt_f (show 0 ≤ n by omega), igt_t (show blen (mkB l) < n by rw [blen_mkB]; omega), condO_true]
theorem take_spoilt (k : Nat) (s : ByteArray) (n : Int) : octet_Scan_take k (n, s, true) = some (str0, false, s, true) := by
  unfold octet_Scan_take
  simp only [condO_true]
theorem byteI (c : UInt8) : WK .i64 (c.toNat : Int) = (c.toNat : Int) := by
  have := byte_lt c
  exact wk_i64 (by omega) (by omega)
theorem long_loop (k : Nat) (hk : 8 < k) (l : List UInt8) (hl : l.length ≤ 8) {R : Type} (f : Int → Option R) :
    (loopK (H := Int × Int) (E := Int) k (fun h4 => condO (ilt h4.2 (blen (mkB l))) (guardO ((nn 8)) (guardO ((inR h4.2 (blen (mkB l)))) (some (.inl (((orK .u64 (shlK .u64 h4.1 8) (WK .u64 (sAt (mkB l) h4.2))), (WK .i64 (h4.2 + 1)))))))) (some (.inr (h4.1)))) ((0, 0))).bind f = f (bval l : Int) := by
  refine bind_of (a := (bval l : Int)) ?_ rfl
  refine loopK_run (fun i => ((bval (l.take i) : Int), (i : Int))) l.length (bval l : Int) k ?_ ?_ (by omega)
  · intro i hi
    have hb := byte_lt (l.getD i 0)
    have hv := bval_take_lt l i (by omega)
    simp only [blen_mkB, ilt_t (show (i : Int) < (l.length : Int) by omega), condO_true, sAt_mkB, Int.toNat_natCast]
    rw [guardO_pos (by decide), guardO_pos ⟨by omega, by omega⟩, wk_u64 (by omega) (by omega), wk_i64 (by omega) (by omega), or_shl (by omega) (by omega) (by omega) (by omega), bval_take l i hi]
    congr 3
  · simp only [blen_mkB, ilt_f (Int.le_refl _), condO_false, List.take_length]
theorem long_none (k : Nat) (hk : 8 < k) {l : List UInt8} (h : longL l = none) : ∃ t, octet_Scan_Long k (mkB l, false) = some (0, t, true) := by
  unfold octet_Scan_Long
  have lp : ∀ (t : ByteArray), (loopK (H := Int × Int) (E := Int) k (fun h4 => condO (ilt h4.2 (blen str0)) (guardO ((nn 8)) (guardO ((inR h4.2 (blen str0))) (some (.inl (((orK .u64 (shlK .u64 h4.1 8) (WK .u64 (sAt str0 h4.2))), (WK .i64 (h4.2 + 1)))))))) (some (.inr (h4.1)))) ((0, 0))).bind (fun r4 => some (r4, t, true)) = some (0, t, true) := fun t => long_loop k hk [] (by decide) _
  cases l with
  | nil =>
    rw [take_bad k (.inr (by decide))]
    exact ⟨_, rfl⟩
  | cons c r =>
    rw [take_ok k (by decide) (by simp; omega)]
    simp only [Option.bind_some, Bool.not_true, condO_false]
    have hc := byte_lt c
    rw [guardO_pos ⟨by decide, by rw [blen_mkB]; show (0 : Int) < ((1 : Nat) : Int); decide⟩]
    have e0 : sAt (mkB (List.take (1 : Int).toNat (c :: r))) 0 = (c.toNat : Int) := rfl
    have e1 : List.drop (1 : Int).toNat (c :: r) = r := rfl
    simp only [e0, e1, byteI]
    by_cases h8 : 8 < c.toNat
    · rw [igt_t (by omega), condO_true]
      simp only [Option.bind_some]
      rw [take_bad k (.inl (by decide))]
      simp only [Option.bind_some, condO_false, caseS_inr]
      exact ⟨_, lp _⟩
    · rw [igt_f (by omega), condO_false]
      simp only [Option.bind_some]
      by_cases hr : r.length < c.toNat
      · rw [take_bad k (.inr (by omega))]
        simp only [Option.bind_some, condO_false, caseS_inr]
        exact ⟨_, lp _⟩
      · have hz : 0 < c.toNat ∧ r.getD 0 0 = 0 := by
          simp only [longL] at h
          split at h
          · rename_i hh
            rcases hh with hh | hh | hh
            · omega
            · omega
            · exact hh
          · cases h
        rw [take_ok k (by omega) (by omega)]
        simp only [Option.bind_some, condO_true]
        rw [igt_t (by omega), condO_true, guardO_pos ⟨by decide, by rw [blen_mkB, List.length_take]; omega⟩]
        have e2 : sAt (mkB (List.take (c.toNat : Int).toNat r)) 0 = 0 := by
          rw [sAt_mkB, Int.toNat_natCast]
          show (((r.take c.toNat).getD 0 0).toNat : Int) = 0
          rw [List.getD_eq_getElem?_getD, List.getElem?_take_of_lt hz.1, ← List.getD_eq_getElem?_getD, hz.2]
          rfl
        rw [e2, ieq_t rfl, condO_true, take_bad k (.inl (by decide))]
        simp only [Option.bind_some, caseS_inl]
        exact ⟨_, rfl⟩
theorem long_some (k : Nat) (hk : 8 < k) {l r : List UInt8} {n : Nat} (h : longL l = some (n, r)) : octet_Scan_Long k (mkB l, false) = some ((n : Int), mkB r, false) := by
  unfold octet_Scan_Long
  cases l with
  | nil => simp [longL] at h
  | cons c r0 =>
    simp only [longL] at h
    split at h
    · cases h
    · rename_i hn
      simp only [Option.some.injEq, Prod.mk.injEq] at h
      obtain ⟨rfl, rfl⟩ := h
      have hn : ¬ 8 < c.toNat ∧ ¬ r0.length < c.toNat ∧ (0 < c.toNat → r0.getD 0 0 ≠ 0) := ⟨fun g => hn (.inl g), fun g => hn (.inr (.inl g)), fun g1 g2 => hn (.inr (.inr ⟨g1, g2⟩))⟩
      have hc := byte_lt c
      rw [take_ok k (by decide) (by simp; omega)]
      simp only [Option.bind_some, Bool.not_true, condO_false]
      rw [guardO_pos ⟨by decide, by rw [blen_mkB]; show (0 : Int) < ((1 : Nat) : Int); decide⟩]
      have e0 : sAt (mkB (List.take (1 : Int).toNat (c :: r0))) 0 = (c.toNat : Int) := rfl
      have e1 : List.drop (1 : Int).toNat (c :: r0) = r0 := rfl
      simp only [e0, e1, byteI]
      rw [igt_f (by omega), condO_false]
      simp only [Option.bind_some]
      rw [take_ok k (by omega) (by omega)]
      simp only [Option.bind_some, condO_true, Int.toNat_natCast]
      have hl := long_loop k hk (r0.take c.toNat) (by rw [List.length_take]; omega) (fun r4 => some (r4, mkB (r0.drop c.toNat), false))
      by_cases h0 : 0 < c.toNat
      · rw [igt_t (by omega), condO_true, guardO_pos ⟨by decide, by rw [blen_mkB, List.length_take]; omega⟩]
        have e2 : ieq (sAt (mkB (List.take c.toNat r0)) 0) 0 = false := by
          refine ieq_f ?_
          rw [sAt_mkB]
          show (((r0.take c.toNat).getD 0 0).toNat : Int) ≠ 0
          rw [List.getD_eq_getElem?_getD, List.getElem?_take_of_lt h0, ← List.getD_eq_getElem?_getD]
          intro g
          exact hn.2.2 h0 (by
            apply UInt8.toNat_inj.1
            have : (0 : UInt8).toNat = 0 := rfl
            omega)
        rw [e2, condO_false]
        simp only [Option.bind_some, caseS_inr]
        exact hl
      · rw [igt_f (by omega), condO_false]
        simp only [Option.bind_some, caseS_inr]
        exact hl
theorem long_spoilt (k : Nat) (s : ByteArray) : octet_Scan_Long k (s, true) = some (0, s, true) := by
  unfold octet_Scan_Long
  rw [take_spoilt]
  rfl
/-! ### numbers up to a bound, and texts -/
def numL (most : Int) (l : List UInt8) : Option (Nat × List UInt8) := (longL l).bind fun x => if most < 0 ∨ most < x.1 then none else some x
theorem num_none (k : Nat) (hk : 8 < k) {l : List UInt8} {most : Int} (hm : most ≤ 9223372036854775807) (h : numL most l = none) : ∃ t, octet_Scan_Num k (most, mkB l, false) = some (0, t, true) := by
  unfold octet_Scan_Num
  cases hL : longL l with
  | none =>
    obtain ⟨t, ht⟩ := long_none k hk hL
    simp only [ht, Option.bind_some, take_spoilt]
    by_cases h0 : most < 0
    · rw [ilt_t h0]; exact ⟨_, rfl⟩
    · rw [ilt_f (by omega), condO_false, igt_f (by rw [wk_u64 (by omega) (by omega)]; omega), condO_false]
      exact ⟨t, rfl⟩
  | some x =>
    obtain ⟨n, r⟩ := x
    simp only [long_some k hk hL, Option.bind_some]
    simp only [numL, hL, Option.bind_some] at h
    have hb : most < 0 ∨ most < (n : Int) := by
      by_cases g : most < 0 ∨ most < (n : Int)
      · exact g
      · rw [if_neg g] at h; cases h
    rw [take_bad k (.inl (by decide))]
    by_cases h0 : most < 0
    · rw [ilt_t h0]; exact ⟨_, rfl⟩
    · rw [ilt_f (by omega), condO_false, igt_t (by rw [wk_u64 (by omega) (by omega)]; omega)]; exact ⟨_, rfl⟩
theorem num_some (k : Nat) (hk : 8 < k) {l r : List UInt8} {n : Nat} {most : Int} (hm : most ≤ 9223372036854775807) (h : numL most l = some (n, r)) : octet_Scan_Num k (most, mkB l, false) = some ((n : Int), mkB r, false) ∧ longL l = some (n, r) ∧ (n : Int) ≤ most := by
  unfold octet_Scan_Num
  cases hL : longL l with
  | none => simp [numL, hL] at h
  | some x =>
    obtain ⟨n', r'⟩ := x
    simp only [numL, hL, Option.bind_some] at h
    split at h
    · cases h
    · rename_i g
      simp only [Option.some.injEq, Prod.mk.injEq] at h
      obtain ⟨rfl, rfl⟩ := h
      have g : ¬ most < 0 ∧ ¬ most < (n' : Int) := ⟨fun a => g (.inl a), fun a => g (.inr a)⟩
      simp only [long_some k hk hL, Option.bind_some]
      refine ⟨?_, trivial, by omega⟩
      rw [ilt_f (by omega), condO_false, igt_f (by rw [wk_u64 (by omega) (by omega)]; omega), condO_false, wk_i64 (by omega) (by omega)]
def textL (most : Int) (l : List UInt8) : Option (List UInt8 × List UInt8) := (numL most l).bind fun x => if x.2.length < x.1 then none else some (x.2.take x.1, x.2.drop x.1)
theorem text_none (k : Nat) (hk : 8 < k) {l : List UInt8} {most : Int} (hm : most ≤ 9223372036854775807) (h : textL most l = none) : ∃ t, octet_Scan_Text k (most, mkB l, false) = some (str0, t, true) := by
  unfold octet_Scan_Text
  cases hL : numL most l with
  | none =>
    obtain ⟨t, ht⟩ := num_none k hk hm hL
    simp only [ht, Option.bind_some]
    exact ⟨t, rfl⟩
  | some x =>
    obtain ⟨n, r⟩ := x
    simp only [(num_some k hk hm hL).1, Option.bind_some]
    simp only [textL, hL, Option.bind_some] at h
    have hb : r.length < n := by
      by_cases g : r.length < n
      · exact g
      · rw [if_neg g] at h; cases h
    rw [take_bad k (.inr (by omega))]
    exact ⟨_, rfl⟩
theorem text_some (k : Nat) (hk : 8 < k) {l t r : List UInt8} {most : Int} (hm : most ≤ 9223372036854775807) (h : textL most l = some (t, r)) : octet_Scan_Text k (most, mkB l, false) = some (mkB t, mkB r, false) ∧ (t.length : Int) ≤ most := by
  unfold octet_Scan_Text
  cases hL : numL most l with
  | none => simp [textL, hL] at h
  | some x =>
    obtain ⟨n, r'⟩ := x
    simp only [textL, hL, Option.bind_some] at h
    split at h
    · cases h
    · rename_i g
      simp only [Option.some.injEq, Prod.mk.injEq] at h
      obtain ⟨rfl, rfl⟩ := h
      have := num_some k hk hm hL
      simp only [this.1, Option.bind_some]
      rw [take_ok k (by omega) (by omega)]
      refine ⟨by simp, ?_⟩
      rw [List.length_take]
      have := this.2.2
      omega
end Go.Proofs.Ytlbidinmgabjbaa
/- Octets: the document's reader, and what puts numbers. No condition. -/
set_option linter.unusedVariables false
set_option linter.unusedSimpArgs false
namespace Go.Proofs.Ytlbidinmgabjbaa
open Go
theorem sAt_app (p l : List UInt8) (i : Int) (j : Nat) (h : i = (p.length : Int) + (j : Int)) : sAt (mkB (p ++ l)) i = ((l.getD j 0).toNat : Int) := by
  rw [sAt_mkB, show i.toNat = p.length + j by omega, List.getD_eq_getElem?_getD, List.getElem?_append_right (by omega), Nat.add_sub_cancel_left, ← List.getD_eq_getElem?_getD]
theorem rlong_none (k : Nat) {p l : List UInt8} (hs : (p ++ l).length < 4611686018427387904) (h : longL l = none) : ∃ a, ref01_Scan_Long k (mkB (p ++ l), (p.length : Int), false) = some (0, mkB (p ++ l), a, true) := by
  unfold ref01_Scan_Long
  simp only [condO_false]
  cases l with
  | nil =>
    rw [ige_t (by rw [blen_mkB, List.append_nil]; omega), condO_true]
    exact ⟨_, rfl⟩
  | cons c r =>
    have hlen : ((p ++ c :: r).length : Int) = p.length + r.length + 1 := by simp; omega
    rw [ige_f (by rw [blen_mkB]; omega), condO_false, guardO_pos ⟨by omega, by rw [blen_mkB]; omega⟩]
    rw [sAt_app p (c :: r) p.length 0 (by omega), blen_mkB, hlen]
    have hc := byte_lt c
    simp only [List.getD_cons_zero, byteI]
    by_cases h8 : 8 < c.toNat
    · rw [igt_t (by omega), condO_true]; exact ⟨_, rfl⟩
    · rw [igt_f (by omega), condO_false, wk_i64 (x := (p.length : Int) + r.length + 1 - p.length) (by omega) (by omega), wk_i64 (by omega) (by omega)]
      by_cases hr : r.length < c.toNat
      · rw [ilt_t (by omega), condO_true]; exact ⟨_, rfl⟩
      · rw [ilt_f (by omega), condO_false]
        have hz : 0 < c.toNat ∧ r.getD 0 0 = 0 := by
          simp only [longL] at h
          split at h
          · rename_i hh
            rcases hh with hh | hh | hh
            · omega
            · omega
            · exact hh
          · cases h
        rw [igt_t (by omega), condO_true, wk_i64 (by omega) (by omega), guardO_pos ⟨by omega, by omega⟩, sAt_app p (c :: r) (p.length + 1) 1 (by omega)]
        rw [ieq_t (show (((c :: r).getD 1 0).toNat : Int) = 0 by
          show ((r.getD 0 0).toNat : Int) = 0
          rw [hz.2]; rfl), condO_true]
        exact ⟨_, rfl⟩
theorem rlong_some (k : Nat) (hk : 8 < k) {p l r : List UInt8} {n : Nat} (hs : (p ++ l).length < 4611686018427387904) (h : longL l = some (n, r)) : ∃ q, q ++ r = p ++ l ∧ ref01_Scan_Long k (mkB (p ++ l), (p.length : Int), false) = some ((n : Int), mkB (p ++ l), (q.length : Int), false) := by
  unfold ref01_Scan_Long
  simp only [condO_false]
  cases l with
  | nil => simp [longL] at h
  | cons c r0 =>
    simp only [longL] at h
    split at h
    · cases h
    · rename_i hn
      simp only [Option.some.injEq, Prod.mk.injEq] at h
      obtain ⟨rfl, rfl⟩ := h
      have hn : ¬ 8 < c.toNat ∧ ¬ r0.length < c.toNat ∧ (0 < c.toNat → r0.getD 0 0 ≠ 0) := ⟨fun g => hn (.inl g), fun g => hn (.inr (.inl g)), fun g1 g2 => hn (.inr (.inr ⟨g1, g2⟩))⟩
      have hc := byte_lt c
      have hlen : ((p ++ c :: r0).length : Int) = p.length + r0.length + 1 := by simp; omega
      refine ⟨p ++ c :: r0.take c.toNat, by simp, ?_⟩
      rw [ige_f (by rw [blen_mkB]; omega), condO_false, guardO_pos ⟨by omega, by rw [blen_mkB]; omega⟩]
      rw [sAt_app p (c :: r0) p.length 0 (by omega)]
      simp only [List.getD_cons_zero, byteI]
      have loop : ∀ {R : Type} (f : Int → Option R), (loopK (H := Int × Int) (E := Int) k (fun h1 => condO (ile h1.2 (c.toNat : Int)) (guardO ((inR (WK .i64 ((p.length : Int) + h1.2)) (blen (mkB (p ++ c :: r0))))) (some (.inl (((WK .u64 ((WK .u64 (h1.1 * 256)) + (WK .u64 (sAt (mkB (p ++ c :: r0)) (WK .i64 ((p.length : Int) + h1.2)))))), (WK .i64 (h1.2 + 1))))))) (some (.inr (h1.1)))) ((0, 1))).bind f = f (bval (r0.take c.toNat) : Int) := by
        intro R f
        refine bind_of (a := (bval (r0.take c.toNat) : Int)) ?_ rfl
        refine loopK_run (fun i => ((bval (r0.take i) : Int), (i : Int) + 1)) c.toNat _ k ?_ ?_ (by omega)
        · intro i hi
          have hb := byte_lt (r0.getD i 0)
          have hv := bval_take_lt r0 i (by omega)
          simp only [ile_t (show (i : Int) + 1 ≤ (c.toNat : Int) by omega), condO_true]
          rw [wk_i64 (x := (p.length : Int) + ((i : Int) + 1)) (by omega) (by omega), guardO_pos ⟨by omega, by rw [blen_mkB]; omega⟩, sAt_app p (c :: r0) _ (i + 1) (by omega), wk_i64 (by omega) (by omega)]
          simp only [List.getD_cons_succ]
          rw [wk_u64 (x := (bval (List.take i r0) : Int) * 256) (by omega) (by omega), wk_u64 (x := ((r0.getD i 0).toNat : Int)) (by omega) (by omega), wk_u64 (by omega) (by omega), bval_take r0 i (by omega)]
          congr 3
        · simp only [ile_f (show (c.toNat : Int) < (c.toNat : Int) + 1 by omega), condO_false]
      rw [igt_f (by omega), condO_false]
      rw [show WK .i64 (WK .i64 (blen (mkB (p ++ c :: r0)) - (p.length : Int)) - 1) = (r0.length : Int) by
        rw [blen_mkB, hlen, wk_i64 (x := (p.length : Int) + r0.length + 1 - p.length) (by omega) (by omega), wk_i64 (by omega) (by omega)]; omega]
      rw [ilt_f (by omega), condO_false]
      have fin : WK .i64 (WK .i64 ((p.length : Int) + 1) + (c.toNat : Int)) = ((p ++ c :: r0.take c.toNat).length : Int) := by
        have e : ((p ++ c :: r0.take c.toNat).length : Int) = p.length + (c.toNat + 1) := by
          rw [List.length_append, List.length_cons, List.length_take]; omega
        rw [e, wk_i64 (x := (p.length : Int) + 1) (by omega) (by omega), wk_i64 (by omega) (by omega)]; omega
      by_cases h0 : 0 < c.toNat
      · rw [igt_t (by omega), condO_true, wk_i64 (x := (p.length : Int) + 1) (by omega) (by omega), guardO_pos ⟨by omega, by rw [blen_mkB]; omega⟩, sAt_app p (c :: r0) (p.length + 1) 1 (by omega)]
        rw [ieq_f (show (((c :: r0).getD 1 0).toNat : Int) ≠ 0 by
          show ((r0.getD 0 0).toNat : Int) ≠ 0
          intro g
          exact hn.2.2 h0 (by
            apply UInt8.toNat_inj.1
            have : (0 : UInt8).toNat = 0 := rfl
            omega)), condO_false]
        simp only [Option.bind_some, caseS_inr]
        rw [loop]
        rw [fin]
      · rw [igt_f (by omega), condO_false]
        simp only [Option.bind_some, caseS_inr]
        rw [loop, fin]
theorem rnum_none (k : Nat) (hk : 8 < k) {p l : List UInt8} {most : Int} (hs : (p ++ l).length < 4611686018427387904) (hm : most ≤ 9223372036854775807) (h : numL most l = none) : ∃ a, ref01_Scan_Num k (most, mkB (p ++ l), (p.length : Int), false) = some (0, mkB (p ++ l), a, true) := by
  unfold ref01_Scan_Num
  cases hL : longL l with
  | none =>
    obtain ⟨a, ha⟩ := rlong_none k hs hL
    simp only [ha, Option.bind_some]
    refine ⟨a, ?_⟩
    cases ilt most 0 <;> cases igt 0 (WK .u64 most) <;> rfl
  | some x =>
    obtain ⟨n, r⟩ := x
    obtain ⟨q, _, hq⟩ := rlong_some k hk hs hL
    simp only [hq, Option.bind_some]
    simp only [numL, hL, Option.bind_some] at h
    have hb : most < 0 ∨ most < (n : Int) := by
      by_cases g : most < 0 ∨ most < (n : Int)
      · exact g
      · rw [if_neg g] at h; cases h
    by_cases h0 : most < 0
    · rw [ilt_t h0]; exact ⟨_, rfl⟩
    · rw [ilt_f (by omega), condO_false, igt_t (by rw [wk_u64 (by omega) (by omega)]; omega)]; exact ⟨_, rfl⟩
theorem rnum_some (k : Nat) (hk : 8 < k) {p l r : List UInt8} {n : Nat} {most : Int} (hs : (p ++ l).length < 4611686018427387904) (hm : most ≤ 9223372036854775807) (h : numL most l = some (n, r)) : ∃ q, q ++ r = p ++ l ∧ ref01_Scan_Num k (most, mkB (p ++ l), (p.length : Int), false) = some ((n : Int), mkB (p ++ l), (q.length : Int), false) := by
  unfold ref01_Scan_Num
  have hx := (num_some k hk hm h).2
  obtain ⟨q, q1, hq⟩ := rlong_some k hk hs hx.1
  refine ⟨q, q1, ?_⟩
  simp only [hq, Option.bind_some]
  rw [ilt_f (by omega), condO_false, igt_f (by rw [wk_u64 (by omega) (by omega)]; omega), condO_false]
  simp only [Option.bind_some, condO_false]
  rw [wk_i64 (by omega) (by omega)]
theorem rtext_none (k : Nat) (hk : 8 < k) {p l : List UInt8} {most : Int} (hs : (p ++ l).length < 4611686018427387904) (hm : most ≤ 9223372036854775807) (h : textL most l = none) : ∃ a, ref01_Scan_Text k (most, mkB (p ++ l), (p.length : Int), false) = some (str0, mkB (p ++ l), a, true) := by
  unfold ref01_Scan_Text
  cases hL : numL most l with
  | none =>
    obtain ⟨a, ha⟩ := rnum_none k hk hs hm hL
    simp only [ha, Option.bind_some, condO_true]
    exact ⟨a, rfl⟩
  | some x =>
    obtain ⟨n, r⟩ := x
    obtain ⟨q, q1, hq⟩ := rnum_some k hk hs hm hL
    simp only [hq, Option.bind_some, condO_false]
    simp only [textL, hL, Option.bind_some] at h
    have hb : r.length < n := by
      by_cases g : r.length < n
      · exact g
      · rw [if_neg g] at h; cases h
    have hl := congrArg List.length q1
    simp only [List.length_append] at hl hs
    rw [blen_mkB, List.length_append, wk_i64 (by omega) (by omega), ilt_t (by omega), condO_true]
    exact ⟨_, rfl⟩
theorem rtext_some (k : Nat) (hk : 8 < k) {p l t r : List UInt8} {most : Int} (hs : (p ++ l).length < 4611686018427387904) (hm : most ≤ 9223372036854775807) (h : textL most l = some (t, r)) : ∃ q, q ++ r = p ++ l ∧ ref01_Scan_Text k (most, mkB (p ++ l), (p.length : Int), false) = some (mkB t, mkB (p ++ l), (q.length : Int), false) := by
  unfold ref01_Scan_Text
  cases hL : numL most l with
  | none => simp [textL, hL] at h
  | some x =>
    obtain ⟨n, r'⟩ := x
    simp only [textL, hL, Option.bind_some] at h
    split at h
    · cases h
    · rename_i g
      simp only [Option.some.injEq, Prod.mk.injEq] at h
      obtain ⟨rfl, rfl⟩ := h
      obtain ⟨q, q1, hq⟩ := rnum_some k hk hs hm hL
      refine ⟨q ++ r'.take n, by rw [List.append_assoc, List.take_append_drop]; exact q1, ?_⟩
      simp only [hq, Option.bind_some, condO_false]
      have hl := congrArg List.length q1
      simp only [List.length_append] at hl hs
      have e : ((q ++ r'.take n).length : Int) = q.length + n := by rw [List.length_append, List.length_take]; omega
      rw [blen_mkB, List.length_append, wk_i64 (x := ((p.length + l.length : Nat) : Int) - q.length) (by omega) (by omega), ilt_f (by omega), condO_false, wk_i64 (by omega) (by omega), guardO_pos ⟨by omega, by omega, by omega⟩, e]
      congr 2
      apply bytes_ext
      rw [← q1]
      simp [scut, ByteArray.data_extract, List.extract]
      rw [show ((q.length : Int) + (n : Int)).toNat - q.length = n by omega]
end Go.Proofs.Ytlbidinmgabjbaa
/- Octets: what puts numbers. No condition. -/
set_option linter.unusedVariables false
set_option linter.unusedSimpArgs false
namespace Go.Proofs.Ytlbidinmgabjbaa
open Go
def byI (l : List UInt8) : List Int := l.map fun b => (b.toNat : Int)
theorem byI_nums (l : List UInt8) : strOfNums (byI l) = mkB l := by
  rw [nums_mkB, byI, List.map_map]
  congr 1
  conv => rhs; rw [← List.map_id l]
  refine List.map_congr_left (fun b _ => ?_)
  simp
theorem byte_mod (x : Nat) : ((UInt8.ofNat (x % 256)).toNat : Int) = ((x % 256 : Nat) : Int) := by simp
theorem rput_ok (k : Nat) (hk : 8 < k) {x : Nat} (h : x < 18446744073709551616) : ref01_Put k (x : Int) = some (mkB (putL x)) := by
  unfold ref01_Put
  have hw := wdt_le h
  have big : ∀ i, i < wdt x → 0 < x / 256 ^ i := by
    intro i
    have gen : ∀ i x, x < 18446744073709551616 → i < wdt x → 0 < x / 256 ^ i := by
      intro i
      induction i with
      | zero =>
        intro x h hi
        rw [Nat.pow_zero, Nat.div_one]
        refine Nat.pos_of_ne_zero ?_
        rintro rfl
        rw [wdt_zero] at hi; omega
      | succ i ih =>
        intro x h hi
        have h0 : x ≠ 0 := by
          rintro rfl
          rw [wdt_zero] at hi; omega
        rw [wdt_step h0 h] at hi
        have := ih (x / 256) (by omega) (by omega)
        rw [Nat.div_div_eq_div_mul, ← Nat.pow_succ'] at this
        exact this
    exact gen i x h
  have zero : x / 256 ^ wdt x = 0 := by
    have gen : ∀ n x, x < 18446744073709551616 → wdt x = n → x / 256 ^ n = 0 := by
      intro n
      induction n with
      | zero =>
        intro x h hn
        by_cases h0 : x = 0
        · subst h0; rfl
        · rw [wdt_step h0 h] at hn; omega
      | succ n ih =>
        intro x h hn
        have h0 : x ≠ 0 := by
          rintro rfl
          rw [wdt_zero] at hn; omega
        rw [wdt_step h0 h] at hn
        have := ih (x / 256) (by omega) (by omega)
        rw [Nat.div_div_eq_div_mul, ← Nat.pow_succ'] at this
        exact this
    exact gen _ x h rfl
  have hpw : ∀ i, x / 256 ^ i ≤ x := fun i => Nat.div_le_self _ _
  refine bind_of (a := mkB (digs (wdt x) x)) ?_ ?_
  · refine Eq.trans (congrArg (loopK k _) (show ((x : Int), str0) = (((x / 256 ^ 0 : Nat) : Int), mkB (digs 0 x)) by rw [Nat.pow_zero, Nat.div_one]; rfl)) (loopK_run (fun i => (((x / 256 ^ i : Nat) : Int), mkB (digs i x))) (wdt x) _ k ?_ ?_ (by omega))
    · intro i hi
      have h1 := big i hi
      have h2 := hpw i
      have e : ((x / 256 ^ i : Nat) : Int).tmod 256 = ((x / 256 ^ i % 256 : Nat) : Int) := by
        rw [Int.tmod_eq_emod_of_nonneg (by omega)]; omega
      have e2 : ((x / 256 ^ i : Nat) : Int).tdiv 256 = ((x / 256 ^ (i + 1) : Nat) : Int) := by
        rw [Int.tdiv_eq_ediv_of_nonneg (by omega), Nat.pow_succ, ← Nat.div_div_eq_div_mul]; omega
      have h3 := hpw (i + 1)
      obtain ⟨z, hz⟩ : ∃ z, z = x / 256 ^ (i + 1) := ⟨_, rfl⟩
      rw [← hz] at e2 h3
      simp only [igt_t (show (0 : Int) < ((x / 256 ^ i : Nat) : Int) by omega), condO_true]
      rw [guardO_pos (by decide), e, e2, wk_u8 (by omega) (by omega), wk_u64 (by omega) (by omega)]
      have e3 : strOfNums [((x / 256 ^ i % 256 : Nat) : Int)] = mkB [UInt8.ofNat (x / 256 ^ i % 256)] := rfl
      rw [e3, mkB_app, guardO_pos (by
        unfold catOk
        rw [mkB_size, mkB_size, digs_len]
        have : [UInt8.ofNat (x / 256 ^ i % 256)].length = 1 := rfl
        omega), guardO_pos (by decide), hz]
      rw [digs_cons]
      rfl
    · simp only [zero]
      rfl
  · have hc : ((wdt x : Nat) : Int) = WK .u8 (blen (mkB (digs (wdt x) x))) := by
      rw [blen_mkB, digs_len, wk_u8 (by omega) (by omega)]
    rw [← hc]
    have e3 : strOfNums [((wdt x : Nat) : Int)] = mkB [UInt8.ofNat (wdt x)] := rfl
    rw [e3, mkB_app, guardO_pos (by
      unfold catOk
      rw [mkB_size, mkB_size, digs_len]
      have : [UInt8.ofNat (wdt x)].length = 1 := rfl
      omega)]
    rfl
theorem shr_byte (x i : Nat) (hi : i < 8) : WK .u8 (shrK .u64 (x : Int) (8 * (i : Int))) = ((x / 256 ^ i % 256 : Nat) : Int) := by
  have e : shrK .u64 (x : Int) (8 * (i : Int)) = ((x / 256 ^ i : Nat) : Int) := by
    show Int.fdiv (x : Int) (2 ^ (min (8 * (i : Int)).toNat 64)) = _
    have e2 : (2 : Int) ^ (8 * i) = ((256 ^ i : Nat) : Int) := by
      have h1 : (2 : Nat) ^ (8 * i) = 256 ^ i := by rw [Nat.pow_mul]
      rw [← h1, Int.natCast_pow]; rfl
    rw [show min (8 * (i : Int)).toNat 64 = 8 * i by omega, e2, Int.fdiv_eq_ediv_of_nonneg _ (Int.natCast_nonneg _)]
    exact (Int.natCast_ediv _ _).symm
  rw [e, wk_u8_mod]
  omega
theorem put_ok (k : Nat) (hk : 8 < k) {x : Nat} (h : x < 18446744073709551616) : octet_Put k (x : Int) = some (mkB (putL x)) := by
  unfold octet_Put
  have hw := wdt_le h
  have hb : Lib.bitLen x ≤ 64 := Lib.bitLen_le x 64 (by decide) (by simpa using h)
  have e0 : bits_Len64 k (x : Int) = some ((Lib.bitLen x : Nat) : Int) := by
    show L_math_bits_Len64 k (x : Int) = _
    unfold L_math_bits_Len64
    rw [guardO_pos ⟨by omega, by omega⟩, Int.toNat_natCast]
  rw [e0]
  simp only [Option.bind_some]
  have e1 : WK .i64 (Int.tdiv (WK .i64 (WK .i64 (((Lib.bitLen x : Nat) : Int) + 8) - 1)) 8) = ((wdt x : Nat) : Int) := by
    rw [wk_i64 (x := ((Lib.bitLen x : Nat) : Int) + 8) (by omega) (by omega), wk_i64 (x := ((Lib.bitLen x : Nat) : Int) + 8 - 1) (by omega) (by omega), Int.tdiv_eq_ediv_of_nonneg (by omega)]
    unfold wdt
    rw [wk_i64 (by omega) (by omega)]
    omega
  rw [e1]
  have e2 : WK .i64 (1 + ((wdt x : Nat) : Int)) = ((wdt x + 1 : Nat) : Int) := by
    rw [wk_i64 (by omega) (by omega)]; omega
  rw [e2, wk_u8 (x := ((wdt x : Nat) : Int)) (by omega) (by omega)]
  rw [guardO_pos (by decide), guardO_pos ⟨by omega, rfl, by omega, by omega⟩, guardO_pos ⟨by decide, by simp only [llen, lrep, List.length_replicate]; omega⟩]
  have e3 : lset (lrep ((wdt x + 1 : Nat) : Int) (0 : Int)) 0 ((wdt x : Nat) : Int) = ((wdt x : Nat) : Int) :: List.replicate (wdt x) 0 := by
    simp only [lset, lrep, Int.toNat_natCast, List.replicate_succ]
    rfl
  rw [e3]
  refine bind_of (a := byI (putL x)) ?_ (by rw [byI_nums])
  have hc : ((UInt8.ofNat (wdt x)).toNat : Int) = (wdt x : Int) := by
    have : (UInt8.ofNat (wdt x)).toNat = wdt x := by simp; omega
    rw [this]
  have fin : byI (putL x) = ((wdt x : Nat) : Int) :: (List.replicate (wdt x - wdt x) 0 ++ byI (digs (wdt x) x)) := by
    simp only [putL, byI, List.map_cons, hc, Nat.sub_self, List.replicate_zero, List.nil_append]
  have st : (((wdt x : Nat) : Int) :: List.replicate (wdt x) 0) = ((wdt x : Nat) : Int) :: (List.replicate (wdt x - 0) 0 ++ byI (digs 0 x)) := by
    simp [digs, byI]
  rw [st]
  refine loopK_run (fun i => ((i : Int), ((wdt x : Nat) : Int) :: (List.replicate (wdt x - i) 0 ++ byI (digs i x)))) (wdt x) _ k ?_ ?_ (by omega)
  · intro i hi
    have hlen : (((wdt x : Nat) : Int) :: (List.replicate (wdt x - i) 0 ++ byI (digs i x))).length = wdt x + 1 := by
      simp only [List.length_cons, List.length_append, List.length_replicate, byI, List.length_map, digs_len]; omega
    simp only [ilt_t (show (i : Int) < ((wdt x : Nat) : Int) by omega), condO_true]
    rw [wk_i64 (x := 8 * (i : Int)) (by omega) (by omega), guardO_pos (by omega), wk_i64 (x := ((wdt x : Nat) : Int) - (i : Int)) (by omega) (by omega), guardO_pos ⟨by omega, by rw [llen, hlen]; omega⟩, wk_i64 (x := (i : Int) + 1) (by omega) (by omega), shr_byte x i (by omega)]
    congr 3
    obtain ⟨m, hm⟩ : ∃ m, wdt x - i = m + 1 := ⟨wdt x - i - 1, by omega⟩
    rw [show wdt x - (i + 1) = m by omega, hm]
    simp only [lset]
    rw [show (((wdt x : Nat) : Int) - (i : Int)).toNat = m + 1 by omega, List.set_cons_succ, List.replicate_succ', List.append_assoc, List.set_append_right _ _ (by simp), List.length_replicate, Nat.sub_self]
    rw [digs_cons]
    simp only [byI, List.map_cons, byte_mod, List.singleton_append, List.set_cons_zero]
  · simp only [ilt_f (Int.le_refl _), condO_false, fin]
end Go.Proofs.Ytlbidinmgabjbaa
/- Sectors made of texts, and opened. No condition. -/
set_option linter.unusedVariables false
set_option linter.unusedSimpArgs false
namespace Go.Proofs.Ytlbidinmgabjbaa
open Go
theorem rep_zeros : ∀ n, Lib.repeatL [0] n = List.replicate n (0 : UInt8)
  | 0 => rfl
  | n + 1 => by rw [Lib.repeatL, rep_zeros n, List.replicate_succ]; rfl
theorem srep_ok (k : Nat) {n : Int} (h0 : 0 ≤ n) (h1 : n ≤ 100000) : strings_Repeat k (⟨#[0]⟩, n) = some (mkB (List.replicate n.toNat 0)) := by
  show L_strings_Repeat k (⟨#[0]⟩, n) = _
  unfold L_strings_Repeat
  simp only
  rw [guardO_pos ⟨h0, by omega, by
    show 1 * n.toNat ≤ _
    omega⟩]
  rw [rep_zeros]
theorem nums_zeros (n : Nat) : strOfNums (List.replicate n 0) = mkB (List.replicate n 0) := by
  rw [nums_mkB, List.map_replicate]
  rfl
/-- The sector of a text. -/
def secL (l : List UInt8) : List UInt8 := putL l.length ++ l ++ List.replicate (256 - (putL l.length ++ l).length) 0
def secB (l : List UInt8) : ByteArray × Int := if 256 < (putL l.length ++ l).length then (str0, 11) else (mkB (secL l), 0)
theorem sfill_ok {l : List UInt8} (hl : l.length ≤ 300) : sector_Fill 1000 (mkB l) = some (secB l) := by
  have hw := wdt_le (x := l.length) (by omega)
  have hp : (putL l.length ++ l).length = wdt l.length + 1 + l.length := by rw [List.length_append, putL_len]
  unfold sector_Fill
  rw [blen_mkB, wk_u64 (by omega) (by omega), put_ok 1000 (by decide) (by omega)]
  simp only [Option.bind_some]
  rw [mkB_app, guardO_pos (by unfold catOk; rw [mkB_size, mkB_size, putL_len]; omega)]
  unfold secB
  rw [blen_mkB]
  by_cases h : 256 < (putL l.length ++ l).length
  · rw [if_pos h, igt_t (by omega), condO_true]
  · rw [if_neg h, igt_f (by omega), condO_false, wk_i64 (by omega) (by omega), srep_ok 1000 (by omega) (by omega)]
    simp only [Option.bind_some]
    rw [mkB_app, guardO_pos (by unfold catOk; rw [mkB_size, mkB_size, List.length_replicate]; omega), secL, show (256 - ((putL l.length ++ l).length : Int)).toNat = 256 - (putL l.length ++ l).length by omega]
theorem rfill_ok {l : List UInt8} (hl : l.length ≤ 300) : ref05_Fill 1000 (mkB l) = some (secB l) := by
  have hw := wdt_le (x := l.length) (by omega)
  have hp : (putL l.length ++ l).length = wdt l.length + 1 + l.length := by rw [List.length_append, putL_len]
  unfold ref05_Fill
  rw [blen_mkB, wk_u64 (by omega) (by omega), rput_ok 1000 (by decide) (by omega)]
  simp only [Option.bind_some]
  rw [mkB_app, guardO_pos (by unfold catOk; rw [mkB_size, mkB_size, putL_len]; omega)]
  unfold secB
  rw [blen_mkB]
  by_cases h : 256 < (putL l.length ++ l).length
  · rw [if_pos h, igt_t (by omega), condO_true]
  · rw [if_neg h, igt_f (by omega), condO_false, wk_i64 (by omega) (by omega)]
    have e : (256 - ((putL l.length ++ l).length : Int)).toNat = 256 - (putL l.length ++ l).length := by omega
    rw [guardO_pos ⟨by omega, rfl, by omega, by omega⟩, lrep, e, nums_zeros, mkB_app, guardO_pos (by unfold catOk; rw [mkB_size, mkB_size, List.length_replicate]; omega), secL]
/-- What opening comes to. -/
def secO (m : List UInt8) : ByteArray × Bool := match textL 256 m with
  | none => (str0, false)
  | some (t, _) => if (secB t).2 ≠ 0 then (str0, false) else if (secB t).1 ≠ mkB m then (str0, false) else (mkB t, true)
theorem open_tail (f : ByteArray × Int) (m : List UInt8) (t : ByteArray) : (condO (ine f.2 0) (some (str0, false)) (condO (!(sEq f.1 (mkB m))) (some (str0, false)) (some (t, true)))) = some (if f.2 ≠ 0 then (str0, false) else if f.1 ≠ mkB m then (str0, false) else (t, true)) := by
  by_cases h : f.2 = 0
  · rw [ine_f h, condO_false, if_neg (by simpa using h)]
    by_cases g : f.1 = mkB m
    · rw [g, sEq_self, if_neg (by simp)]; rfl
    · have : sEq f.1 (mkB m) = false := by
        rw [← Bool.not_eq_true]; intro e; exact g (sEq_iff.1 e)
      rw [this, if_pos g]; rfl
  · rw [ine_t h, condO_true, if_pos h]
theorem sopen_ok (m : List UInt8) : sector_Open 1000 (mkB m) = some (secO m) := by
  unfold sector_Open secO
  cases h : textL 256 m with
  | none =>
    obtain ⟨t, ht⟩ := text_none 1000 (by decide) (by decide) h
    simp only [ht, Option.bind_some]
    have := sfill_ok (l := []) (by decide)
    rw [show str0 = mkB [] from rfl, this]
    rfl
  | some x =>
    obtain ⟨t, r⟩ := x
    have ht := text_some 1000 (by decide) (by decide) h
    simp only [ht.1, Option.bind_some]
    rw [sfill_ok (by omega)]
    simp only [Option.bind_some, Bool.not_false, Bool.not_true, condO_false]
    exact open_tail _ _ _
theorem ropen_ok (m : List UInt8) (hm : m.length ≤ 300) : ref05_Open 1000 (mkB m) = some (secO m) := by
  unfold ref05_Open secO
  cases h : textL 256 m with
  | none =>
    obtain ⟨t, ht⟩ := rtext_none 1000 (by decide) (p := []) (by simp; omega) (by decide) h
    have ht : ref01_Scan_Text 1000 (256, mkB m, 0, false) = _ := ht
    simp only [ht, Option.bind_some]
    have := rfill_ok (l := []) (by decide)
    rw [show str0 = mkB [] from rfl, this]
    rfl
  | some x =>
    obtain ⟨t, r⟩ := x
    have hl := (text_some 1000 (by decide) (by decide) h).2
    obtain ⟨q, _, hq⟩ := rtext_some 1000 (by decide) (p := []) (by simp; omega) (by decide) h
    have hq : ref01_Scan_Text 1000 (256, mkB m, 0, false) = _ := hq
    simp only [hq, Option.bind_some]
    rw [rfill_ok (by omega)]
    simp only [Option.bind_some, condO_false]
    exact open_tail _ _ _
theorem text_put {l r : List UInt8} {most : Int} (h : (l.length : Int) ≤ most) (hl : l.length < 18446744073709551616) : textL most (putL l.length ++ l ++ r) = some (l, r) := by
  unfold textL numL
  rw [List.append_assoc, long_put hl]
  simp only [Option.bind_some]
  rw [if_neg (by omega)]
  simp only [Option.bind_some]
  rw [if_neg (by simp), List.take_left' rfl, List.drop_left' rfl]
theorem secB_small {l : List UInt8} (hl : l.length ≤ 253) : secB l = (mkB (secL l), 0) := by
  have hw : wdt l.length ≤ 1 := by
    by_cases h : l.length = 0
    · rw [h, wdt_zero]; decide
    · rw [wdt_step h (by omega), show l.length / 256 = 0 by omega, wdt_zero]; decide
  unfold secB
  rw [if_neg]
  rw [List.length_append, putL_len]; omega
theorem secB_len {l : List UInt8} {s : ByteArray} (h : secB l = (s, 0)) : s = mkB (secL l) ∧ (secL l).length = 256 ∧ l.length ≤ 256 := by
  unfold secB at h
  split at h
  · cases h
  · rename_i g
    simp only [Prod.mk.injEq] at h
    refine ⟨h.1.symm, ?_, ?_⟩
    · unfold secL
      rw [List.length_append, List.length_replicate]; omega
    · rw [List.length_append] at g; omega
theorem open_fill {l : List UInt8} (h : l.length ≤ 256) (h2 : (secB l).2 = 0) : secO (secL l) = (mkB l, true) := by
  unfold secO
  have e : textL 256 (secL l) = some (l, _) := text_put (by omega) (by omega)
  rw [e]
  simp only
  have := secB_len (l := l) (s := (secB l).1) (by rw [← h2])
  rw [if_neg (by simpa using h2), if_neg (by simpa using this.1)]
theorem short_cases (s : ByteArray) (n : Nat) : (igt (blen s) n = true ∧ cutOk 0 n (blen s) ∧ ∃ l, scut s 0 n = mkB l ∧ l.length ≤ n) ∨ (igt (blen s) n = false ∧ ∃ l, s = mkB l ∧ l.length ≤ n) := by
  rw [mkB_of s]
  by_cases h : n < s.data.toList.length
  · refine .inl ⟨igt_t (by rw [blen_mkB]; omega), ⟨by decide, by omega, by rw [blen_mkB]; omega⟩, _, scut_take _ _, ?_⟩
    rw [List.length_take]; omega
  · exact .inr ⟨igt_f (by rw [blen_mkB]; omega), _, rfl, by omega⟩
end Go.Proofs.Ytlbidinmgabjbaa
/- The plain law of SectorOne. No condition. -/
set_option linter.unusedVariables false
set_option linter.unusedSimpArgs false
namespace Go.Proofs.Ytlbidinmgabjbaa
open Go
def SectorOnePure : Prop := ∀ (z0 : Ty.den .str) (z1 : Ty.den .str) (z2 : Ty.den .str), wfT .str z0 → wfT .str z1 → wfT .str z2 → ∃ k, law05_SectorOne k (z0, z1, z2) = some true
theorem sec_inj {a b : List UInt8} (ha : a.length ≤ 253) (hb : b.length ≤ 253) (h : secL a = secL b) : a = b := by
  have e1 : textL 256 (secL a) = some (a, _) := text_put (by omega) (by omega)
  have e2 : textL 256 (secL b) = some (b, _) := text_put (by omega) (by omega)
  rw [h, e2] at e1
  simp only [Option.some.injEq, Prod.mk.injEq] at e1
  exact e1.1.symm
theorem one_core {a b m : List UInt8} (ha : a.length ≤ 253) (hb : b.length ≤ 253) (hm : m.length ≤ 300) : ((sector_Fill 1000 (mkB a)).bind fun r1 => (sector_Fill 1000 (mkB b)).bind fun r2 => (sector_Open 1000 (mkB m)).bind fun r3 => (condO r3.2 ((sector_Fill 1000 r3.1).bind fun r4 => condO (ine r4.2 0) (some (.inl false)) (condO (!(sEq r4.1 (mkB m))) (some (.inl false)) (some (.inr (()))))) (some (.inr (()))) : Option ((Bool) ⊕ (Unit))).bind fun r4 => caseS r4 (fun r4 => some (r4)) (fun r4 => condO true (condO (ieq r1.2 0) (condO (ieq r2.2 0) (condO (beq (sEq r1.1 r2.1) (sEq (mkB a) (mkB b))) (condO (!r3.2) (some (true)) (some ((ieq (blen (mkB m)) 256)))) (some (false))) (some (false))) (some (false))) (some (false)))) = some true := by
  rw [sfill_ok (by omega), sfill_ok (by omega), sopen_ok m, secB_small ha, secB_small hb]
  simp only [Option.bind_some]
  have q : beq (sEq (mkB (secL a)) (mkB (secL b))) (sEq (mkB a) (mkB b)) = true := by
    by_cases e : a = b
    · subst e; rw [sEq_self, sEq_self]; rfl
    · have n1 : sEq (mkB a) (mkB b) = false := by
        rw [← Bool.not_eq_true]; intro g; exact e (mkB_inj (sEq_iff.1 g))
      have n2 : sEq (mkB (secL a)) (mkB (secL b)) = false := by
        rw [← Bool.not_eq_true]; intro g; exact e (sec_inj ha hb (mkB_inj (sEq_iff.1 g)))
      rw [n1, n2]; rfl
  unfold secO
  cases h : textL 256 m with
  | none =>
    simp only [condO_false, Option.bind_some, caseS_inr, condO_true, q]
    rfl
  | some x =>
    obtain ⟨t, r⟩ := x
    have ht := (text_some 1000 (by decide) (by decide) h).2
    simp only
    by_cases h0 : (secB t).2 = 0
    · rw [if_neg (by simpa using h0)]
      by_cases h1 : (secB t).1 = mkB m
      · rw [if_neg (by simpa using h1)]
        simp only [condO_true]
        rw [sfill_ok (by omega)]
        simp only [Option.bind_some]
        rw [h0, h1, sEq_self]
        have hl := secB_len (l := t) (s := mkB m) (by rw [← h1, ← h0])
        have hm2 : m.length = 256 := by rw [mkB_inj hl.1]; exact hl.2.1
        rw [blen_mkB, hm2]
        simp only [q, show ine 0 0 = false from rfl, show (!true) = false from rfl, condO_false, Option.bind_some, caseS_inr]
        rfl
      · rw [if_pos h1]
        simp only [condO_false, Option.bind_some, caseS_inr, condO_true, q]
        rfl
    · rw [if_pos h0]
      simp only [condO_false, Option.bind_some, caseS_inr, condO_true, q]
      rfl
theorem sectorOne_law : SectorOnePure := by
  intro a b raw _ _ _
  refine ⟨1000, ?_⟩
  unfold law05_SectorOne
  simp only [awake_ok, Option.bind_some]
  have F : ∀ (s : ByteArray) (n : Nat) (N : Int), (n : Int) = N → (igt (blen s) N = true ∧ cutOk 0 N (blen s) ∧ ∃ l, scut s 0 N = mkB l ∧ l.length ≤ n) ∨ (igt (blen s) N = false ∧ ∃ l, s = mkB l ∧ l.length ≤ n) := by
    rintro s n _ rfl
    exact short_cases s n
  rcases F a 253 253 rfl with ⟨e1, c1, l, h1, hl⟩ | ⟨e1, l, rfl, hl⟩ <;> rcases F b 253 253 rfl with ⟨e2, c2, m, h2, hm⟩ | ⟨e2, m, rfl, hm⟩ <;> rcases F raw 300 300 rfl with ⟨e3, c3, r, h3, hr⟩ | ⟨e3, r, rfl, hr⟩
  · rw [e1, condO_true, guardO_pos c1, e2, condO_true, guardO_pos c2, e3, condO_true, guardO_pos c3, h1, h2, h3]
    exact one_core hl hm hr
  · rw [e1, condO_true, guardO_pos c1, e2, condO_true, guardO_pos c2, e3, condO_false, h1, h2]
    exact one_core hl hm hr
  · rw [e1, condO_true, guardO_pos c1, e2, condO_false, e3, condO_true, guardO_pos c3, h1, h3]
    exact one_core hl hm hr
  · rw [e1, condO_true, guardO_pos c1, e2, condO_false, e3, condO_false, h1]
    exact one_core hl hm hr
  · rw [e1, condO_false, e2, condO_true, guardO_pos c2, e3, condO_true, guardO_pos c3, h2, h3]
    exact one_core hl hm hr
  · rw [e1, condO_false, e2, condO_true, guardO_pos c2, e3, condO_false, h2]
    exact one_core hl hm hr
  · rw [e1, condO_false, e2, condO_false, e3, condO_true, guardO_pos c3, h3]
    exact one_core hl hm hr
  · rw [e1, condO_false, e2, condO_false, e3, condO_false]
    exact one_core hl hm hr
end Go.Proofs.Ytlbidinmgabjbaa
