/- Texts of the proof, put together: part 9. No condition. -/
import Derived.Test.YtlbidinmgabjbaaT8
/- Plain facts about what walks compute with. No condition. -/
set_option linter.unusedVariables false
set_option linter.unusedSimpArgs false
namespace Go.Proofs.Ytlbidinmgabjbaa
open Go
theorem wk_i64 {x : Int} (h1 : -9223372036854775808 ≤ x) (h2 : x ≤ 9223372036854775807) : WK .i64 x = x := wrap_i64 h1 h2
theorem wk_u64 {x : Int} (h1 : 0 ≤ x) (h2 : x ≤ 18446744073709551615) : WK .u64 x = x := by
  simp only [WK, IntKind.wrap, IntKind.bits, IntKind.signed]; simp; omega
theorem wk_u8 {x : Int} (h1 : 0 ≤ x) (h2 : x ≤ 255) : WK .u8 x = x := by
  simp only [WK, IntKind.wrap, IntKind.bits, IntKind.signed]; simp; omega
theorem wk_u8_mod (x : Int) : WK .u8 x = x % 256 := by
  simp only [WK, IntKind.wrap, IntKind.bits, IntKind.signed]; simp
theorem wk_u32_mod (x : Int) : WK .u32 x = x % 4294967296 := by
  simp only [WK, IntKind.wrap, IntKind.bits, IntKind.signed]; simp
theorem wk_u64_mod (x : Int) : WK .u64 x = x % 18446744073709551616 := by
  simp only [WK, IntKind.wrap, IntKind.bits, IntKind.signed]; simp
@[simp] theorem condO_true {α : Type} (x y : Option α) : condO true x y = x := rfl
@[simp] theorem condO_false {α : Type} (x y : Option α) : condO false x y = y := rfl
theorem condO_ite {α : Type} (b : Bool) (x y : Option α) : condO b x y = if b = true then x else y := by cases b <;> rfl
theorem condO_eq {α : Type} {b : Bool} {x y z : Option α} (h1 : b = true → x = z) (h2 : b = false → y = z) : condO b x y = z := by cases b <;> simp_all
@[simp] theorem caseS_inl {α β R : Type} (a : α) (f : α → R) (g : β → R) : caseS (.inl a) f g = f a := rfl
@[simp] theorem caseS_inr {α β R : Type} (b : β) (f : α → R) (g : β → R) : caseS (.inr b) f g = g b := rfl
theorem condO_app {α β : Type} (f : α → β) {b : Bool} {x y z : α} (h : condO b (some x) (some y) = some z) : condO b (some (f x)) (some (f y)) = some (f z) := by
  cases b <;> simp only [condO_true, condO_false, Option.some.injEq] at h ⊢ <;> rw [h]
theorem bind_of {α β : Type} {o : Option α} {f : α → Option β} {a : α} {r : Option β} (h : o = some a) (hf : f a = r) : o.bind f = r := by rw [h]; exact hf
/-! ### numbers told -/
theorem ieq_f {a b : Int} (h : a ≠ b) : ieq a b = false := by simpa using h
theorem ieq_t {a b : Int} (h : a = b) : ieq a b = true := by simpa using h
theorem ine_f {a b : Int} (h : a = b) : ine a b = false := by simpa using h
theorem ine_t {a b : Int} (h : a ≠ b) : ine a b = true := by simpa using h
theorem ilt_t {a b : Int} (h : a < b) : ilt a b = true := by simpa using h
theorem ilt_f {a b : Int} (h : b ≤ a) : ilt a b = false := by simpa using h
theorem ile_t {a b : Int} (h : a ≤ b) : ile a b = true := by simpa using h
theorem ile_f {a b : Int} (h : b < a) : ile a b = false := by simpa using h
theorem igt_t {a b : Int} (h : b < a) : igt a b = true := by simpa using h
theorem igt_f {a b : Int} (h : a ≤ b) : igt a b = false := by simpa using h
theorem ige_t {a b : Int} (h : b ≤ a) : ige a b = true := by simpa using h
theorem ige_f {a b : Int} (h : a < b) : ige a b = false := by simpa using h
/-! ### texts -/
theorem sEq_iff {a b : ByteArray} : sEq a b = true ↔ a = b := by
  unfold sEq
  constructor
  · intro h
    have h : a.data.toList = b.data.toList := by simpa using h
    exact Go.WideShapes.bytes_inj h
  · rintro rfl; simp
theorem sEq_self (a : ByteArray) : sEq a a = true := sEq_iff.2 rfl
theorem sEq_dec (a b : ByteArray) : sEq a b = decide (a.data.toList = b.data.toList) := by
  unfold sEq
  rw [Bool.eq_iff_iff]
  simp
theorem bytes_ext {a b : ByteArray} (h : a.data.toList = b.data.toList) : a = b := Go.WideShapes.bytes_inj h
@[simp] theorem size_strOfNums (l : List Int) : (strOfNums l).size = l.length := by simp [strOfNums, ByteArray.size]
@[simp] theorem size_app (a b : ByteArray) : (a ++ b).size = a.size + b.size := by simp
@[simp] theorem data_app (a b : ByteArray) : (a ++ b).data.toList = a.data.toList ++ b.data.toList := by simp
/-! ### lists -/
theorem at_get {t : Ty} {l : List t.den} {i : Int} (h0 : 0 ≤ i) (h1 : i < l.length) : at_ t l i = l[i.toNat]'(by omega) := by
  unfold at_
  rw [List.getD_eq_getElem?_getD, List.getElem?_eq_getElem (by omega)]
  rfl
theorem at_nat {t : Ty} {l : List t.den} {n : Nat} (h : n < l.length) : at_ t l (n : Int) = l[n] := by
  rw [at_get (by omega) (by omega)]
  congr 1
/-! ### loops -/
/-- A loop, by a measure and an invariant. -/
theorem loopK_inv {H E : Type} {step : H → Option (H ⊕ E)} (I : Nat → H → Prop) (Q : E → Prop)
    (hs : ∀ n h, I n h → (∃ h' m, step h = some (.inl h') ∧ m < n ∧ I m h') ∨ (∃ e, step h = some (.inr e) ∧ Q e)) : ∀ (n : Nat) (h : H), I n h → ∀ k, n < k → ∃ e, loopK k step h = some e ∧ Q e := by
  intro n
  induction n using Nat.strongRecOn with
  | _ n ih =>
    intro h hI k hk
    cases k with
    | zero => omega
    | succ k =>
      rcases hs n h hI with ⟨h', m, h1, h2, h3⟩ | ⟨e, h1, h2⟩
      · obtain ⟨e, he, hq⟩ := ih m h2 h' h3 k (by omega)
        exact ⟨e, by simp only [loopK, h1, Option.bind_some, caseS_inl]; exact he, hq⟩
      · exact ⟨e, by simp only [loopK, h1, Option.bind_some, caseS_inr], h2⟩
/-- A loop whose rounds are known. -/
theorem loopK_run {H E : Type} {step : H → Option (H ⊕ E)} (p : Nat → H) : ∀ (n : Nat) (e : E) (k : Nat), (∀ i < n, step (p i) = some (.inl (p (i + 1)))) → step (p n) = some (.inr e) → n < k → loopK k step (p 0) = some e := by
  intro n
  induction n generalizing p with
  | zero =>
    intro e k _ h2 hk
    cases k with
    | zero => omega
    | succ k => simp only [loopK, h2, Option.bind_some, caseS_inr]
  | succ n ih =>
    intro e k h1 h2 hk
    cases k with
    | zero => omega
    | succ k =>
      simp only [loopK, h1 0 (by omega), Option.bind_some, caseS_inl]
      exact ih (fun i => p (i + 1)) e k (fun i hi => h1 (i + 1) (by omega)) h2 (by omega)
/-- What a round may end with: another round with less to do, or the way out. -/
inductive Goes {H E : Type} (I : Nat → H → Prop) (Q : E → Prop) (n : Nat) : Option (H ⊕ E) → Prop
  | on {h' : H} (m : Nat) (lt : m < n) (i : I m h') : Goes I Q n (some (.inl h'))
  | out {e : E} (q : Q e) : Goes I Q n (some (.inr e))
theorem Goes.bind {H E S : Type} {I : Nat → H → Prop} {Q : E → Prop} {n : Nat} {o : Option S} {f : S → Option (H ⊕ E)} (P : S → Prop) (h : ∃ s, o = some s ∧ P s) (hf : ∀ s, P s → Goes I Q n (f s)) : Goes I Q n (o.bind f) := by
  obtain ⟨s, rfl, hp⟩ := h
  exact hf s hp
theorem loop_bind {H E R : Type} {step : H → Option (H ⊕ E)} {f : E → Option R} {r : Option R} {h0 : H} {k : Nat} (I : Nat → H → Prop) (Q : E → Prop) (n : Nat) (hk : n < k) (h : I n h0)
    (hs : ∀ n h, I n h → Goes I Q n (step h)) (hf : ∀ e, Q e → f e = r) : (loopK k step h0).bind f = r := by
  obtain ⟨e, he, hq⟩ := loopK_inv (step := step) I Q (fun n h hi => by
    have g := hs n h hi
    generalize step h = o at g ⊢
    cases g with
    | on m lt i => exact .inl ⟨_, m, rfl, lt, i⟩
    | out q => exact .inr ⟨_, rfl, q⟩) n h0 h k hk
  rw [he]
  exact hf e hq
theorem and_bound (x : Int) (m : Nat) (h : m < 4611686018427387904) : 0 ≤ andK .i64 x m ∧ andK .i64 x m ≤ m := by
  have e : (BitVec.ofInt IntKind.i64.bits x &&& BitVec.ofInt IntKind.i64.bits (m : Int)).toNat ≤ m := by
    rw [BitVec.toNat_and]
    refine Nat.le_trans Nat.and_le_right ?_
    rw [BitVec.toNat_ofInt]
    simp only [IntKind.bits]
    omega
  have w : andK .i64 x m = ((BitVec.ofInt IntKind.i64.bits x &&& BitVec.ofInt IntKind.i64.bits (m : Int)).toNat : Int) := wrap_i64 (by omega) (by omega)
  rw [w]
  omega
theorem iterL_congr {α H E : Type} {f g : H → α → Option (H ⊕ E)} : ∀ (l : List α) (h : H), (∀ h, ∀ a ∈ l, f h a = g h a) → iterL l f h = iterL l g h
  | [], h, _ => rfl
  | a :: l, h, hfg => by
    simp only [iterL]
    rw [hfg h a (List.mem_cons_self ..)]
    cases g h a with
    | none => rfl
    | some y => cases y with
      | inl h' => exact iterL_congr l h' (fun h b hb => hfg h b (List.mem_cons_of_mem _ hb))
      | inr e => rfl
theorem iterL_map {α β H E : Type} (q : β → α) (f : H → α → Option (H ⊕ E)) : ∀ (l : List β) (h : H), iterL (l.map q) f h = iterL l (fun h b => f h (q b)) h
  | [], h => rfl
  | b :: l, h => by
    simp only [List.map_cons, iterL]
    cases f h (q b) with
    | none => rfl
    | some y => cases y with
      | inl h' => exact iterL_map q f l h'
      | inr e => rfl
theorem foldL_map {α β H : Type} (q : β → α) (f : H → α → Option H) : ∀ (l : List β) (h : H), foldL (l.map q) f h = foldL l (fun h b => f h (q b)) h
  | [], h => rfl
  | b :: l, h => by
    simp only [List.map_cons, foldL]
    cases f h (q b) with
    | none => rfl
    | some y => exact foldL_map q f l y
theorem backL_snd {α : Type} (l : List α) : (backL l).map (·.2) = l.reverse := by
  simp [backL, List.map_reverse, List.map_map, Function.comp_def]
/-- Rounds that look at the elements alone. -/
theorem iterL_back {α H E : Type} (l : List α) (f : H → α → Option (H ⊕ E)) (h : H) : iterL (backL l) (fun h p => f h p.2) h = iterL l.reverse f h := by
  rw [← backL_snd, iterL_map]
theorem foldL_back {α H : Type} (l : List α) (f : H → α → Option H) (h : H) : foldL (backL l) (fun h p => f h p.2) h = foldL l.reverse f h := by
  rw [← backL_snd, foldL_map]
theorem foldL_pure {α H : Type} (f : H → α → H) : ∀ (l : List α) (h : H), foldL l (fun h a => some (f h a)) h = some (l.foldl f h)
  | [], h => rfl
  | a :: l, h => by simp only [foldL, Option.bind_some, List.foldl_cons]; exact foldL_pure f l (f h a)
end Go.Proofs.Ytlbidinmgabjbaa
/- The disk: what its calls compute. No condition. -/
set_option linter.unusedVariables false
set_option linter.unusedSimpArgs false
namespace Go.Proofs.Ytlbidinmgabjbaa
open Go
abbrev Put := Int × ByteArray
/-- May a step be done? -/
abbrev mayD (on armed : Bool) (left : Int) : Bool := on && !(armed && left == 0)
abbrev leftD (armed : Bool) (left : Int) : Int := if armed = true then WK .i64 (left - 1) else left
theorem step_spec (k : Nat) (on armed : Bool) (left steps : Int) (lies : List ByteArray) (cache : List Put) :
    sector_Disk_step k (on, armed, left, steps, lies, cache) = some (if mayD on armed left = true then (0, true, armed, leftD armed left, WK .i64 (steps + 1), lies, cache) else (14, false, armed, left, steps, lies, cache)) := by
  cases on <;> cases armed <;> by_cases h : left = 0 <;> simp [sector_Disk_step, mayD, leftD, h, ieq_f, ieq_t]
theorem write_ok (k : Nat) {a : Int} {s : ByteArray} {on armed : Bool} {left steps : Int} {lies : List ByteArray} {cache : List Put} (h0 : 0 ≤ a) (h1 : a < lies.length) (h2 : s.size = 256) (hc : cache.length < 1000000) :
    sector_Disk_Write k (a, s, on, armed, left, steps, lies, cache) = some (if mayD on armed left = true then (0, true, armed, leftD armed left, WK .i64 (steps + 1), lies, cache ++ [(a, s)]) else (14, false, armed, left, steps, lies, cache)) := by
  have e1 : ilt a 0 = false := ilt_f h0
  have e2 : ige a (llen lies) = false := ige_f h1
  have e3 : ine (blen s) 256 = false := ine_f (by rw [blen, h2]; rfl)
  unfold sector_Disk_Write
  simp only [e1, e2, e3, condO_false, step_spec, Option.bind_some]
  have hap : appOk cache ([(a, s)] : List Put) 24 := by
    unfold appOk; simp; omega
  by_cases hm : mayD on armed left = true
  · simp only [hm, if_true]
    rw [guardO_pos hap]
    simp
  · simp only [hm, Bool.false_eq_true, if_false]
    rfl
/-- What is known of a sector. -/
def rd (lies : List ByteArray) (cache : List Put) (a : Int) : ByteArray :=
  match cache.reverse.find? (fun p => p.1 == a) with
  | some p => p.2
  | none => lies.getD a.toNat str0
theorem find_iter (a : Int) : ∀ (l : List Put), iterL l (fun (_ : Unit) p => condO (ine p.1 a) (some (.inl ())) (some (.inr (p.2, (0 : Int))))) () = some (match l.find? (fun p => p.1 == a) with | some p => Sum.inr (p.2, 0) | none => .inl ())
  | [] => rfl
  | p :: l => by
    simp only [iterL, List.find?_cons]
    by_cases h : p.1 = a
    · simp [h]
    · have : (p.1 == a) = false := by simpa using h
      have h2 : ine p.1 a = true := by simpa using h
      simp only [this, h2, condO_true, Option.bind_some, caseS_inl]
      exact find_iter a l
theorem read_ok (k : Nat) {a : Int} {armed : Bool} {left steps : Int} {lies : List ByteArray} {cache : List Put} (h0 : 0 ≤ a) (h1 : a < lies.length) :
    sector_Disk_Read k (a, true, armed, left, steps, lies, cache) = some (rd lies cache a, 0) := by
  have e1 : ilt a 0 = false := ilt_f h0
  have e2 : ige a (llen lies) = false := ige_f h1
  unfold sector_Disk_Read
  simp only [e1, e2, condO_false, Bool.not_true]
  have := iterL_back cache (fun (_ : Unit) (p : Put) => condO (ine p.1 a) (some (Sum.inl ())) (some (.inr (p.2, (0 : Int))))) ()
  rw [this, find_iter]
  unfold rd
  cases hf : cache.reverse.find? (fun p => p.1 == a) with
  | none =>
    simp only [Option.bind_some, caseS_inl]
    rw [guardO_pos ⟨h0, h1⟩]
    rfl
  | some p => simp
theorem read_off (k : Nat) {a : Int} {armed : Bool} {left steps : Int} {lies : List ByteArray} {cache : List Put} (h0 : 0 ≤ a) (h1 : a < lies.length) :
    sector_Disk_Read k (a, false, armed, left, steps, lies, cache) = some (str0, 14) := by
  have e1 : ilt a 0 = false := ilt_f h0
  have e2 : ige a (llen lies) = false := ige_f h1
  unfold sector_Disk_Read
  simp only [e1, e2, condO_false, Bool.not_false, condO_true]
theorem read_arg (k : Nat) {a : Int} {on armed : Bool} {left steps : Int} {lies : List ByteArray} {cache : List Put} (h : a < 0 ∨ lies.length ≤ a) :
    sector_Disk_Read k (a, on, armed, left, steps, lies, cache) = some (str0, 1) := by
  unfold sector_Disk_Read
  by_cases h0 : a < 0
  · have e1 : ilt a 0 = true := by simpa using h0
    simp only [e1, condO_true]
  · have e1 : ilt a 0 = false := by simpa using h0
    have e2 : ige a (llen lies) = true := ige_t (by unfold llen; omega)
    simp only [e1, e2, condO_false, condO_true]
theorem peek_ok (k : Nat) {a : Int} {on armed : Bool} {left steps : Int} {lies : List ByteArray} {cache : List Put} (h0 : 0 ≤ a) (h1 : a < lies.length) :
    sector_Disk_Peek k (a, on, armed, left, steps, lies, cache) = some (lies.getD a.toNat str0) := by
  have e1 : ilt a 0 = false := ilt_f h0
  have e2 : ige a (llen lies) = false := ige_f h1
  unfold sector_Disk_Peek
  simp only [e1, e2, condO_false]
  rw [guardO_pos ⟨h0, h1⟩]
  rfl
theorem peek_arg (k : Nat) {a : Int} {on armed : Bool} {left steps : Int} {lies : List ByteArray} {cache : List Put} (h : a < 0 ∨ lies.length ≤ a) :
    sector_Disk_Peek k (a, on, armed, left, steps, lies, cache) = some str0 := by
  unfold sector_Disk_Peek
  by_cases h0 : a < 0
  · have e1 : ilt a 0 = true := by simpa using h0
    simp only [e1, condO_true]
  · have e1 : ilt a 0 = false := by simpa using h0
    have e2 : ige a (llen lies) = true := ige_t (by unfold llen; omega)
    simp only [e1, e2, condO_false, condO_true]
/-! ### what is settled -/
def setD (l : List ByteArray) (p : Put) : List ByteArray := l.set p.1.toNat p.2
def settle (lies : List ByteArray) (cache : List Put) : List ByteArray := cache.foldl setD lies
def pickD (picks : List Int) (l : List ByteArray) (q : Put × Nat) : List ByteArray := if q.2 < picks.length ∧ (picks.getD q.2 0).tmod 2 ≠ 0 then setD l q.1 else l
def settleP (picks : List Int) (lies : List ByteArray) (cache : List Put) : List ByteArray := cache.zipIdx.foldl (pickD picks) lies
theorem setD_len (l : List ByteArray) (p : Put) : (setD l p).length = l.length := by simp [setD]
theorem settle_len : ∀ (cache : List Put) (lies : List ByteArray), (settle lies cache).length = lies.length
  | [], _ => rfl
  | p :: c, l => by
    have := settle_len c (setD l p)
    simp only [settle, List.foldl_cons] at this ⊢
    rw [this, setD_len]
theorem pickD_len (picks : List Int) (l : List ByteArray) (q : Put × Nat) : (pickD picks l q).length = l.length := by
  unfold pickD; split
  · exact setD_len _ _
  · rfl
theorem foldP_len (picks : List Int) : ∀ (c : List (Put × Nat)) (lies : List ByteArray), (c.foldl (pickD picks) lies).length = lies.length
  | [], _ => rfl
  | p :: c, l => by rw [List.foldl_cons, foldP_len picks c, pickD_len]
theorem settleP_len (picks : List Int) (cache : List Put) (lies : List ByteArray) : (settleP picks lies cache).length = lies.length := foldP_len picks _ _
theorem take_succ_fold {α β : Type} (f : β → α → β) (l : List α) (b : β) (i : Nat) (h : i < l.length) : (l.take (i + 1)).foldl f b = f ((l.take i).foldl f b) l[i] := by
  rw [List.take_add_one, List.getElem?_eq_getElem h, List.foldl_append]; rfl
theorem settle2_ok (k : Nat) {on armed : Bool} {left steps : Int} {lies : List ByteArray} {cache : List Put} (hk : cache.length < k) (hl : cache.length < 1000000) (hr : ∀ p ∈ cache, 0 ≤ p.1 ∧ p.1 < lies.length) :
    sector_Disk_settle_2 k (on, armed, left, steps, lies, cache) = some (on, armed, left, steps, settle lies cache, []) := by
  unfold sector_Disk_settle_2
  refine bind_of (a := settle lies cache) ?_ rfl
  refine loopK_run (fun i => ((i : Int), (cache.take i).foldl setD lies)) cache.length (settle lies cache) k ?_ ?_ hk
  · intro i hlt
    have hp := hr cache[i] (List.getElem_mem hlt)
    have ea : at_ T0 cache (i : Int) = cache[i] := at_nat hlt
    have hlen : ((cache.take i).foldl setD lies).length = lies.length := settle_len _ _
    simp only [ilt_t (show (i : Int) < llen cache by unfold llen; omega), condO_true]
    rw [guardO_pos ⟨by omega, by unfold llen; omega⟩, ea, guardO_pos ⟨hp.1, by simp only [llen, hlen]; exact hp.2⟩, wk_i64 (by omega) (by omega), take_succ_fold setD cache lies i hlt]
    rfl
  · simp only [ilt_f (show llen cache ≤ (cache.length : Int) by unfold llen; omega), condO_false]
    rw [List.take_of_length_le (by omega)]; rfl
theorem settle1_ok (k : Nat) {on armed : Bool} {left steps : Int} {lies : List ByteArray} {cache : List Put} {picks : List Int} (hk : cache.length < k) (hl : cache.length < 1000000) (hr : ∀ p ∈ cache, 0 ≤ p.1 ∧ p.1 < lies.length) :
    sector_Disk_settle k (on, armed, left, steps, lies, cache, picks) = some (on, armed, left, steps, settleP picks lies cache, []) := by
  unfold sector_Disk_settle
  refine bind_of (a := settleP picks lies cache) ?_ rfl
  have hz : cache.zipIdx.length = cache.length := by simp
  refine loopK_run (fun i => ((i : Int), (cache.zipIdx.take i).foldl (pickD picks) lies)) cache.length (settleP picks lies cache) k ?_ ?_ hk
  · intro i hlt
    have hp := hr cache[i] (List.getElem_mem hlt)
    have ea : at_ T0 cache (i : Int) = cache[i] := at_nat hlt
    have hlen : ((cache.zipIdx.take i).foldl (pickD picks) lies).length = lies.length := foldP_len picks _ _
    have hzi : cache.zipIdx[i]'(by omega) = (cache[i], i) := by simp
    simp only [ilt_t (show (i : Int) < llen cache by unfold llen; omega), condO_true]
    rw [guardO_pos ⟨by omega, by unfold llen; omega⟩, wk_i64 (by omega) (by omega), take_succ_fold (pickD picks) cache.zipIdx lies i (by omega), hzi]
    by_cases hpl : i < picks.length
    · have eb : at_ (.int .i64) picks (i : Int) = picks[i] := at_nat (t := .int .i64) hpl
      simp only [ilt_t (show (i : Int) < llen picks by unfold llen; omega), condO_true]
      rw [guardO_pos ⟨by omega, by unfold llen; omega⟩, guardO_pos (by decide), eb]
      have eg : picks.getD i 0 = picks[i] := by simp [List.getD_eq_getElem?_getD, hpl]
      by_cases hm : picks[i].tmod 2 = 0
      · simp only [ine_f hm, condO_false]
        have : pickD picks ((cache.zipIdx.take i).foldl (pickD picks) lies) (cache[i], i) = (cache.zipIdx.take i).foldl (pickD picks) lies := by
          unfold pickD; rw [if_neg]; rw [eg]; simp [hm]
        rw [this]; rfl
      · simp only [ine_t hm, condO_true, ea]
        rw [guardO_pos ⟨hp.1, by simp only [llen, hlen]; exact hp.2⟩]
        have : pickD picks ((cache.zipIdx.take i).foldl (pickD picks) lies) (cache[i], i) = setD ((cache.zipIdx.take i).foldl (pickD picks) lies) cache[i] := by
          unfold pickD; rw [if_pos]; rw [eg]; exact ⟨hpl, hm⟩
        rw [this]; rfl
    · simp only [ilt_f (show llen picks ≤ (i : Int) by unfold llen; omega), condO_false]
      have : pickD picks ((cache.zipIdx.take i).foldl (pickD picks) lies) (cache[i], i) = (cache.zipIdx.take i).foldl (pickD picks) lies := by
        unfold pickD; rw [if_neg]; simp; omega
      rw [this]; rfl
  · simp only [ilt_f (show llen cache ≤ (cache.length : Int) by unfold llen; omega), condO_false]
    rw [List.take_of_length_le (by omega)]; rfl
theorem flush_ok (k : Nat) {on armed : Bool} {left steps : Int} {lies : List ByteArray} {cache : List Put} (h0 : 0 < lies.length) (hk : cache.length < k) (hl : cache.length < 1000000) (hr : ∀ p ∈ cache, 0 ≤ p.1 ∧ p.1 < lies.length) :
    sector_Disk_Flush k (on, armed, left, steps, lies, cache) = some (if mayD on armed left = true then (0, true, armed, leftD armed left, WK .i64 (steps + 1), settle lies cache, []) else (14, false, armed, left, steps, lies, cache)) := by
  have e1 : ieq (llen lies) 0 = false := ieq_f (by unfold llen; omega)
  unfold sector_Disk_Flush
  simp only [e1, condO_false, step_spec, Option.bind_some]
  by_cases hm : mayD on armed left = true
  · simp only [hm, if_true]
    have := settle2_ok k (on := true) (armed := armed) (left := leftD armed left) (steps := WK .i64 (steps + 1)) hk hl hr
    simp only [show ieq 0 0 = true by rfl, condO_true, this, Option.bind_some]
  · simp only [hm, Bool.false_eq_true, if_false]
    rfl
theorem crash_ok (k : Nat) {on armed : Bool} {left steps : Int} {lies : List ByteArray} {cache : List Put} {picks : List Int} (h0 : 0 < lies.length) (hk : cache.length < k) (hl : cache.length < 1000000) (hr : ∀ p ∈ cache, 0 ≤ p.1 ∧ p.1 < lies.length) :
    sector_Disk_Crash k (on, armed, left, steps, picks, lies, cache) = some (true, false, left, steps, settleP picks lies cache, []) := by
  have e1 : ieq (llen lies) 0 = false := ieq_f (by unfold llen; omega)
  unfold sector_Disk_Crash
  simp only [e1, condO_false]
  rw [settle1_ok k hk hl hr]
  rfl
/-! ### sectors of one byte -/
theorem put1 : ref01_Put 1000 1 = some ⟨#[1, 1]⟩ := by kernel_rfl
theorem fill1 (l : List Int) (h : l.length = 1) : ref05_Fill 1000 (strOfNums l) = some ((⟨#[1, 1]⟩ : ByteArray) ++ strOfNums l ++ strOfNums (List.replicate 253 0), 0) := by
  have hs : (strOfNums l).size = 1 := by rw [size_strOfNums, h]
  have e1 : WK .u64 (blen (strOfNums l)) = 1 := by rw [blen, hs]; rfl
  unfold ref05_Fill
  rw [e1, put1]
  simp only [Option.bind_some]
  have hc : catOk (⟨#[1, 1]⟩ : ByteArray) (strOfNums l) := by unfold catOk; rw [hs]; decide
  have hb : blen ((⟨#[1, 1]⟩ : ByteArray) ++ strOfNums l) = 3 := by
    show (((⟨#[1, 1]⟩ : ByteArray) ++ strOfNums l).size : Int) = 3
    rw [size_app, hs]; rfl
  rw [guardO_pos hc, hb]
  simp only [show igt 3 256 = false by rfl, condO_false, show WK .i64 (256 - 3) = 253 by rfl]
  rw [guardO_pos (by unfold mkOk; decide), guardO_pos ?_]
  · rfl
  · unfold catOk
    rw [size_app, hs, size_strOfNums, List.length_replicate]
    decide
abbrev withS (c : Int) : ByteArray := (⟨#[1, 1]⟩ : ByteArray) ++ strOfNums [c] ++ strOfNums (List.replicate 253 0)
theorem with_size (c : Int) : (withS c).size = 256 := by
  unfold withS
  rw [size_app, size_app, size_strOfNums, size_strOfNums, List.length_replicate]
  rfl
theorem fill_with (c : Int) : ref05_Fill 1000 (strOfNums [c]) = some (withS c, 0) := fill1 [c] rfl
def noneS : ByteArray := strOfNums (List.replicate 256 0)
theorem rep256 : strings_Repeat 1000 (⟨#[0]⟩, 256) = some noneS := by kernel_rfl
theorem none_size : noneS.size = 256 := by unfold noneS; rw [size_strOfNums, List.length_replicate]
theorem rep_lies (n : Nat) (h1 : 1 ≤ n) (h2 : n ≤ 65536) (s : ByteArray) : slices_Repeat 1000 ((n : Int), [s]) = some (List.replicate n s) := by
  show L_slices_Repeat 1000 ((n : Int), [s]) = _
  unfold L_slices_Repeat
  simp only
  rw [guardO_pos ⟨by omega, by omega⟩, Int.toNat_natCast]
theorem awake_ok : law05_awake 1000 () = some true := by kernel_rfl
end Go.Proofs.Ytlbidinmgabjbaa
/- The disk: what is read behind writes, flushes and crashes; the document's disk. No condition. -/
set_option linter.unusedVariables false
set_option linter.unusedSimpArgs false
namespace Go.Proofs.Ytlbidinmgabjbaa
open Go
/-- The state of the disk behind some writes. -/
structure DOk (n : Nat) (lies : List ByteArray) (cache : List Put) : Prop where
  len : lies.length = n
  rng : ∀ p ∈ cache, 0 ≤ p.1 ∧ p.1 < lies.length
theorem DOk.nil {n : Nat} {lies : List ByteArray} (h : lies.length = n) : DOk n lies [] := ⟨h, fun p hp => by cases hp⟩
theorem DOk.put {n : Nat} {lies : List ByteArray} {cache : List Put} (h : DOk n lies cache) {a : Int} {s : ByteArray} (h0 : 0 ≤ a) (h1 : a < n) : DOk n lies (cache ++ [(a, s)]) :=
  ⟨h.len, fun p hp => by
    rcases List.mem_append.1 hp with hp | hp
    · exact h.rng p hp
    · obtain rfl := List.mem_singleton.1 hp
      exact ⟨h0, by rw [h.len]; exact h1⟩⟩
theorem DOk.settle {n : Nat} {lies : List ByteArray} {cache : List Put} (h : DOk n lies cache) : DOk n (settle lies cache) [] := .nil (by rw [settle_len]; exact h.len)
theorem DOk.settleP {n : Nat} {lies : List ByteArray} {cache : List Put} (h : DOk n lies cache) (picks : List Int) : DOk n (settleP picks lies cache) [] := .nil (by rw [settleP_len]; exact h.len)
theorem beq_self (b : Bool) : (!(beq b b)) = false := by cases b <;> rfl
theorem rd_put (lies : List ByteArray) (cache : List Put) (a b : Int) (s : ByteArray) : rd lies (cache ++ [(a, s)]) b = if a = b then s else rd lies cache b := by
  unfold rd
  rw [List.reverse_append]
  simp only [List.reverse_cons, List.reverse_nil, List.nil_append, List.cons_append, List.find?_cons]
  by_cases h : a = b
  · rw [if_pos h, show (a == b) = true by simpa using h]
  · rw [if_neg h, show (a == b) = false by simpa using h]
theorem rd_nil (lies : List ByteArray) (a : Int) : rd lies [] a = lies.getD a.toNat str0 := rfl
theorem getD_set {l : List ByteArray} {i j : Nat} {x d : ByteArray} (h : i < l.length) : (l.set i x).getD j d = if i = j then x else l.getD j d := by
  simp only [List.getD_eq_getElem?_getD, List.getElem?_set]
  by_cases e : i = j
  · subst e; simp [h]
  · simp [e]
theorem snoc_induct {α : Type} {P : List α → Prop} (h0 : P []) (h1 : ∀ l a, P l → P (l ++ [a])) (l : List α) : P l := by
  rw [← List.reverse_reverse l]
  induction l.reverse with
  | nil => exact h0
  | cons a l ih => rw [List.reverse_cons]; exact h1 _ _ ih
theorem rd_settle (lies : List ByteArray) (cache : List Put) (hr : ∀ p ∈ cache, 0 ≤ p.1 ∧ p.1 < lies.length) (a : Int) (h0 : 0 ≤ a) : (settle lies cache).getD a.toNat str0 = rd lies cache a := by
  revert hr
  refine snoc_induct (P := fun cache : List Put => (∀ p ∈ cache, 0 ≤ p.1 ∧ p.1 < lies.length) → (settle lies cache).getD a.toNat str0 = rd lies cache a) (fun _ => rfl) ?_ cache
  rintro c ⟨b, s⟩ ih hr
  have hb := hr (b, s) (by simp)
  rw [rd_put, ← ih (fun p hp => hr p (List.mem_append_left _ hp))]
  rw [show settle lies (c ++ [(b, s)]) = setD (settle lies c) (b, s) by unfold settle; rw [List.foldl_append]; rfl]
  unfold setD
  rw [getD_set (by rw [settle_len]; omega)]
  by_cases e : b = a
  · rw [if_pos (by omega), if_pos e]
  · rw [if_neg (by omega), if_neg e]
theorem write_on (k : Nat) {a : Int} {s : ByteArray} {left steps : Int} {lies : List ByteArray} {cache : List Put} (h0 : 0 ≤ a) (h1 : a < lies.length) (h2 : s.size = 256) (hc : cache.length < 1000000) :
    sector_Disk_Write k (a, s, true, false, left, steps, lies, cache) = some (0, true, false, left, WK .i64 (steps + 1), lies, cache ++ [(a, s)]) := by
  rw [write_ok k h0 h1 h2 hc]; rfl
theorem flush_on (k : Nat) {left steps : Int} {lies : List ByteArray} {cache : List Put} (h0 : 0 < lies.length) (hk : cache.length < k) (hl : cache.length < 1000000) (hr : ∀ p ∈ cache, 0 ≤ p.1 ∧ p.1 < lies.length) :
    sector_Disk_Flush k (true, false, left, steps, lies, cache) = some (0, true, false, left, WK .i64 (steps + 1), settle lies cache, []) := by
  rw [flush_ok k h0 hk hl hr]; rfl
/-! ### what a crash leaves -/
theorem settleP_one (picks : List Int) (lies : List ByteArray) (cache : List Put) (hr : ∀ p ∈ cache, 0 ≤ p.1 ∧ p.1 < lies.length) (a : Nat) :
    (settleP picks lies cache).getD a str0 = lies.getD a str0 ∨ ∃ p ∈ cache, p.1 = (a : Int) ∧ (settleP picks lies cache).getD a str0 = p.2 := by
  have key : ∀ (c : List (Put × Nat)) (l : List ByteArray), l.length = lies.length → (∀ q ∈ c, 0 ≤ q.1.1 ∧ q.1.1 < lies.length) → (c.foldl (pickD picks) l).getD a str0 = l.getD a str0 ∨ ∃ q ∈ c, q.1.1 = (a : Int) ∧ (c.foldl (pickD picks) l).getD a str0 = q.1.2 := by
    intro c
    induction c with
    | nil => intro l _ _; exact .inl rfl
    | cons q c ih =>
      intro l hl hq
      rw [List.foldl_cons]
      rcases ih (pickD picks l q) (by rw [pickD_len]; exact hl) (fun r hr => hq r (List.mem_cons_of_mem _ hr)) with h | ⟨r, hr, h1, h2⟩
      · rw [h]
        have hb := hq q (List.mem_cons_self ..)
        unfold pickD
        split
        · unfold setD
          rw [getD_set (by omega)]
          by_cases e : q.1.1.toNat = a
          · rw [if_pos e]
            refine .inr ⟨q, List.mem_cons_self .., by omega, rfl⟩
          · rw [if_neg e]; exact .inl rfl
        · exact .inl rfl
      · exact .inr ⟨r, List.mem_cons_of_mem _ hr, h1, h2⟩
  have hz : ∀ q ∈ cache.zipIdx, q.1 ∈ cache := by
    rintro ⟨p, i⟩ hp
    exact (List.mem_zipIdx' hp).2 ▸ List.getElem_mem _
  rcases key cache.zipIdx lies rfl (fun q hq => hr q.1 (hz q hq)) with h | ⟨q, hq, h1, h2⟩
  · exact .inl h
  · exact .inr ⟨q.1, hz q hq, h1, h2⟩
/-! ### rows of so many -/
theorem vAt_set {α : Type} (d : α) {n : Nat} (v : Vector α n) (i j : Int) (x : α) (h0 : 0 ≤ i) (h1 : i < n) (h2 : 0 ≤ j) : vAt d (vSet v i x) j = if i = j then x else vAt d v j := by
  unfold vAt vSet
  have hs : v.toArray.size = n := v.size_toArray
  simp only [Vector.toArray_setIfInBounds, Array.getD_eq_getD_getElem?, Array.getElem?_setIfInBounds]
  by_cases e : i = j
  · subst e
    rw [if_pos rfl, if_pos rfl, if_pos (by rw [hs]; omega)]; rfl
  · rw [if_neg (by omega), if_neg e]
theorem vAt_rep {α : Type} (d : α) {n : Nat} (x : α) (i : Int) (h0 : 0 ≤ i) (h1 : i < n) : vAt d (Vector.replicate n x) i = x := by
  unfold vAt
  simp only [Vector.toArray_replicate, Array.getD_eq_getD_getElem?]
  rw [Array.getElem?_replicate, if_pos (by omega)]; rfl
end Go.Proofs.Ytlbidinmgabjbaa
/- The document's disk beside the program's. No condition. -/
set_option linter.unusedVariables false
set_option linter.unusedSimpArgs false
namespace Go.Proofs.Ytlbidinmgabjbaa
open Go
/-- The document's count of the steps that are left, of the program's. -/
abbrev leftR (armed : Bool) (left : Int) : Int := if armed = true then left else -1
theorem rstep_ok (k : Nat) (on armed : Bool) (left steps : Int) (lies : List ByteArray) (cache : List Put) (h : armed = true → 0 ≤ left) :
    ref05_Disk_step k (!on, leftR armed left, steps, lies, cache) = some (if mayD on armed left = true then (true, false, leftR armed (leftD armed left), WK .i64 (steps + 1), lies, cache) else (false, true, leftR armed left, steps, lies, cache)) := by
  unfold ref05_Disk_step
  cases on
  · simp [mayD]
  · cases armed
    · simp [mayD, leftR, leftD, ieq_f, igt_f]
    · have := h rfl
      by_cases e : left = 0
      · simp [mayD, leftR, leftD, ieq_t, e]
      · simp [mayD, leftR, leftD, ieq_f e, igt_t (show (0 : Int) < left by omega), e]
theorem rwrite_ok (k : Nat) {a : Int} {s : ByteArray} {on armed : Bool} {left steps : Int} {lies : List ByteArray} {cache : List Put} (h : armed = true → 0 ≤ left) (h0 : 0 ≤ a) (h1 : a < lies.length) (h2 : s.size = 256) (hc : cache.length < 1000000) :
    ref05_Disk_Write k (a, s, !on, leftR armed left, steps, lies, cache) = some (if mayD on armed left = true then (0, false, leftR armed (leftD armed left), WK .i64 (steps + 1), lies, cache ++ [(a, s)]) else (14, true, leftR armed left, steps, lies, cache)) := by
  have e1 : ilt a 0 = false := ilt_f h0
  have e2 : ige a (llen lies) = false := ige_f h1
  have e3 : ine (blen s) 256 = false := ine_f (by rw [blen, h2]; rfl)
  unfold ref05_Disk_Write
  simp only [e1, e2, e3, condO_false, rstep_ok k on armed left steps lies cache h, Option.bind_some]
  have hap : appOk cache ([(a, s)] : List Put) 24 := by
    unfold appOk; simp; omega
  by_cases hm : mayD on armed left = true
  · simp only [hm, if_true]
    rw [guardO_pos hap]
    rfl
  · simp only [hm, Bool.false_eq_true, if_false]
    rfl
theorem write_arg (k : Nat) {a : Int} {s : ByteArray} {on armed : Bool} {left steps : Int} {lies : List ByteArray} {cache : List Put} (h : a < 0 ∨ lies.length ≤ a ∨ s.size ≠ 256) :
    sector_Disk_Write k (a, s, on, armed, left, steps, lies, cache) = some (1, on, armed, left, steps, lies, cache) := by
  unfold sector_Disk_Write
  by_cases h0 : a < 0
  · simp only [ilt_t h0, condO_true]
  · by_cases h1 : (lies.length : Int) ≤ a
    · simp only [ilt_f (show 0 ≤ a by omega), ige_t (show llen lies ≤ a from h1), condO_false, condO_true]
    · have h2 : s.size ≠ 256 := by
        rcases h with h | h | h
        · omega
        · omega
        · exact h
      simp only [ilt_f (show 0 ≤ a by omega), ige_f (show a < llen lies by unfold llen; omega), ine_t (show blen s ≠ 256 by unfold blen; omega), condO_false, condO_true]
theorem rwrite_arg (k : Nat) {a : Int} {s : ByteArray} {dark : Bool} {left steps : Int} {lies : List ByteArray} {cache : List Put} (h : a < 0 ∨ lies.length ≤ a ∨ s.size ≠ 256) :
    ref05_Disk_Write k (a, s, dark, left, steps, lies, cache) = some (1, dark, left, steps, lies, cache) := by
  unfold ref05_Disk_Write
  by_cases h0 : a < 0
  · simp only [ilt_t h0, condO_true]
  · by_cases h1 : (lies.length : Int) ≤ a
    · simp only [ilt_f (show 0 ≤ a by omega), ige_t (show llen lies ≤ a from h1), condO_false, condO_true]
    · have h2 : s.size ≠ 256 := by
        rcases h with h | h | h
        · omega
        · omega
        · exact h
      simp only [ilt_f (show 0 ≤ a by omega), ige_f (show a < llen lies by unfold llen; omega), ine_t (show blen s ≠ 256 by unfold blen; omega), condO_false, condO_true]
theorem rflush_ok (k : Nat) {on armed : Bool} {left steps : Int} {lies : List ByteArray} {cache : List Put} (h : armed = true → 0 ≤ left) (hk : cache.length < k) (hl : cache.length < 1000000) (hr : ∀ p ∈ cache, 0 ≤ p.1 ∧ p.1 < lies.length) :
    ref05_Disk_Flush k (!on, leftR armed left, steps, lies, cache) = some (if mayD on armed left = true then (0, false, leftR armed (leftD armed left), WK .i64 (steps + 1), settle lies cache, []) else (14, true, leftR armed left, steps, lies, cache)) := by
  unfold ref05_Disk_Flush
  simp only [rstep_ok k on armed left steps lies cache h, Option.bind_some]
  by_cases hm : mayD on armed left = true
  · simp only [hm, if_true, Bool.not_true, condO_false]
    refine bind_of (a := settle lies cache) ?_ rfl
    refine loopK_run (fun i => ((i : Int), (cache.take i).foldl setD lies)) cache.length (settle lies cache) k ?_ ?_ hk
    · intro i hlt
      have hp := hr cache[i] (List.getElem_mem hlt)
      have ea : at_ T0 cache (i : Int) = cache[i] := at_nat hlt
      have hlen : ((cache.take i).foldl setD lies).length = lies.length := settle_len _ _
      simp only [ilt_t (show (i : Int) < llen cache by unfold llen; omega), condO_true]
      rw [guardO_pos ⟨by omega, by unfold llen; omega⟩, guardO_pos ⟨by omega, by unfold llen; omega⟩, ea, guardO_pos ⟨hp.1, by simp only [llen, hlen]; exact hp.2⟩, wk_i64 (by omega) (by omega), take_succ_fold setD cache lies i hlt]
      rfl
    · simp only [ilt_f (show llen cache ≤ (cache.length : Int) by unfold llen; omega), condO_false]
      rw [List.take_of_length_le (by omega)]; rfl
  · simp only [hm, Bool.false_eq_true, if_false]
    rfl
theorem foldP_rest (picks : List Int) : ∀ (c : List (Put × Nat)) (l : List ByteArray), (∀ q ∈ c, picks.length ≤ q.2) → c.foldl (pickD picks) l = l
  | [], _, _ => rfl
  | q :: c, l, h => by
    rw [List.foldl_cons, show pickD picks l q = l by
      unfold pickD
      rw [if_neg]
      have := h q (List.mem_cons_self ..)
      omega]
    exact foldP_rest picks c l (fun r hr => h r (List.mem_cons_of_mem _ hr))
theorem settleP_take (picks : List Int) (lies : List ByteArray) (cache : List Put) (n : Nat) (h : n = min cache.length picks.length) : settleP picks lies cache = (cache.zipIdx.take n).foldl (pickD picks) lies := by
  unfold settleP
  conv => lhs; rw [← List.take_append_drop n cache.zipIdx]
  rw [List.foldl_append]
  refine foldP_rest picks _ _ (fun q hq => ?_)
  rw [List.mem_iff_getElem] at hq
  obtain ⟨i, hi, rfl⟩ := hq
  simp only [List.length_drop, List.length_zipIdx] at hi
  simp only [List.getElem_drop, List.getElem_zipIdx]
  omega
theorem rcrash_ok (k : Nat) {dark : Bool} {left steps : Int} {lies : List ByteArray} {cache : List Put} {picks : List Int} (hk : cache.length < k) (hl : cache.length < 1000000) (hr : ∀ p ∈ cache, 0 ≤ p.1 ∧ p.1 < lies.length) :
    ref05_Disk_Crash k (dark, left, steps, picks, lies, cache) = some (false, -1, steps, settleP picks lies cache, []) := by
  unfold ref05_Disk_Crash
  refine bind_of (a := settleP picks lies cache) ?_ rfl
  have hz : cache.zipIdx.length = cache.length := by simp
  obtain ⟨n, hn⟩ : ∃ n, n = min cache.length picks.length := ⟨_, rfl⟩
  refine loopK_run (fun i => ((i : Int), (cache.zipIdx.take i).foldl (pickD picks) lies)) n (settleP picks lies cache) k ?_ ?_ (by omega)
  · intro i hi
    have hlt : i < cache.length := by omega
    have hpl : i < picks.length := by omega
    have hp := hr cache[i] (List.getElem_mem hlt)
    have ea : at_ T0 cache (i : Int) = cache[i] := at_nat hlt
    have hlen : ((cache.zipIdx.take i).foldl (pickD picks) lies).length = lies.length := foldP_len picks _ _
    have hzi : cache.zipIdx[i]'(by omega) = (cache[i], i) := by simp
    have eb : at_ (.int .i64) picks (i : Int) = picks[i] := at_nat (t := .int .i64) hpl
    simp only [ilt_t (show (i : Int) < llen cache by unfold llen; omega), condO_true, ilt_t (show (i : Int) < llen picks by unfold llen; omega)]
    rw [guardO_pos ⟨by omega, by unfold llen; omega⟩, guardO_pos (by decide), wk_i64 (by omega) (by omega), take_succ_fold (pickD picks) cache.zipIdx lies i (by omega), hzi, eb]
    have eg : picks.getD i 0 = picks[i] := by simp [List.getD_eq_getElem?_getD, hpl]
    by_cases hm : picks[i].tmod 2 = 0
    · simp only [ine_f hm, condO_false]
      have : pickD picks ((cache.zipIdx.take i).foldl (pickD picks) lies) (cache[i], i) = (cache.zipIdx.take i).foldl (pickD picks) lies := by
        unfold pickD; rw [if_neg]; rw [eg]; simp [hm]
      rw [this]; rfl
    · simp only [ine_t hm, condO_true, ea]
      rw [guardO_pos ⟨by omega, by unfold llen; omega⟩, guardO_pos ⟨by omega, by unfold llen; omega⟩, guardO_pos ⟨hp.1, by simp only [llen, hlen]; exact hp.2⟩]
      have : pickD picks ((cache.zipIdx.take i).foldl (pickD picks) lies) (cache[i], i) = setD ((cache.zipIdx.take i).foldl (pickD picks) lies) cache[i] := by
        unfold pickD; rw [if_pos]; rw [eg]; exact ⟨hpl, hm⟩
      rw [this]; rfl
  · rw [settleP_take picks lies cache n hn]
    dsimp only
    by_cases h : n < cache.length
    · rw [ilt_t (show (n : Int) < llen cache by unfold llen; omega), condO_true, ilt_f (show llen picks ≤ (n : Int) by unfold llen; omega), condO_false]
    · rw [ilt_f (show llen cache ≤ (n : Int) by unfold llen; omega), condO_false]
def rdF (a : Int) (s : ByteArray) (p : Put) : ByteArray := if p.1 = a then p.2 else s
theorem rd_fold (lies : List ByteArray) (a : Int) (cache : List Put) : cache.foldl (rdF a) (lies.getD a.toNat str0) = rd lies cache a := by
  refine snoc_induct (P := fun cache : List Put => cache.foldl (rdF a) (lies.getD a.toNat str0) = rd lies cache a) rfl ?_ cache
  rintro c ⟨b, s⟩ ih
  rw [List.foldl_append, ih, rd_put]; rfl
theorem rread_ok (k : Nat) {a : Int} {left steps : Int} {lies : List ByteArray} {cache : List Put} (h0 : 0 ≤ a) (h1 : a < lies.length) (hk : cache.length < k) (hl : cache.length < 1000000) :
    ref05_Disk_Read k (a, false, left, steps, lies, cache) = some (rd lies cache a, 0) := by
  unfold ref05_Disk_Read
  simp only [ilt_f h0, ige_f (show a < llen lies from h1), condO_false]
  rw [guardO_pos ⟨h0, h1⟩]
  refine bind_of (a := rd lies cache a) ?_ rfl
  refine loopK_run (fun i => ((cache.take i).foldl (rdF a) (lies.getD a.toNat str0), (i : Int))) cache.length (rd lies cache a) k ?_ ?_ hk
  · intro i hlt
    have ea : at_ T0 cache (i : Int) = cache[i] := at_nat hlt
    simp only [ilt_t (show (i : Int) < llen cache by unfold llen; omega), condO_true]
    rw [guardO_pos ⟨by omega, by unfold llen; omega⟩, ea, wk_i64 (by omega) (by omega), take_succ_fold (rdF a) cache _ i hlt]
    by_cases e : cache[i].1 = a
    · simp only [ieq_t e, condO_true]
      rw [guardO_pos ⟨by omega, by unfold llen; omega⟩]
      simp only [rdF, if_pos e]; rfl
    · simp only [ieq_f e, condO_false]
      simp only [rdF, if_neg e]; rfl
  · simp only [ilt_f (show llen cache ≤ (cache.length : Int) by unfold llen; omega), condO_false]
    rw [List.take_of_length_le (by omega), rd_fold]
theorem rread_off (k : Nat) {a : Int} {left steps : Int} {lies : List ByteArray} {cache : List Put} (h0 : 0 ≤ a) (h1 : a < lies.length) :
    ref05_Disk_Read k (a, true, left, steps, lies, cache) = some (str0, 14) := by
  unfold ref05_Disk_Read
  simp only [ilt_f h0, ige_f (show a < llen lies from h1), condO_false, condO_true]
theorem rread_arg (k : Nat) {a : Int} {dark : Bool} {left steps : Int} {lies : List ByteArray} {cache : List Put} (h : a < 0 ∨ lies.length ≤ a) :
    ref05_Disk_Read k (a, dark, left, steps, lies, cache) = some (str0, 1) := by
  unfold ref05_Disk_Read
  by_cases h0 : a < 0
  · simp only [ilt_t h0, condO_true]
  · simp only [ilt_f (show 0 ≤ a by omega), ige_t (show llen lies ≤ a by unfold llen; omega), condO_false, condO_true]
theorem rnew_ok (n : Nat) (h1 : 1 ≤ n) (h8 : n ≤ 8) : ref05_New 1000 (n : Int) = some (false, -1, 0, List.replicate n noneS, []) := by
  have : n = 1 ∨ n = 2 ∨ n = 3 ∨ n = 4 ∨ n = 5 ∨ n = 6 ∨ n = 7 ∨ n = 8 := by omega
  rcases this with rfl | rfl | rfl | rfl | rfl | rfl | rfl | rfl <;> (show _ = _; kernel_rfl)
end Go.Proofs.Ytlbidinmgabjbaa
/- The plain law of SectorPlays. No condition. -/
set_option linter.unusedVariables false
set_option linter.unusedSimpArgs false
namespace Go.Proofs.Ytlbidinmgabjbaa
open Go
def SectorPlaysPure : Prop := ∀ (z0 : Ty.den (.int .i64)) (z1 : Ty.den (.sl 30 (.pair (.int .i64) (.pair (.int .i64) (.pair (.int .i64) (.pair (.int .u8) (.pair .bool (.sl 3 (.int .i64))))))))), wfT (.int .i64) z0 → wfT (.sl 30 (.pair (.int .i64) (.pair (.int .i64) (.pair (.int .i64) (.pair (.int .u8) (.pair .bool (.sl 3 (.int .i64)))))))) z1 → ∃ k, law05_SectorPlays k (z0, z1) = some true
abbrev Two := Bool × Bool × Int × Int × Bool × Int × Int × List ByteArray × List Put × List ByteArray × List Put
/-- Both disks stand alike. -/
def Alike (n i : Nat) (s : Two) : Prop := ∃ (on armed : Bool) (left steps : Int) (lies : List ByteArray) (cache : List Put), s = (on, armed, left, steps, !on, leftR armed left, steps, lies, cache, lies, cache) ∧ (armed = true → 0 ≤ left ∧ left ≤ 9223372036854775807) ∧ DOk n lies cache ∧ cache.length ≤ i
theorem alike_write {n i : Nat} {on armed : Bool} {left steps : Int} {lies : List ByteArray} {cache : List Put} (ha : armed = true → 0 ≤ left ∧ left ≤ 9223372036854775807) (ok : DOk n lies cache) (hc : cache.length ≤ i) (hi : i < 80) (a : Int) (s : ByteArray) :
    ∃ e st, (sector_Disk_Write 1000 (a, s, on, armed, left, steps, lies, cache)).bind (fun r9 => (ref05_Disk_Write 1000 (a, s, !on, leftR armed left, steps, lies, cache)).bind fun r10 => some (ieq r9.1 r10.1, r9.2.1, r9.2.2.1, r9.2.2.2.1, r9.2.2.2.2.1, r10.2.1, r10.2.2.1, r10.2.2.2.1, r9.2.2.2.2.2.1, r9.2.2.2.2.2.2, r10.2.2.2.2.1, r10.2.2.2.2.2)) = some (e, st) ∧ e = true ∧ Alike n (i + 1) st := by
  by_cases hg : 0 ≤ a ∧ a < lies.length ∧ s.size = 256
  · rw [write_ok 1000 hg.1 hg.2.1 hg.2.2 (by omega), rwrite_ok 1000 (fun h => (ha h).1) hg.1 hg.2.1 hg.2.2 (by omega)]
    by_cases hm : mayD on armed left = true
    · rw [if_pos hm, if_pos hm]
      refine ⟨_, _, rfl, rfl, true, armed, leftD armed left, _, lies, _, rfl, fun h => ?_, ok.put hg.1 (by rw [← ok.len]; exact hg.2.1), by simp; omega⟩
      subst h
      have := ha rfl
      have h0 : left ≠ 0 := by
        rintro rfl
        cases on <;> simp [mayD] at hm
      simp only [leftD, if_pos]
      rw [wk_i64 (by omega) (by omega)]
      omega
    · rw [if_neg hm, if_neg hm]
      exact ⟨_, _, rfl, rfl, false, armed, left, _, lies, _, rfl, ha, ok, Nat.le_succ_of_le hc⟩
  · have hb : a < 0 ∨ (lies.length : Int) ≤ a ∨ s.size ≠ 256 := by omega
    rw [write_arg 1000 hb, rwrite_arg 1000 hb]
    exact ⟨_, _, rfl, rfl, on, armed, left, _, lies, _, rfl, ha, ok, Nat.le_succ_of_le hc⟩
theorem alike_flush {n i : Nat} {on armed : Bool} {left steps : Int} {lies : List ByteArray} {cache : List Put} (hn : 0 < n) (ha : armed = true → 0 ≤ left ∧ left ≤ 9223372036854775807) (ok : DOk n lies cache) (hc : cache.length ≤ i) (hi : i < 80) :
    ∃ e st, (sector_Disk_Flush 1000 (on, armed, left, steps, lies, cache)).bind (fun r9 => (ref05_Disk_Flush 1000 (!on, leftR armed left, steps, lies, cache)).bind fun r10 => some (ieq r9.1 r10.1, r9.2.1, r9.2.2.1, r9.2.2.2.1, r9.2.2.2.2.1, r10.2.1, r10.2.2.1, r10.2.2.2.1, r9.2.2.2.2.2.1, r9.2.2.2.2.2.2, r10.2.2.2.2.1, r10.2.2.2.2.2)) = some (e, st) ∧ e = true ∧ Alike n (i + 1) st := by
  rw [flush_ok 1000 (by rw [ok.len]; exact hn) (by omega) (by omega) ok.rng, rflush_ok 1000 (fun h => (ha h).1) (by omega) (by omega) ok.rng]
  by_cases hm : mayD on armed left = true
  · rw [if_pos hm, if_pos hm]
    refine ⟨_, _, rfl, rfl, true, armed, leftD armed left, _, _, _, rfl, fun h => ?_, ok.settle, Nat.zero_le _⟩
    subst h
    have := ha rfl
    have h0 : left ≠ 0 := by
      rintro rfl
      cases on <;> simp [mayD] at hm
    simp only [leftD, if_pos]
    rw [wk_i64 (by omega) (by omega)]
    omega
  · rw [if_neg hm, if_neg hm]
    exact ⟨_, _, rfl, rfl, false, armed, left, _, lies, _, rfl, ha, ok, Nat.le_succ_of_le hc⟩
theorem alike_crash {n i : Nat} {on armed : Bool} {left steps : Int} {lies : List ByteArray} {cache : List Put} (hn : 0 < n) (ok : DOk n lies cache) (hc : cache.length ≤ i) (hi : i < 80) (pk : List Int) :
    ∃ st, (sector_Disk_Crash 1000 (on, armed, left, steps, pk, lies, cache)).bind (fun r8 => (ref05_Disk_Crash 1000 (!on, leftR armed left, steps, pk, lies, cache)).bind fun r9 => some (true, r8.1, r8.2.1, r8.2.2.1, r8.2.2.2.1, r9.1, r9.2.1, r9.2.2.1, r8.2.2.2.2.1, r8.2.2.2.2.2, r9.2.2.2.1, r9.2.2.2.2)) = some (true, st) ∧ Alike n (i + 1) st := by
  rw [crash_ok 1000 (by rw [ok.len]; exact hn) (by omega) (by omega) ok.rng, rcrash_ok 1000 (by omega) (by omega) ok.rng]
  exact ⟨_, rfl, true, false, left, _, _, _, rfl, (fun h => by cases h), ok.settleP pk, Nat.zero_le _⟩
theorem alike_arm {n i : Nat} {on armed : Bool} {left steps : Int} {lies : List ByteArray} {cache : List Put} (ok : DOk n lies cache) (hc : cache.length ≤ i) (N : Int) (hN : -9223372036854775808 ≤ N ∧ N ≤ 9223372036854775807) :
    ∃ st, condO (ilt N 0) (some (true, on, true, mxI N 0, steps, !on, (0 : Int), steps, lies, cache, lies, cache)) (some (true, on, true, mxI N 0, steps, !on, N, steps, lies, cache, lies, cache)) = some (true, st) ∧ Alike n (i + 1) st := by
  by_cases h0 : N < 0
  · have e : mxI N 0 = 0 := by unfold mxI; split <;> omega
    rw [ilt_t h0, condO_true, e]
    exact ⟨_, rfl, on, true, 0, steps, lies, cache, rfl, fun _ => (by decide), ok, Nat.le_succ_of_le hc⟩
  · have e : mxI N 0 = N := by unfold mxI; split <;> omega
    rw [ilt_f (by omega), condO_false, e]
    exact ⟨_, rfl, on, true, N, steps, lies, cache, rfl, fun _ => ⟨by omega, hN.2⟩, ok, Nat.le_succ_of_le hc⟩
theorem sectorPlays_law : SectorPlaysPure := by
  intro (x : Int) l _ hl
  refine ⟨1000, ?_⟩
  unfold law05_SectorPlays
  simp only [awake_ok, rep256, Option.bind_some]
  have hx : 0 ≤ andK .i64 x 7 ∧ andK .i64 x 7 ≤ 7 := and_bound x 7 (by decide)
  obtain ⟨n, hn1, hn8, hn⟩ : ∃ n : Nat, 1 ≤ n ∧ n ≤ 8 ∧ WK .i64 (1 + andK .i64 x 7) = (n : Int) := ⟨(1 + andK .i64 x 7).toNat, by omega, by omega, by rw [wk_i64 (by omega) (by omega)]; omega⟩
  rw [hn, show mnI (mxI (n : Int) 1) 65536 = (n : Int) by unfold mnI mxI; split <;> split <;> omega, rep_lies n hn1 (by omega), rnew_ok n hn1 hn8]
  simp only [Option.bind_some]
  rw [ine_f (show llen (List.replicate n noneS) = (n : Int) by rw [llen, List.length_replicate]), condO_false]
  refine loop_bind (I := fun m (h : Int × Two) => ∃ (i : Nat), h.1 = (i : Int) ∧ i + m = 80 ∧ Alike n i h.2) (Q := fun (e : (Bool × Two) ⊕ Two) => ∃ y, e = .inr y) 80 (by decide) ?_ ?_ ?_
  · exact ⟨0, rfl, rfl, true, false, 0, 0, _, _, rfl, (fun h => by cases h), DOk.nil (List.length_replicate ..), Nat.le_refl _⟩
  · rintro m ⟨_, _⟩ ⟨i, rfl, hi, on, armed, left, steps, lies, cache, rfl, ha, ok, hc⟩
    dsimp only
    by_cases hil : i < l.length
    · by_cases h80 : i < 80
      · rw [ilt_t (show (i : Int) < llen l by unfold llen; omega), condO_true, ilt_t (show (i : Int) < 80 by omega), condO_true, guardO_pos ⟨by omega, by unfold llen; omega⟩, guardO_pos (by decide)]
        have hN : -9223372036854775808 ≤ (at_ T1 l (i : Int)).2.2.1 ∧ (at_ T1 l (i : Int)).2.2.1 ≤ 9223372036854775807 := by
          rw [at_nat hil]
          have := hl.2 l[i] (List.getElem_mem hil)
          have h2 := this.2.2.1
          simp only [wfT, Lit.wf, Bool.and_eq_true, decide_eq_true_eq] at h2
          exact h2
        refine Goes.bind (P := fun _ => True) ?_ ?_
        · by_cases h : ((at_ T1 l (i : Int)).1.tmod 10) < 0
          · rw [ilt_t h]; exact ⟨_, rfl, trivial⟩
          · rw [ilt_f (by omega)]; exact ⟨_, rfl, trivial⟩
        · rintro k -
          refine Goes.bind (P := fun s : Bool × Two => s.1 = true ∧ Alike n (i + 1) s.2) ?_ ?_
          · rw [show ((condO (ieq k 5) (some ((ieq k 5))) (some ((ieq k 6))) : Option (Bool))) = some (ieq k 5 || ieq k 6) by cases ieq k 5 <;> rfl]
            rw [show ((condO (ieq k 8) (some ((ieq k 8))) (some ((ieq k 9))) : Option (Bool))) = some (ieq k 8 || ieq k 9) by cases ieq k 8 <;> rfl]
            simp only [Option.bind_some]
            by_cases h1 : (ieq k 5 || ieq k 6) = true
            · rw [h1, condO_true]
              obtain ⟨e, st, h, he, hs⟩ := alike_flush (on := on) (steps := steps) hn1 ha ok hc h80
              exact ⟨_, h, he, hs⟩
            · rw [(by simpa using h1 : (ieq k 5 || ieq k 6) = false), condO_false]
              by_cases h2 : k = 7
              · rw [ieq_t h2, condO_true]
                obtain ⟨st, h, hs⟩ := alike_arm (on := on) (left := left) (steps := steps) (armed := armed) ok hc _ hN
                exact ⟨_, h, rfl, hs⟩
              · rw [ieq_f h2, condO_false]
                by_cases h3 : (ieq k 8 || ieq k 9) = true
                · rw [h3, condO_true]
                  generalize (at_ T1 l (i : Int)).2.2.2.2.2 = pk
                  by_cases hk : 20 < llen pk
                  · simp only [igt_t hk, condO_true, guardO_pos (show cutOk4 0 20 (llen pk) 20 from ⟨by decide, by decide, by omega, rfl⟩)]
                    obtain ⟨st, h, hs⟩ := alike_crash (on := on) (armed := armed) (left := left) (steps := steps) hn1 ok hc h80 (ltake 20 pk)
                    exact ⟨_, h, rfl, hs⟩
                  · simp only [igt_f (show llen pk ≤ 20 by omega), condO_false]
                    obtain ⟨st, h, hs⟩ := alike_crash (on := on) (armed := armed) (left := left) (steps := steps) hn1 ok hc h80 pk
                    exact ⟨_, h, rfl, hs⟩
                · rw [(by simpa using h3 : (ieq k 8 || ieq k 9) = false), condO_false, fill_with]
                  simp only [Option.bind_some]
                  cases (at_ T1 l (i : Int)).2.2.2.2.1 with
                  | true =>
                    rw [condO_true, guardO_pos ⟨by decide, by decide, by rw [blen, with_size]; decide⟩]
                    obtain ⟨e, st, h, he, hs⟩ := alike_write (on := on) (steps := steps) ha ok hc h80 (at_ T1 l (i : Int)).2.1 (scut (withS (at_ T1 l (i : Int)).2.2.2.1) 0 255)
                    exact ⟨_, h, he, hs⟩
                  | false =>
                    rw [condO_false]
                    obtain ⟨e, st, h, he, hs⟩ := alike_write (on := on) (steps := steps) ha ok hc h80 (at_ T1 l (i : Int)).2.1 (withS (at_ T1 l (i : Int)).2.2.2.1)
                    exact ⟨_, h, he, hs⟩
          · rintro ⟨_, _⟩ ⟨rfl, on, armed, left, steps, lies, cache, rfl, ha, ok, hc⟩
            dsimp only
            rw [show (!true) = false from rfl, condO_false, show beq on (!on) = false by cases on <;> rfl, condO_false, ine_f rfl, condO_false, ine_f rfl, condO_false]
            refine Goes.bind (P := fun s : Bool ⊕ Unit => s = Sum.inr ()) ⟨Sum.inr (), ?_, rfl⟩ ?_
            · refine loopK_run (fun s : Nat => (s : Int) - 1) (n + 2) (Sum.inr ()) 1000 ?_ ?_ (by omega)
              · intro s hs
                rw [ile_t (show (s : Int) - 1 ≤ (n : Int) by omega), condO_true, wk_i64 (by omega) (by omega), show (s : Int) - 1 + 1 = ((s + 1 : Nat) : Int) - 1 by omega]
                generalize hz : (s : Int) - 1 = z
                by_cases hg : 0 ≤ z ∧ z < lies.length
                · have hz1 : z < (n : Int) := by have := ok.len; omega
                  rw [ige_t hg.1, condO_true, ilt_t hz1, condO_true, guardO_pos (show inR z (llen lies) from hg), peek_ok 1000 hg.1 hg.2]
                  cases on
                  · rw [read_off 1000 hg.1 hg.2, show (!false) = true from rfl, rread_off 1000 hg.1 hg.2]
                    simp only [Option.bind_some]
                    rw [sEq_self, show (!true) = false from rfl, condO_false, ine_f rfl, condO_false]
                    rw [show at_ .str lies z = lies.getD z.toNat str0 from rfl, sEq_self]
                    rfl
                  · rw [read_ok 1000 hg.1 hg.2, show (!true) = false from rfl, rread_ok 1000 hg.1 hg.2 (by omega) (by omega)]
                    simp only [Option.bind_some]
                    rw [sEq_self, show (!true) = false from rfl, condO_false, ine_f rfl, condO_false]
                    rw [show at_ .str lies z = lies.getD z.toNat str0 from rfl, sEq_self]
                    rfl
                · have hb : z < 0 ∨ (lies.length : Int) ≤ z := by omega
                  rw [show (condO (ige z 0) (condO (ilt z (n : Int)) (guardO (inR z (llen lies)) (some (at_ .str lies z))) (some str0)) (some str0) : Option ByteArray) = some str0 by
                    have := ok.len
                    by_cases h0 : z < 0
                    · rw [ige_f h0, condO_false]
                    · rw [ige_t (by omega), condO_true, ilt_f (by omega), condO_false]]
                  rw [read_arg 1000 hb, rread_arg 1000 hb, peek_arg 1000 hb]
                  simp only [Option.bind_some]
                  rw [sEq_self, show (!true) = false from rfl, condO_false, ine_f rfl, condO_false]
                  rfl
              · rw [ile_f (show (n : Int) < ((n + 2 : Nat) : Int) - 1 by omega)]
                rfl
            · rintro _ rfl
              simp only [caseS_inr]
              rw [wk_i64 (by omega) (by omega)]
              exact .on (m - 1) (by omega) ⟨i + 1, rfl, by omega, on, armed, left, steps, lies, cache, rfl, ha, ok, hc⟩
      · rw [ilt_t (show (i : Int) < llen l by unfold llen; omega), condO_true, ilt_f (show (80 : Int) ≤ i by omega), condO_false]
        exact .out ⟨_, rfl⟩
    · rw [ilt_f (show llen l ≤ (i : Int) by unfold llen; omega), condO_false]
      exact .out ⟨_, rfl⟩
  · rintro e ⟨y, rfl⟩
    rfl
end Go.Proofs.Ytlbidinmgabjbaa
