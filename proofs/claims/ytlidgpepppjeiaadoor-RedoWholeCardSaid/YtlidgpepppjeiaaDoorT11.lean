/- Texts of the proof, put together: part 11. No condition. -/
import Derived.Test.YtlidgpepppjeiaaDoorT10
/- A transaction that power cuts off: what a crash may leave of it. No condition. -/
set_option linter.unusedVariables false
set_option linter.unusedSimpArgs false
namespace Go.Proofs.YtlidgpepppjeiaaDoor
open Go
/-- A disk of which opening makes a state, with a bound of its numbers. -/
def GDb (n b : Nat) (D : List ByteArray) (S : Nat → ByteArray) : Prop := ∃ p0 s0 txs, JW n D p0 s0 txs ∧ s0 + txs.length ≤ b ∧ ∀ a, n ≤ a → a < 40 → rd D txs.flatten (a : Int) = S a
theorem GDb.mono {n b c : Nat} {D : List ByteArray} {S : Nat → ByteArray} (h : GDb n b D S) (hb : b ≤ c) : GDb n c D S := by
  obtain ⟨p0, s0, txs, j, h1, h2⟩ := h
  exact ⟨p0, s0, txs, j, by omega, h2⟩
theorem settle_not {D : List ByteArray} {c : List Put} (hr : ∀ q ∈ c, 0 ≤ q.1 ∧ q.1 < D.length) {a : Nat} (h : ¬ ∃ q ∈ c, q.1 = (a : Int)) : (settle D c).getD a str0 = D.getD a str0 := by
  have := rd_settle D c hr (a : Int) (by omega)
  rw [Int.toNat_natCast] at this
  rw [this, rd_aft, aft_not h]
theorem Poss.not {D E : List ByteArray} {c : List Put} (h : Poss D c E) {a : Nat} (hn : ¬ ∃ q ∈ c, q.1 = (a : Int)) : E.getD a str0 = D.getD a str0 := by
  rcases h.at_ a with h | ⟨q, hq, h1, _⟩
  · exact h
  · exact absurd ⟨q, hq, h1⟩ hn
theorem aft_one (S : Nat → ByteArray) (c : List Put) (a : Nat) : aft S c a = S a ∨ ∃ q ∈ c, q.1 = (a : Int) ∧ aft S c a = q.2 := by
  unfold aft
  cases hf : c.reverse.find? (fun q => q.1 == (a : Int)) with
  | none => exact .inl rfl
  | some q =>
    have h1 := List.find?_some hf
    have h2 := List.mem_reverse.1 (List.mem_of_find?_eq_some hf)
    exact .inr ⟨q, h2, by simpa using h1, rfl⟩
theorem poss_settle {D : List ByteArray} {c : List Put} (hr : ∀ q ∈ c, 0 ≤ q.1 ∧ q.1 < D.length) : Poss D c (settle D c) :=
  ⟨settle_len _ _, fun a => by
    have := rd_settle D c hr (a : Int) (by omega)
    rw [Int.toNat_natCast] at this
    rw [this, rd_aft]
    exact aft_one _ _ _⟩
theorem Poss.trans {D E F : List ByteArray} {c d : List Put} (h : Poss D c E) (g : Poss E d F) : Poss D (c ++ d) F :=
  ⟨g.len.trans h.len, fun a => by
    rcases g.at_ a with g | ⟨q, hq, h1, h2⟩
    · rcases h.at_ a with h | ⟨q, hq, h1, h2⟩
      · exact .inl (g.trans h)
      · exact .inr ⟨q, List.mem_append_left _ hq, h1, g.trans h2⟩
    · exact .inr ⟨q, List.mem_append_right _ hq, h1, h2⟩⟩
theorem Poss.self (D : List ByteArray) (c : List Put) : Poss D c D := ⟨rfl, fun _ => .inl rfl⟩
theorem Sur.keepS {n p s u : Nat} {D : List ByteArray} {cache : List Put} {S : Nat → ByteArray} {p0 s0 : Nat} {txs : List (List Put)} {E : List ByteArray} (h4 : 4 ≤ n) (x : Sur n p s u D cache S p0 s0 txs) (hl : E.length = 40) (h0 : E.getD 0 str0 = D.getD 0 str0)
    (hu : ∀ o < u, E.getD (0 + 1 + (p0 + o) % (n - 1)) str0 = D.getD (0 + 1 + (p0 + o) % (n - 1)) str0)
    (hst : redo_slots_found 1000 ((p : Int), (s : Int), slL n E, vgl_check_table) = some [])
    (hd : ∀ a, n ≤ a → a < 40 → E.getD a str0 = D.getD a str0 ∨ ∃ q ∈ txs.flatten, q.1 = (a : Int)) : GDb n s E S := by
  have hp := x.hp
  have hs := x.hs
  have hu' := x.hu
  rw [hp, hs] at hst
  refine ⟨p0, s0, txs, (x.j.toJW h4).keep h4 hl h0 (fun o ho => hu o (by omega)) hst, by omega, fun a h1 h2 => ?_⟩
  rw [← x.redo a h1 h2, rd_aft, rd_aft]
  by_cases hin : ∃ q ∈ txs.flatten, q.1 = (a : Int)
  · exact aft_mem hin
  · exact aft_congr _ ((hd a h1 h2).resolve_right hin)
theorem slot_ne {p0 u m o i : Nat} (hp : p0 < m) (ho : o < u) (hi : u + i < m) : slotA 0 m ((p0 + u) % m) i ≠ 0 + 1 + (p0 + o) % m := by
  intro h
  unfold slotA at h
  rw [Nat.mod_add_mod, Nat.add_assoc p0 u i] at h
  have := mod_inj hp (show u + i < m from hi) (show o < m by omega) (by omega)
  omega
theorem slot_in {m p i : Nat} (hm : 0 < m) : 1 ≤ slotA 0 m p i ∧ slotA 0 m p i ≤ m := by
  have := Nat.mod_lt (p + i) hm
  unfold slotA; omega
theorem Sur.stage {n p s u : Nat} {D : List ByteArray} {cache : List Put} {S : Nat → ByteArray} {p0 s0 : Nat} {txs : List (List Put)} {E : List ByteArray} {c : List Put} {k : Nat} (h4 : 4 ≤ n) (x : Sur n p s u D cache S p0 s0 txs) (hk : u + (k + 2) + 1 ≤ n - 1) (hE : Poss D c E)
    (hc : ∀ q ∈ c, q ∈ cache ∨ ∃ i ≤ k + 2, q.1 = ((slotA 0 (n - 1) p i : Nat) : Int))
    (hst : redo_slots_found 1000 ((p : Int), (s : Int), slL n E, vgl_check_table) = some []) : GDb n s E S := by
  have hm : 0 < n - 1 := by omega
  have hp := x.hp
  rw [endP_eq hm txs p0 x.j.hp, ← x.hu] at hp
  refine x.keepS h4 (hE.len.trans x.j.len) (hE.not ?_) (fun o ho => hE.not ?_) hst (fun a h1 h2 => ?_)
  · rintro ⟨q, hq, h⟩
    rcases hc q hq with hq | ⟨i, hi, h2⟩
    · have := (x.ck q hq).1.2; omega
    · have := slot_in (p := p) (i := i) hm; omega
  · have hlt := Nat.mod_lt (p0 + o) hm
    rintro ⟨q, hq, h⟩
    rcases hc q hq with hq | ⟨i, hi, h2⟩
    · have := (x.ck q hq).1.2; omega
    · have := slot_ne x.j.hp ho (show u + i < n - 1 by omega)
      rw [← hp] at this
      omega
  · rcases hE.at_ a with h | ⟨q, hq, h, _⟩
    · exact .inl h
    · rcases hc q hq with hq | ⟨i, hi, h3⟩
      · obtain ⟨r, hr, h5⟩ := (x.ck q hq).2
        exact .inr ⟨r, hr, h5.trans h⟩
      · have := slot_in (p := p) (i := i) hm; omega
/-- What a crash may leave of a journal at rest. -/
theorem Sur.poss {n p s u : Nat} {D : List ByteArray} {cache : List Put} {S : Nat → ByteArray} {p0 s0 : Nat} {txs : List (List Put)} {E : List ByteArray} (h4 : 4 ≤ n) (x : Sur n p s u D cache S p0 s0 txs) (hE : Poss D cache E) : GDb n s E S := by
  have hm : 0 < n - 1 := by omega
  have hpos := x.pos h4
  have hin : ∀ a < n, E.getD a str0 = D.getD a str0 := fun a ha => hE.not (by
    rintro ⟨q, hq, h⟩
    have := (x.ck q hq).1.2; omega)
  refine x.keepS h4 (hE.len.trans x.j.len) (hin 0 (by omega)) (fun o ho => hin _ (by have := Nat.mod_lt (p0 + o) hm; omega)) ?_ (fun a h1 h2 => ?_)
  · refine found_none (by omega) (by rw [slL_len]; omega) ?_
    rw [Int.toNat_natCast, slL_at hpos.1, hin _ (by omega), ← slL_at hpos.1]
    have := x.j.blank
    rw [← x.hp] at this
    exact this
  · rcases hE.at_ a with h | ⟨q, hq, h, _⟩
    · exact .inl h
    · obtain ⟨r, hr, h5⟩ := (x.ck q hq).2
      exact .inr ⟨r, hr, h5.trans h⟩
theorem Sur.rng {n p s u : Nat} {D : List ByteArray} {cache : List Put} {S : Nat → ByteArray} {p0 s0 : Nat} {txs : List (List Put)} (x : Sur n p s u D cache S p0 s0 txs) : ∀ q ∈ cache, 0 ≤ q.1 ∧ q.1 < D.length := fun q hq => ⟨(x.ck q hq).1.1.lo, by rw [x.j.len]; exact (x.ck q hq).1.1.hi⟩
theorem Sur.settled {n p s u : Nat} {D : List ByteArray} {cache : List Put} {S : Nat → ByteArray} {p0 s0 : Nat} {txs : List (List Put)} (x : Sur n p s u D cache S p0 s0 txs) : ∀ a, n ≤ a → a < 40 → (settle D cache).getD a str0 = S a := fun a h1 h2 => by
  have := rd_settle D cache x.rng (a : Int) (by omega)
  rw [Int.toNat_natCast] at this
  rw [this]; exact x.now a h1 h2
/-! ### Checkpoint -/
theorem Sur.check {n p s u : Nat} {D : List ByteArray} {cache : List Put} {S : Nat → ByteArray} {p0 s0 : Nat} {txs : List (List Put)} (h4 : 4 ≤ n) (h40 : n ≤ 40) (x : Sur n p s u D cache S p0 s0 txs) : Sur n p s 0 ((settle D cache).set 0 (hdB p s)) [] S p s [] := by
  have hl := x.j.len
  have jc := x.j.settle h4 (fun q hq => (x.ck q hq).1)
  have jk := jc.check h4 h40
  rw [← x.hp, ← x.hs] at jk
  have hd : ∀ a, n ≤ a → a < 40 → ((settle D cache).set 0 (hdB p s)).getD a str0 = S a := fun a h1 h2 => by
    rw [getD_set (by rw [settle_len]; omega), if_neg (by omega)]; exact x.settled a h1 h2
  exact ⟨jk, rfl, rfl, rfl, (fun q hq => by cases hq), by simp, hd, hd⟩
theorem Sur.checkFail {n p s u : Nat} {D : List ByteArray} {cache : List Put} {S : Nat → ByteArray} {p0 s0 : Nat} {txs : List (List Put)} {E : List ByteArray} (h4 : 4 ≤ n) (h40 : n ≤ 40) (x : Sur n p s u D cache S p0 s0 txs) (hE : Poss (settle D cache) [(((0 : Nat) : Int), hdB p s)] E) : GDb n s E S := by
  have hl := x.j.len
  have hne : ∀ a, a ≠ 0 → E.getD a str0 = (settle D cache).getD a str0 := fun a ha => hE.not (by
    rintro ⟨q, hq, h⟩
    obtain rfl := List.mem_singleton.1 hq
    simp only at h; omega)
  rcases hE.at_ 0 with h | ⟨q, hq, _, h⟩
  · refine x.poss h4 ?_
    have h2 := (poss_settle x.rng).trans (d := []) (F := E) ⟨hE.len, fun a => .inl (by
      by_cases ha : a = 0
      · subst ha; exact h
      · exact hne a ha)⟩
    rwa [List.append_nil] at h2
  · obtain rfl := List.mem_singleton.1 hq
    refine (x.check h4 h40).poss h4 ⟨by rw [hE.len, List.length_set], fun a => .inl ?_⟩
    rw [getD_set (by rw [settle_len]; omega)]
    by_cases ha : 0 = a
    · subst ha; rw [if_pos rfl]; exact h
    · rw [if_neg ha]; exact hne a (Ne.symm ha)
/-! ### a transaction, power going at any of its steps -/
structure Room (n u k : Nat) (puts : List Put) : Prop where
  k1 : 1 ≤ puts.length
  len : puts.length = k
  room : u + (k + 2) + 1 ≤ n - 1
  P : ∀ q ∈ puts, PutOk 40 q ∧ (n : Int) ≤ q.1
def blD (n p k : Nat) (D : List ByteArray) (cache : List Put) : List ByteArray := settle D (cache ++ blanks 0 (n - 1) p k)
def roP (n p : Nat) (s : Int) (puts : List Put) : List Put := (((slotA 0 (n - 1) p 0 : Nat) : Int), lineB (firstT s (atsL puts))) :: rowsL 0 (n - 1) p puts
def laP (n p : Nat) (s : Int) (k : Nat) : List Put := [(((slotA 0 (n - 1) p (k + 1) : Nat) : Int), lineB (lastT s k))]
theorem blanks_mem {m p k : Nat} : ∀ q ∈ blanks 0 m p k, ∃ i, (i = k + 1 ∨ i = k + 2) ∧ q = (((slotA 0 m p i : Nat) : Int), noneS) := by
  intro q hq
  simp only [blanks, List.mem_cons, List.not_mem_nil, or_false] at hq
  rcases hq with rfl | rfl
  · exact ⟨k + 1, .inl rfl, rfl⟩
  · exact ⟨k + 2, .inr rfl, rfl⟩
theorem roP_mem {n p : Nat} {s : Int} {puts : List Put} : ∀ q ∈ roP n p s puts, ∃ i ≤ puts.length, q.1 = ((slotA 0 (n - 1) p i : Nat) : Int) ∧ (i = 0 → q.2 = lineB (firstT s (atsL puts))) := by
  intro q hq
  rcases List.mem_cons.1 hq with rfl | hq
  · exact ⟨0, by omega, rfl, fun _ => rfl⟩
  · unfold rowsL at hq
    obtain ⟨j, hj, rfl⟩ := List.mem_mapIdx.1 hq
    exact ⟨1 + j, by omega, rfl, fun h => by omega⟩
theorem slot_inj {m p i j : Nat} (hp : p < m) (hi : i < m) (hj : j < m) (h : slotA 0 m p i = slotA 0 m p j) : i = j := mod_inj hp hi hj (by unfold slotA at h; omega)
section
variable {n p s u : Nat} {D : List ByteArray} {cache : List Put} {S : Nat → ByteArray} {p0 s0 : Nat} {txs : List (List Put)} {E : List ByteArray} {puts : List Put} {k : Nat}
theorem Sur.slotp (h4 : 4 ≤ n) (x : Sur n p s u D cache S p0 s0 txs) : D.getD (slotA 0 (n - 1) p 0) str0 = noneS := by
  have hpos := x.pos h4
  have := x.j.blank
  rw [← x.hp, slL_at hpos.1] at this
  unfold slotA
  rw [Nat.add_zero p, Nat.mod_eq_of_lt hpos.1]
  exact this
/-- The first slot has nothing, or the first line, and the last one nothing: the chain stops. -/
theorem Sur.stops (h4 : 4 ≤ n) (h40 : n ≤ 40) (x : Sur n p s u D cache S p0 s0 txs) (r : Room n u k puts) (hl : E.length = 40) (h1 : E.getD (slotA 0 (n - 1) p 0) str0 = noneS ∨ E.getD (slotA 0 (n - 1) p 0) str0 = lineB (firstT (s : Int) (atsL puts)) ∧ E.getD (slotA 0 (n - 1) p (k + 1)) str0 = noneS) :
    redo_slots_found 1000 ((p : Int), (s : Int), slL n E, vgl_check_table) = some [] := by
  have hpos := x.pos h4
  have hm : 0 < n - 1 := by omega
  have hk1 := r.k1
  have hk := r.len
  have hrm := r.room
  have hs := x.hs
  have hss := x.j.hs
  have e0 : slotA 0 (n - 1) p 0 = 0 + 1 + p := by unfold slotA; rw [Nat.add_zero p, Nat.mod_eq_of_lt hpos.1]
  have la : (atsL puts).length = k := by simp only [atsL, List.length_map]; exact hk
  rcases h1 with h | ⟨h1, h2⟩
  · refine found_none (by omega) (by rw [slL_len]; omega) ?_
    rw [Int.toNat_natCast, slL_at hpos.1, ← e0]
    exact h
  · refine stop_first (ats := atsL puts) (by rw [slL_len]; omega) (by rw [slL_len]; omega) (by rw [slL_len]; omega) (by omega) (by omega) (by rw [slL_len]; omega) (fun a ha => ?_) ?_ ?_
    · obtain ⟨q, hq, rfl⟩ := List.mem_map.1 ha
      have := (r.P q hq).1.lo
      have := (r.P q hq).1.hi
      omega
    · rw [slL_at hpos.1, ← e0]; exact h1
    · rw [slL_len, slL_at (Nat.mod_lt _ hm), la]
      exact h2
theorem Sur.fail1 (h4 : 4 ≤ n) (h40 : n ≤ 40) (x : Sur n p s u D cache S p0 s0 txs) (r : Room n u k puts) (hE : Poss D (cache ++ blanks 0 (n - 1) p k) E) : GDb n s E S := by
  have hm : 0 < n - 1 := by omega
  have hpos := x.pos h4
  have hrm := r.room
  refine x.stage h4 r.room hE (fun q hq => ?_) (x.stops h4 h40 r (hE.len.trans x.j.len) (.inl ?_))
  · rcases List.mem_append.1 hq with hq | hq
    · exact .inl hq
    · obtain ⟨i, hi, rfl⟩ := blanks_mem q hq
      exact .inr ⟨i, by omega, rfl⟩
  · rw [hE.not, x.slotp h4]
    rintro ⟨q, hq, h⟩
    rcases List.mem_append.1 hq with hq | hq
    · have := (x.ck q hq).1.2
      have := slot_in (p := p) (i := 0) hm
      omega
    · obtain ⟨i, hi, rfl⟩ := blanks_mem q hq
      have := slot_inj hpos.1 (show i < n - 1 by omega) (show 0 < n - 1 by omega) (Int.ofNat.inj h)
      omega
theorem Sur.blRng (h4 : 4 ≤ n) (h40 : n ≤ 40) (x : Sur n p s u D cache S p0 s0 txs) : ∀ q ∈ cache ++ blanks 0 (n - 1) p k, 0 ≤ q.1 ∧ q.1 < D.length := by
  have hm : 0 < n - 1 := by omega
  intro q hq
  have hl := x.j.len
  rcases List.mem_append.1 hq with hq | hq
  · exact x.rng q hq
  · obtain ⟨i, _, rfl⟩ := blanks_mem q hq
    have := slot_in (p := p) (i := i) hm
    simp only
    omega
theorem Sur.blLen (x : Sur n p s u D cache S p0 s0 txs) : (blD n p k D cache).length = 40 := by unfold blD; rw [settle_len]; exact x.j.len
theorem Sur.blAt (h4 : 4 ≤ n) (h40 : n ≤ 40) (x : Sur n p s u D cache S p0 s0 txs) (r : Room n u k puts) : (blD n p k D cache).getD (slotA 0 (n - 1) p 0) str0 = noneS ∧ (blD n p k D cache).getD (slotA 0 (n - 1) p (k + 1)) str0 = noneS := by
  have hm : 0 < n - 1 := by omega
  have hpos := x.pos h4
  have hrm := r.room
  constructor
  · unfold blD
    rw [settle_not (x.blRng h4 h40), x.slotp h4]
    rintro ⟨q, hq, h⟩
    rcases List.mem_append.1 hq with hq | hq
    · have := (x.ck q hq).1.2
      have := slot_in (p := p) (i := 0) hm
      omega
    · obtain ⟨i, hi, rfl⟩ := blanks_mem q hq
      have := slot_inj hpos.1 (show i < n - 1 by omega) (show 0 < n - 1 by omega) (Int.ofNat.inj h)
      omega
  · have hl := x.j.len
    have e : blD n p k D cache = setD (setD (settle D cache) (((slotA 0 (n - 1) p (k + 1) : Nat) : Int), noneS)) (((slotA 0 (n - 1) p (k + 2) : Nat) : Int), noneS) := by
      unfold blD; rw [settle_app]; rfl
    have h1 := slot_in (p := p) (i := k + 1) hm
    have h2 := slot_in (p := p) (i := k + 2) hm
    rw [e, setD_at (by rw [setD_len, settle_len]; omega), setD_at (by rw [settle_len]; omega)]
    split
    · rfl
    · rw [if_pos rfl]
/-- The first line and the rows, any of them. -/
theorem Sur.mid (h4 : 4 ≤ n) (h40 : n ≤ 40) (x : Sur n p s u D cache S p0 s0 txs) (r : Room n u k puts) (hE : Poss (blD n p k D cache) (roP n p s puts) E) : (E.getD (slotA 0 (n - 1) p 0) str0 = noneS ∨ E.getD (slotA 0 (n - 1) p 0) str0 = lineB (firstT (s : Int) (atsL puts))) ∧ E.getD (slotA 0 (n - 1) p (k + 1)) str0 = noneS := by
  have hm : 0 < n - 1 := by omega
  have hpos := x.pos h4
  have hrm := r.room
  have hrk := r.len
  obtain ⟨b1, b2⟩ := x.blAt h4 h40 r
  constructor
  · rcases hE.at_ (slotA 0 (n - 1) p 0) with h | ⟨q, hq, h1, h2⟩
    · exact .inl (h.trans b1)
    · obtain ⟨i, hi, h3, h5⟩ := roP_mem q hq
      have := slot_inj hpos.1 (show i < n - 1 by omega) (show 0 < n - 1 by omega) (by omega)
      exact .inr (h2.trans (h5 this))
  · rw [hE.not, b2]
    rintro ⟨q, hq, h⟩
    obtain ⟨i, hi, h3, _⟩ := roP_mem q hq
    have := slot_inj hpos.1 (show i < n - 1 by omega) (show k + 1 < n - 1 by omega) (by omega)
    omega
theorem Sur.fail2 (h4 : 4 ≤ n) (h40 : n ≤ 40) (x : Sur n p s u D cache S p0 s0 txs) (r : Room n u k puts) (hE : Poss (blD n p k D cache) (roP n p s puts) E) : GDb n s E S := by
  have hrk := r.len
  obtain ⟨m1, m2⟩ := x.mid h4 h40 r hE
  refine x.stage h4 r.room ((poss_settle (x.blRng h4 h40)).trans hE) (fun q hq => ?_) (x.stops h4 h40 r (hE.len.trans x.blLen) (m1.imp id (fun h => ⟨h, m2⟩)))
  rcases List.mem_append.1 hq with hq | hq
  · rcases List.mem_append.1 hq with hq | hq
    · exact .inl hq
    · obtain ⟨i, hi, rfl⟩ := blanks_mem q hq
      exact .inr ⟨i, by omega, rfl⟩
  · obtain ⟨i, hi, h, _⟩ := roP_mem q hq
    exact .inr ⟨i, by omega, h⟩
theorem roP_rng (h4 : 4 ≤ n) (h40 : n ≤ 40) (hl : D.length = 40) : ∀ q ∈ roP n p s puts, 0 ≤ q.1 ∧ q.1 < D.length := by
  have hm : 0 < n - 1 := by omega
  intro q hq
  obtain ⟨i, _, h, _⟩ := roP_mem q hq
  have := slot_in (p := p) (i := i) hm
  omega
def roD (n p : Nat) (s : Int) (k : Nat) (puts : List Put) (D : List ByteArray) (cache : List Put) : List ByteArray := settle (blD n p k D cache) (roP n p s puts)
theorem Sur.roLen (x : Sur n p s u D cache S p0 s0 txs) : (roD n p s k puts D cache).length = 40 := by unfold roD; rw [settle_len]; exact x.blLen
def laD (n p : Nat) (s : Int) (k : Nat) (puts : List Put) (D : List ByteArray) (cache : List Put) : List ByteArray := settle (roD n p s k puts D cache) (laP n p s k)
theorem laD_eq (r : Room n u k puts) : laD n p s k puts D cache = commitD 0 (n - 1) p s (beforeD 0 n p s u puts.length (settle D cache)) puts := by
  have hrm := r.room
  have hrk := r.len
  have eB : beforeD 0 n p (s : Int) u puts.length (settle D cache) = settle D cache := by unfold beforeD; rw [if_neg (by omega)]
  rw [eB]
  unfold laD roD blD laP roP commitD
  rw [settle_app, hrk]
/-- The transaction is there. -/
theorem Sur.done (h4 : 4 ≤ n) (h40 : n ≤ 40) (x : Sur n p s u D cache S p0 s0 txs) (r : Room n u k puts) (hs : s + 1 ≤ 100000) : ∃ p0 s0 txs, Sur n ((p + (k + 2)) % (n - 1)) (s + 1) (u + (k + 2)) (laD n p s k puts D cache) puts (aft S puts) p0 s0 txs := by
  have hrm := r.room
  have hrk := r.len
  obtain ⟨p1, s1, t1, x1⟩ := x.commit h4 h40 r.k1 (by omega) hs r.P
  rw [← laD_eq r, hrk] at x1
  have e : afterU n u k = u + (k + 2) := by unfold afterU; rw [if_neg (by omega)]
  rw [e] at x1
  exact ⟨p1, s1, t1, x1⟩
theorem Sur.fail3 (h4 : 4 ≤ n) (h40 : n ≤ 40) (x : Sur n p s u D cache S p0 s0 txs) (r : Room n u k puts) (hs : s + 1 ≤ 100000) (hE : Poss (roD n p s k puts D cache) (laP n p s k) E) : GDb n (s + 1) E S ∨ GDb n (s + 1) E (aft S puts) := by
  have hm : 0 < n - 1 := by omega
  have hpos := x.pos h4
  have hrm := r.room
  have hrk := r.len
  have hro : Poss (blD n p k D cache) (roP n p s puts) (roD n p s k puts D cache) := poss_settle (roP_rng h4 h40 x.blLen)
  have hne : ∀ a, a ≠ slotA 0 (n - 1) p (k + 1) → E.getD a str0 = (roD n p s k puts D cache).getD a str0 := fun a ha => hE.not (by
    rintro ⟨q, hq, h⟩
    obtain rfl := List.mem_singleton.1 hq
    simp only at h; omega)
  have hlt := slot_in (p := p) (i := k + 1) hm
  rcases hE.at_ (slotA 0 (n - 1) p (k + 1)) with h | ⟨q, hq, _, h⟩
  · refine .inl ((x.fail2 h4 h40 r ?_).mono (Nat.le_succ s))
    have h2 := hro.trans (d := []) (F := E) ⟨hE.len, fun a => .inl (by
      by_cases ha : a = slotA 0 (n - 1) p (k + 1)
      · subst ha; exact h
      · exact hne a ha)⟩
    rwa [List.append_nil] at h2
  · obtain rfl := List.mem_singleton.1 hq
    obtain ⟨p1, s1, t1, x1⟩ := x.done h4 h40 r hs
    refine .inr (x1.poss h4 ⟨by rw [hE.len]; unfold laD; rw [settle_len], fun a => .inl ?_⟩)
    have e : laD n p s k puts D cache = setD (roD n p s k puts D cache) (((slotA 0 (n - 1) p (k + 1) : Nat) : Int), lineB (lastT s k)) := rfl
    rw [e, setD_at (by rw [x.roLen]; omega)]
    by_cases ha : slotA 0 (n - 1) p (k + 1) = a
    · subst ha; rw [if_pos rfl]; exact h
    · rw [if_neg ha]; exact hne a (Ne.symm ha)
theorem Sur.fail4 (h4 : 4 ≤ n) (h40 : n ≤ 40) (x : Sur n p s u D cache S p0 s0 txs) (r : Room n u k puts) (hs : s + 1 ≤ 100000) (hE : Poss (laD n p s k puts D cache) puts E) : GDb n (s + 1) E (aft S puts) := by
  obtain ⟨p1, s1, t1, x1⟩ := x.done h4 h40 r hs
  exact x1.poss h4 hE
end
end Go.Proofs.YtlidgpepppjeiaaDoor
/- A journal's calls, power going at any step. No condition. -/
set_option linter.unusedVariables false
set_option linter.unusedSimpArgs false
namespace Go.Proofs.YtlidgpepppjeiaaDoor
open Go
theorem bind_ex {α β : Type} {o : Option α} {f : α → Option β} {Q : β → Prop} (P : α → Prop) (h : ∃ a, o = some a ∧ P a) (hf : ∀ a, P a → ∃ r, f a = some r ∧ Q r) : ∃ r, o.bind f = some r ∧ Q r := by
  obtain ⟨a, rfl, hp⟩ := h
  exact hf a hp
/-- A disk without power (or a log that is broken): what a crash may leave of it. -/
structure Down (n b : Nat) (D : List ByteArray) (c : List Put) (S M : Nat → ByteArray) : Prop where
  len : D.length = 40
  rng : ∀ q ∈ c, 0 ≤ q.1 ∧ q.1 < D.length
  cl : c.length ≤ 800
  gd : ∀ E, Poss D c E → GDb n b E S ∨ GDb n b E M
theorem Down.mono {n b b' : Nat} {D : List ByteArray} {c : List Put} {S M : Nat → ByteArray} (h : Down n b D c S M) (hb : b ≤ b') : Down n b' D c S M :=
  ⟨h.len, h.rng, h.cl, fun E hE => (h.gd E hE).imp (·.mono hb) (·.mono hb)⟩
/-! ### opening -/
section
variable {n : Nat} {D E : List ByteArray} {p0 s0 : Nat} {txs : List (List Put)} {X : Nat → ByteArray}
theorem JW.rng (j : JW n D p0 s0 txs) : ∀ q ∈ txs.flatten, 0 ≤ q.1 ∧ q.1 < D.length := fun q hq => ⟨(j.puts q hq).1.lo, by rw [j.len]; exact (j.puts q hq).1.hi⟩
theorem JW.open0 (h4 : 4 ≤ n) (j : JW n D p0 s0 txs) (hX : ∀ a, n ≤ a → a < 40 → rd D txs.flatten (a : Int) = X a) (hE : Poss D txs.flatten E) : GDb n (s0 + txs.length) E X := by
  refine ⟨p0, s0, txs, j.congr h4 (hE.len.trans j.len) (fun a ha => hE.not ?_), Nat.le_refl _, fun a h1 h2 => ?_⟩
  · rintro ⟨q, hq, h⟩
    have := (j.puts q hq).2; omega
  · rw [← hX a h1 h2, rd_aft, rd_aft]
    by_cases hin : ∃ q ∈ txs.flatten, q.1 = (a : Int)
    · exact aft_mem hin
    · exact aft_congr _ (hE.not hin)
theorem JW.set_in (h4 : 4 ≤ n) (j : JW n D p0 s0 txs) {a : Nat} (ha : a < n) : (settle D txs.flatten).getD a str0 = D.getD a str0 := settle_not j.rng (by
  rintro ⟨q, hq, h⟩
  have := (j.puts q hq).2; omega)
theorem JW.set_out (j : JW n D p0 s0 txs) (hX : ∀ a, n ≤ a → a < 40 → rd D txs.flatten (a : Int) = X a) {a : Nat} (h1 : n ≤ a) (h2 : a < 40) : (settle D txs.flatten).getD a str0 = X a := by
  have := rd_settle D txs.flatten j.rng (a : Int) (by omega)
  rw [Int.toNat_natCast] at this
  rw [this]; exact hX a h1 h2
theorem JW.open1 (h4 : 4 ≤ n) (h40 : n ≤ 40) (j : JW n D p0 s0 txs) (hX : ∀ a, n ≤ a → a < 40 → rd D txs.flatten (a : Int) = X a)
    (hE : Poss (settle D txs.flatten) [(((0 : Nat) : Int), hdB (endP (n - 1) p0 txs : Nat) ((s0 + txs.length : Nat) : Int)), (((0 + 1 + endP (n - 1) p0 txs : Nat) : Int), noneS)] E) : GDb n (s0 + txs.length) E X := by
  have hm : 0 < n - 1 := by omega
  have hp := endP_lt hm txs p0 j.hp
  have he := endP_eq hm txs p0 j.hp
  have hu := j.used
  have hs := j.hs
  have hs1 := j.hs1
  have hl : E.length = 40 := by rw [hE.len, settle_len]; exact j.len
  generalize hpp : endP (n - 1) p0 txs = p at hp he hE
  generalize hss : s0 + txs.length = s at hs hE
  have hne : ∀ a, a ≠ 0 → a ≠ 0 + 1 + p → E.getD a str0 = (settle D txs.flatten).getD a str0 := fun a h1 h2 => hE.not (by
    rintro ⟨q, hq, h⟩
    simp only [List.mem_cons, List.not_mem_nil, or_false] at hq
    rcases hq with rfl | rfl <;> simp only at h <;> omega)
  have hout : ∀ a, n ≤ a → a < 40 → E.getD a str0 = X a := fun a h1 h2 => by rw [hne a (by omega) (by omega), j.set_out hX h1 h2]
  have hat := hE.at_ (0 + 1 + p)
  have hp2 : E.getD (0 + 1 + p) str0 = D.getD (0 + 1 + p) str0 ∨ E.getD (0 + 1 + p) str0 = noneS := by
    rcases hat with h | ⟨q, hq, h1, h2⟩
    · exact .inl (h.trans (j.set_in h4 (by omega)))
    · simp only [List.mem_cons, List.not_mem_nil, or_false] at hq
      rcases hq with rfl | rfl
      · simp only at h1; omega
      · exact .inr h2
  have hst : redo_slots_found 1000 ((p : Int), (s : Int), slL n E, vgl_check_table) = some [] := by
    rcases hp2 with h | h
    · have e : slL n E = slL n D := by
        apply List.ext_getElem
        · rw [slL_len, slL_len]
        · intro i h1 h2
          rw [slL_len] at h1
          have g : ∀ (L : List ByteArray) (hi : i < (slL n L).length), (slL n L)[i] = L.getD (0 + 1 + i) str0 := fun L hi => by
            rw [← slL_at h1, List.getD_eq_getElem?_getD, List.getElem?_eq_getElem hi]; rfl
          rw [g E (by rw [slL_len]; exact h1), g D h2]
          by_cases hi : i = p
          · subst hi; exact h
          · rw [hne _ (by omega) (by omega), j.set_in h4 (by omega)]
      rw [e, ← hpp, ← hss]; exact j.stop
    · refine found_none (by omega) (by rw [slL_len]; omega) ?_
      rw [Int.toNat_natCast, slL_at hp]; exact h
  rcases hE.at_ 0 with h | ⟨q, hq, h1, h2⟩
  · refine ⟨p0, s0, txs, j.keep h4 hl (h.trans (j.set_in h4 (by omega))) (fun o ho => ?_) (by rw [hpp, hss]; exact hst), by omega, fun a h1 h2 => ?_⟩
    · have hlt := Nat.mod_lt (p0 + o) hm
      have hx : (p0 + o) % (n - 1) ≠ p := fun e => by
        rw [he] at e
        have := mod_inj j.hp (show o < n - 1 by omega) (show usedT txs < n - 1 by omega) e
        omega
      rw [hne _ (by omega) (by omega), j.set_in h4 (by omega)]
    · rw [rd_aft]
      by_cases hin : ∃ q ∈ txs.flatten, q.1 = (a : Int)
      · rw [aft_mem (S' := fun i => D.getD i str0) hin, ← rd_aft]; exact hX a h1 h2
      · rw [aft_not hin]; exact hout a h1 h2
  · have h3 : E.getD 0 str0 = hdB p s := by
      simp only [List.mem_cons, List.not_mem_nil, or_false] at hq
      rcases hq with rfl | rfl
      · exact h2
      · simp only at h1; omega
    exact ⟨p, s, [], ⟨hl, h3, hp, by omega, by simpa using hs, trivial, by simp only [usedT]; omega, by simpa [endP] using hst, (fun q hq => by cases hq)⟩, by simp, hout⟩
theorem JW.opened (h4 : 4 ≤ n) (h40 : n ≤ 40) (j : JW n D p0 s0 txs) (hX : ∀ a, n ≤ a → a < 40 → rd D txs.flatten (a : Int) = X a) :
    Sur n (endP (n - 1) p0 txs) (s0 + txs.length) 0 (openD 0 (endP (n - 1) p0 txs) ((s0 + txs.length : Nat) : Int) D txs) [] X (endP (n - 1) p0 txs) (s0 + txs.length) [] := by
  have hl := j.len
  have hm : 0 < n - 1 := by omega
  have hp := endP_lt hm txs p0 j.hp
  have hs := j.hs
  have hs1 := j.hs1
  have h0 := j.hd
  generalize hpp : endP (n - 1) p0 txs = p at hp
  generalize hss : s0 + txs.length = s at hs
  have e : settle (settle D txs.flatten) [(((0 : Nat) : Int), hdB p s), (((0 + 1 + p : Nat) : Int), noneS)] = setD (setD (settle D txs.flatten) (((0 : Nat) : Int), hdB p s)) (((0 + 1 + p : Nat) : Int), noneS) := rfl
  have hbl : (openD 0 p (s : Int) D txs).getD (0 + 1 + p) str0 = noneS := by
    unfold openD
    split
    · rw [getD_set (by omega), if_pos rfl]
    · rw [e, setD_at (by rw [setD_len, settle_len]; omega), if_pos rfl]
  have hdata : ∀ a, n ≤ a → a < 40 → (openD 0 p (s : Int) D txs).getD a str0 = X a := fun a h1 h2 => by
    unfold openD
    split
    · rename_i h0
      have hr := hX a h1 h2
      rw [h0] at hr
      rw [getD_set (by omega), if_neg (by omega)]
      exact hr
    · rw [e, setD_at (by rw [setD_len, settle_len]; omega), if_neg (by omega), setD_at (by rw [settle_len]; omega), if_neg (by omega), j.set_out hX h1 h2]
  have hhd : (openD 0 p (s : Int) D txs).getD 0 str0 = hdB p s := by
    unfold openD
    split
    · rename_i he
      rw [he] at hpp hss
      simp only [endP, List.length_nil, Nat.add_zero] at hpp hss
      rw [getD_set (by omega), if_neg (by omega), h0, hpp, hss]
    · rw [e, setD_at (by rw [setD_len, settle_len]; omega), if_neg (by omega), setD_at (by rw [settle_len]; omega), if_pos rfl]
  exact ⟨⟨by rw [openD_len]; exact hl, hhd, hp, by omega, by simp only [List.length_nil]; omega, trivial, by simp only [usedT]; omega, by
    simp only [endP]; rw [slL_at hp]; exact hbl, (fun q hq => by cases hq)⟩, rfl, rfl, rfl, (fun q hq => by cases hq), by simp, hdata, hdata⟩
end
end Go.Proofs.YtlidgpepppjeiaaDoor
/- A journal's calls, walked, power going at any step: Checkpoint and Open. No condition. -/
set_option linter.unusedVariables false
set_option linter.unusedSimpArgs false
namespace Go.Proofs.YtlidgpepppjeiaaDoor
open Go
section
variable {n p s u : Nat} {D : List ByteArray} {cache : List Put} {S : Nat → ByteArray} {p0 s0 : Nat} {txs : List (List Put)} {armed : Bool} {left steps : Int}
theorem head_put {L : List ByteArray} (hl : L.length = 40) (p s : Int) : ∀ q ∈ [(((0 : Nat) : Int), hdB p s)], PutOk L.length q := fun q hq => by
  obtain rfl := List.mem_singleton.1 hq
  exact ⟨by simp only; omega, by simp only; omega, line_size (Nat.le_trans (headT_len p s) (by decide))⟩
theorem check_any (h4 : 4 ≤ n) (h40 : n ≤ 40) (x : Sur n p s u D cache S p0 s0 txs) :
    ∃ r, redo_Log_Checkpoint 1000 (((0 : Nat) : Int), (n : Int), (p : Int), (s : Int), (u : Int), false, vgl_check_table, true, armed, left, steps, D, cache) = some r ∧
      ((∃ left' st D' c' p0 s0 txs, r = (0, ((0 : Nat) : Int), (n : Int), (p : Int), (s : Int), ((0 : Nat) : Int), false, true, armed, left', st, D', c') ∧ Sur n p s 0 D' c' S p0 s0 txs) ∨
       (armed = true ∧ ∃ left' st D' c', r = (14, ((0 : Nat) : Int), (n : Int), (p : Int), (s : Int), (u : Int), true, false, armed, left', st, D', c') ∧ Down n s D' c' S S)) := by
  have hl := x.j.len
  have hcl := x.cl
  by_cases hu : u = 0
  · subst hu
    exact ⟨_, check_idle, .inl ⟨left, steps, D, cache, p0, s0, txs, rfl, x⟩⟩
  obtain ⟨r1, e1, w1⟩ := writes_any (on := true) (armed := armed) (left := left) (steps := steps) (lies := D) (cache := cache) (puts := []) true (.inr rfl) (fun q hq => by cases hq) (by omega) (by simp only [List.length_nil]; omega) x.rng
  unfold redo_Log_Checkpoint
  refine bind_ex (fun a => a = 0) ⟨0, rfl, rfl⟩ ?_
  rintro _ rfl
  simp only [show ine 0 0 = false from rfl, condO_false]
  rw [ieq_f (show (u : Int) ≠ 0 by omega), condO_false]
  refine bind_ex (fun a => a = r1) ⟨_, e1, rfl⟩ ?_
  rintro _ rfl
  rcases w1 with ⟨l1, t1, rfl⟩ | ⟨har, l1, t1, i, hi, rfl⟩
  · simp only [if_true, List.append_nil, show ieq 0 0 = true from rfl, condO_true]
    have hl1 : (settle D cache).length = 40 := by rw [settle_len]; exact hl
    obtain ⟨r2, e2, w2⟩ := writes_any (on := true) (armed := armed) (left := l1) (steps := t1) (lies := settle D cache) (cache := []) (puts := [(((0 : Nat) : Int), hdB p s)]) true (.inr rfl) (head_put hl1 p s) (by omega) (by simp) (fun q hq => by cases hq)
    have k1 := kput_le p 65535 (by decide)
    have k2 := kput_le s 1099511627776 (by decide)
    refine bind_ex (fun a => a = r2) ⟨_, ?_, rfl⟩ ?_
    · rw [cput16, cput40]
      simp only [Option.bind_some, kind3]
      rw [guardO_pos (catOk_small (by decide) (by omega))]
      simp only [mkB_app]
      rw [guardO_pos (catOk_small (by simp only [List.length_append, List.length_cons, List.length_nil]; omega) (by omega)), line_ok (t := [83, 67, 72] ++ putL (kpn p 65535) ++ putL (kpn s 1099511627776)) (Nat.le_trans (headT_len p s) (by decide))]
      exact bind_of e2 rfl
    · rintro _ rfl
      rcases w2 with ⟨l2, t2, rfl⟩ | ⟨har, l2, t2, i, hi, rfl⟩
      · exact ⟨_, rfl, .inl ⟨l2, t2, (settle D cache).set 0 (hdB p s), [], p, s, [], rfl, x.check h4 h40⟩⟩
      · refine ⟨_, rfl, .inr ⟨har rfl, l2, t2, _, _, rfl, hl1, fun q hq => ?_, ?_, fun E hE => .inl (x.checkFail h4 h40 (hE.mono (fun q hq => ?_)))⟩⟩
        · rw [List.nil_append] at hq
          have := head_put hl1 p s q (List.mem_of_mem_take hq)
          exact ⟨this.lo, this.hi⟩
        · rw [List.nil_append, List.length_take]; simp only [List.length_cons, List.length_nil]; omega
        · rw [List.nil_append] at hq; exact List.mem_of_mem_take hq
  · refine ⟨_, rfl, .inr ⟨har rfl, l1, t1, D, _, rfl, hl, fun q hq => ?_, ?_, fun E hE => .inl (x.poss h4 (hE.mono (fun q hq => ?_)))⟩⟩
    · rw [List.take_nil, List.append_nil] at hq; exact x.rng q hq
    · rw [List.take_nil, List.append_nil]; show cache.length ≤ 800; omega
    · rw [List.take_nil, List.append_nil] at hq; exact hq
/-! ### opening -/
variable {X : Nat → ByteArray}
theorem open_any (h4 : 4 ≤ n) (h40 : n ≤ 40) (j : JW n D p0 s0 txs) (hX : ∀ a, n ≤ a → a < 40 → rd D txs.flatten (a : Int) = X a) :
    ∃ r, redo_Open 1000 (((0 : Nat) : Int), (n : Int), true, armed, left, steps, vgl_check_table, D, []) = some r ∧
      ((∃ left' st D' p s, r = .inr (0, true, armed, left', st, ((0 : Nat) : Int), (n : Int), ((p : Nat) : Int), ((s : Nat) : Int), ((0 : Nat) : Int), false, D', []) ∧ s = s0 + txs.length ∧ Sur n p s 0 D' [] X p s []) ∨
       (armed = true ∧ ∃ left' st D' c', r = .inl (14, false, armed, left', st, D', c') ∧ Down n (s0 + txs.length) D' c' X X)) := by
  have hl := j.len
  have hm : 0 < n - 1 := by omega
  have hp := endP_lt hm txs p0 j.hp
  have hus := j.used
  have hul := usedT_len txs
  have hs := j.hs
  have hs1 := j.hs1
  have hsc := scan_ok (R := regL D 0 n) (p := p0) (s := s0) (txs := txs) (by rw [regL_len]; exact h4) (by rw [regL_len]; omega) (by rw [regL_at _ _ _ _ (by omega)]; exact j.hd) (by rw [regL_len]; exact j.hp) hs1 (by omega) (by
    rw [chain_iff]
    have hle : ((regL D 0 n).drop 1).length = n - 1 := slL_len n D
    exact ⟨j.chn, by rw [hle]; exact j.stop⟩) (by rw [regL_len]; omega) (by omega)
  rw [regL_len] at hsc
  have hop := j.opened h4 h40 hX
  have hF0 : ∀ {E : List ByteArray}, Poss D txs.flatten E → GDb n (s0 + txs.length) E X := fun h => j.open0 h4 hX h
  have hF1 := fun (E : List ByteArray) (h : Poss (settle D txs.flatten) _ E) => j.open1 h4 h40 hX h
  generalize endP (n - 1) p0 txs = p at hp hsc hop hF1
  generalize s0 + txs.length = s at hs hsc hop hF0 hF1 ⊢
  have hL : (settle D txs.flatten).length = 40 := by rw [settle_len]; exact hl
  have hpn : ∀ {L : List ByteArray}, L.length = 40 → ∀ q ∈ [(((0 + 1 + p : Nat) : Int), noneS)], PutOk L.length q := fun hLL q hq => by
    obtain rfl := List.mem_singleton.1 hq
    exact ⟨by simp only; omega, by simp only; omega, none_size⟩
  have k1 := kput_le p 65535 (by decide)
  have k2 := kput_le s 1099511627776 (by decide)
  unfold redo_Open
  simp only
  refine bind_ex (fun a => a = true) ⟨_, by rw [fits_ok (by omega), decide_eq_true ⟨by omega, by omega, by omega, by omega⟩], rfl⟩ ?_
  rintro _ rfl
  simp only [Bool.not_true, condO_false]
  refine bind_ex (fun a => a = .inr (regL D 0 n)) ⟨_, open_read h4 (by omega) (by omega) (by omega) (fun i h => rfl), rfl⟩ ?_
  rintro _ rfl
  simp only [caseS_inr]
  refine bind_ex (fun a => a = ((p : Int), (s : Int), true, txs)) ⟨_, hsc, rfl⟩ ?_
  rintro _ rfl
  simp only [Bool.not_true, condO_false]
  refine bind_ex (fun a => (∃ l t c, a = .inr (true, armed, l, t, settle D txs.flatten, c) ∧ (c = if txs = [] then [] else [(((0 : Nat) : Int), hdB p s)])) ∨ (armed = true ∧ ∃ l t D' c', a = .inl (14, false, armed, l, t, D', c') ∧ Down n s D' c' X X)) ?_ ?_
  · by_cases h0 : txs = []
    · subst h0
      exact ⟨_, rfl, .inl ⟨left, steps, [], rfl, by rw [if_pos rfl]⟩⟩
    · have hlen0 : txs.length ≠ 0 := fun h => h0 (List.length_eq_zero_iff.1 h)
      rw [igt_t (show llen txs > 0 by unfold llen; omega), condO_true, concat_ok (by omega) (by omega)]
      simp only [Option.bind_some]
      obtain ⟨r1, e1, w1⟩ := writes_any (on := true) (armed := armed) (left := left) (steps := steps) (lies := D) (cache := []) (puts := txs.flatten) true (.inr rfl) (fun q hq => by rw [hl]; exact (j.puts q hq).1) (by omega) (by simp only [List.length_nil]; omega) (fun q hq => by cases hq)
      refine bind_ex (fun a => a = r1) ⟨_, e1, rfl⟩ ?_
      rintro _ rfl
      rcases w1 with ⟨l1, t1, rfl⟩ | ⟨har, l1, t1, i, hi, rfl⟩
      · simp only [if_true, List.nil_append, show ieq 0 0 = true from rfl, condO_true]
        obtain ⟨r2, e2, w2⟩ := writes_any (on := true) (armed := armed) (left := l1) (steps := t1) (lies := settle D txs.flatten) (cache := []) (puts := [(((0 : Nat) : Int), hdB p s)]) false (.inl (by simp)) (head_put hL p s) (by omega) (by simp) (fun q hq => by cases hq)
        refine bind_ex (fun a => a = r2) ⟨_, ?_, rfl⟩ ?_
        · rw [cput16, cput40]
          simp only [Option.bind_some, kind3]
          rw [guardO_pos (catOk_small (by decide) (by omega))]
          simp only [mkB_app]
          rw [guardO_pos (catOk_small (by simp only [List.length_append, List.length_cons, List.length_nil]; omega) (by omega)), line_ok (t := [83, 67, 72] ++ putL (kpn p 65535) ++ putL (kpn s 1099511627776)) (Nat.le_trans (headT_len p s) (by decide))]
          exact bind_of e2 rfl
        · rintro _ rfl
          rcases w2 with ⟨l2, t2, rfl⟩ | ⟨har, l2, t2, i, hi, rfl⟩
          · exact ⟨_, rfl, .inl ⟨l2, t2, _, rfl, by rw [if_neg h0]; rfl⟩⟩
          · refine ⟨_, rfl, .inr ⟨har rfl, l2, t2, _, _, rfl, hL, fun q hq => ?_, ?_, fun E hE => .inl (hF1 E (hE.mono (fun q hq => ?_)))⟩⟩
            · rw [List.nil_append] at hq
              have := head_put hL p s q (List.mem_of_mem_take hq)
              exact ⟨this.lo, this.hi⟩
            · rw [List.nil_append, List.length_take]; simp only [List.length_cons, List.length_nil]; omega
            · rw [List.nil_append] at hq
              have := List.mem_of_mem_take hq
              obtain rfl := List.mem_singleton.1 this
              exact List.mem_cons_self ..
      · refine ⟨_, rfl, .inr ⟨har rfl, l1, t1, D, _, rfl, hl, fun q hq => ?_, ?_, fun E hE => .inl (hF0 (hE.mono (fun q hq => ?_)))⟩⟩
        · rw [List.nil_append] at hq; exact j.rng q (List.mem_of_mem_take hq)
        · rw [List.nil_append, List.length_take]; omega
        · rw [List.nil_append] at hq; exact List.mem_of_mem_take hq
  · rintro _ (⟨l, t, c, rfl, hc⟩ | ⟨har, l, t, D', c', rfl, dn⟩)
    · have hcm : ∀ q ∈ c, q = (((0 : Nat) : Int), hdB p s) := fun q hq => by
        rw [hc] at hq
        split at hq
        · cases hq
        · exact List.mem_singleton.1 hq
      have hcl : c.length ≤ 1 := by rw [hc]; split <;> simp
      have hcr : ∀ q ∈ c, 0 ≤ q.1 ∧ q.1 < (settle D txs.flatten).length := fun q hq => by
        rw [hcm q hq, hL]; simp only; omega
      obtain ⟨r3, e3, w3⟩ := writes_any (on := true) (armed := armed) (left := l) (steps := t) (lies := settle D txs.flatten) (cache := c) (puts := [(((0 + 1 + p : Nat) : Int), noneS)]) true (.inr rfl) (hpn hL) (by omega) (by simp only [List.length_cons, List.length_nil]; omega) hcr
      have w0 : WK .i64 (WK .i64 (((0 : Nat) : Int) + 1) + (p : Int)) = ((0 + 1 + p : Nat) : Int) := by rw [wk_i64 (x := ((0 : Nat) : Int) + 1) (by omega) (by omega), wk_i64 (by omega) (by omega)]; omega
      simp only [caseS_inr, blank_ok, w0]
      rw [guardO_pos (by decide)]
      refine bind_ex (fun a => a = r3) ⟨_, e3, rfl⟩ ?_
      rintro _ rfl
      rcases w3 with ⟨l3, t3, rfl⟩ | ⟨har, l3, t3, i, hi, rfl⟩
      · refine ⟨_, rfl, .inl ⟨l3, t3, openD 0 p (s : Int) D txs, p, s, ?_, rfl, hop⟩⟩
        have e : settle (settle D txs.flatten) (c ++ [(((0 + 1 + p : Nat) : Int), noneS)]) = openD 0 p (s : Int) D txs := by
          unfold openD
          by_cases h0 : txs = []
          · subst h0
            rw [if_pos rfl, hc, if_pos rfl]; rfl
          · rw [if_neg h0, hc, if_neg h0]; rfl
        simp only [if_true, e]
        rfl
      · refine ⟨_, rfl, .inr ⟨har rfl, l3, t3, _, _, rfl, hL, fun q hq => ?_, ?_, fun E hE => .inl (hF1 E (hE.mono (fun q hq => ?_)))⟩⟩
        · rcases List.mem_append.1 hq with hq | hq
          · exact hcr q hq
          · have := hpn hL q (List.mem_of_mem_take hq)
            exact ⟨this.lo, this.hi⟩
        · rw [List.length_append, List.length_take]; simp only [List.length_cons, List.length_nil]; omega
        · rcases List.mem_append.1 hq with hq | hq
          · rw [hcm q hq]; exact List.mem_cons_self ..
          · have := List.mem_singleton.1 (List.mem_of_mem_take hq)
            rw [this]; exact List.mem_cons_of_mem _ (List.mem_cons_self ..)
    · exact ⟨_, rfl, .inr ⟨har, l, t, D', c', rfl, dn⟩⟩
end
end Go.Proofs.YtlidgpepppjeiaaDoor
/- A journal's transaction, walked, power going at any step. No condition. -/
set_option linter.unusedVariables false
set_option linter.unusedSimpArgs false
namespace Go.Proofs.YtlidgpepppjeiaaDoor
open Go
/-- What a stage of a transaction comes to. -/
def StF (n b : Nat) (armed : Bool) (S M : Nat → ByteArray) (D : List ByteArray) (a : WS) : Prop :=
  (∃ l t, a = (0, true, armed, l, t, D, [])) ∨ (armed = true ∧ ∃ l t D' c', a = (14, false, armed, l, t, D', c') ∧ Down n b D' c' S M)
section
variable {n p s u : Nat} {D : List ByteArray} {cache : List Put} {S : Nat → ByteArray} {p0 s0 : Nat} {txs : List (List Put)} {armed : Bool} {left steps : Int} {puts : List Put}
theorem commit_any (h4 : 4 ≤ n) (h40 : n ≤ 40) (x : Sur n p s u D cache S p0 s0 txs) (hP : ∀ q ∈ puts, PutOk 40 q ∧ (n : Int) ≤ q.1) (hk0 : 1 ≤ puts.length) (hk : puts.length ≤ n - 4) (hs : s + 1 ≤ 100000) :
    ∃ r, redo_Log_Commit 1000 (((0 : Nat) : Int), (n : Int), (p : Int), (s : Int), (u : Int), false, puts, vgl_check_table, true, armed, left, steps, D, cache) = some r ∧
      ((∃ left' st D' p' u' p0 s0 txs, r = (0, ((0 : Nat) : Int), (n : Int), ((p' : Nat) : Int), ((s + 1 : Nat) : Int), ((u' : Nat) : Int), false, true, armed, left', st, D', puts) ∧ Sur n p' (s + 1) u' D' puts (aft S puts) p0 s0 txs) ∨
       (armed = true ∧ ∃ left' st D' c' p' s' u', r = (14, ((0 : Nat) : Int), (n : Int), p', s', u', true, false, armed, left', st, D', c') ∧ Down n (s + 1) D' c' S (aft S puts))) := by
  have hl := x.j.len
  have hcl := x.cl
  have hall : ∀ q ∈ puts, wrongQ 0 n D.length q = false := fun q h => by
    have hq := hP q h
    unfold wrongQ
    have a1 := hq.1.lo
    have a2 : q.1 < 40 := hq.1.hi
    have a3 := hq.2
    have a4 : ¬ (q.1 < (n : Int)) := by omega
    rw [hl]
    simp [hq.1.sz, a1, a2, a4]
  obtain ⟨r, hri, hci⟩ := index_ok (b := 0) (n := n) (p := (p : Int)) (s := (s : Int)) (u := (u : Int)) (left := left) (steps := steps) (br := false) (on := true) (armed := armed) (puts := puts) (lies := D) (cache := cache) (by omega) (by omega)
  have hri' : r = -1 := by
    rcases hci with ⟨h, _⟩ | ⟨_, q, hq, hw⟩
    · exact h
    · rw [hall q hq] at hw; cases hw
  subst hri'
  have w2 : WK .i64 (llen puts + 2) = ((puts.length + 2 : Nat) : Int) := by rw [llen, wk_i64 (by omega) (by omega)]; omega
  have w1 : WK .i64 (((puts.length + 2 : Nat) : Int) - 1) = ((puts.length + 1 : Nat) : Int) := by rw [wk_i64 (by omega) (by omega)]; omega
  have wn : WK .i64 ((n : Int) - 1) = ((n - 1 : Nat) : Int) := by rw [wk_i64 (by omega) (by omega)]; omega
  have hnz : nz (WK .i64 ((n : Int) - 1)) := by rw [wn]; unfold nz; omega
  have hpos := x.pos h4
  unfold redo_Log_Commit
  simp only
  refine bind_ex (fun a => a = 0) ⟨0, rfl, rfl⟩ ?_
  rintro _ rfl
  simp only [show ine 0 0 = false from rfl, condO_false]
  refine bind_ex (fun a => a = .inr ()) ⟨_, ?_, rfl⟩ ?_
  · rw [ieq_f (by unfold llen; omega), condO_false, hri]
    simp only [Option.bind_some, show ige (-1) 0 = false from rfl, condO_false]
    refine bind_of (a := 0) rfl ?_
    simp only [show ine 0 0 = false from rfl, condO_false, room_ok h4 (show n ≤ 64 by omega)]
    rw [igt_f (by unfold llen; omega), condO_false]
  rintro _ rfl
  simp only [caseS_inr, w2]
  refine bind_ex (fun a => (armed = true ∧ ∃ l t D' c', a = .inl (14, ((0 : Nat) : Int), (n : Int), (p : Int), (s : Int), (u : Int), true, false, armed, l, t, D', c') ∧ Down n s D' c' S S) ∨
    (∃ (u1 : Nat) (l t : Int) (D1 : List ByteArray) (c1 : List Put) (p1 s1 : Nat) (t1 : List (List Put)), a = .inr (((0 : Nat) : Int), (n : Int), (p : Int), (s : Int), (u1 : Int), false, true, armed, l, t, D1, c1) ∧ Sur n p s u1 D1 c1 S p1 s1 t1 ∧ u1 + (puts.length + 2) + 1 ≤ n - 1)) ?_ ?_
  · rw [wk_i64 (x := (u : Int) + ((puts.length + 2 : Nat) : Int)) (by omega) (by omega), wk_i64 (x := (u : Int) + ((puts.length + 2 : Nat) : Int) + 1) (by omega) (by omega), wn]
    by_cases h : n - 1 < u + (puts.length + 2) + 1
    · rw [igt_t (by omega), condO_true]
      refine bind_ex _ (check_any h4 h40 x) ?_
      rintro _ (⟨l, t, D', c', p1, s1, t1, rfl, x1⟩ | ⟨har, l, t, D', c', rfl, dn⟩)
      · exact ⟨_, rfl, .inr ⟨0, l, t, D', c', p1, s1, t1, rfl, x1, by omega⟩⟩
      · exact ⟨_, rfl, .inl ⟨har, l, t, D', c', rfl, dn⟩⟩
    · rw [igt_f (by omega), condO_false]
      exact ⟨_, rfl, .inr ⟨u, left, steps, D, cache, p0, s0, txs, rfl, x, by omega⟩⟩
  rintro _ (⟨har, l, t, D', c', rfl, dn⟩ | ⟨u1, l, t, D1, c1, p1, s1, t1, rfl, x1, hrm⟩)
  · simp only [caseS_inl]
    exact ⟨_, rfl, .inr ⟨har, l, t, D', c', _, _, _, rfl, dn.len, dn.rng, dn.cl, fun E hE => .inl ((dn.gd E hE).elim (·.mono (Nat.le_succ s)) (·.mono (Nat.le_succ s)))⟩⟩
  clear hl hcl hall hri hci x hpos
  have hl := x1.j.len
  have hcl := x1.cl
  have hpos := x1.pos h4
  have R : Room n u1 puts.length puts := ⟨hk0, rfl, hrm, hP⟩
  simp only [caseS_inr]
  refine bind_ex (fun a => a = (atsL puts, rowsL 0 (n - 1) p puts)) ⟨_, ?_, rfl⟩ ?_
  · have s0 : ((0 : Int), ([] : List Int), ([] : List Put)) = (fun i : Nat => ((i : Int), atsL (puts.take i), rowsL 0 (n - 1) p (puts.take i))) 0 := rfl
    rw [s0]
    refine loopK_run (fun i : Nat => ((i : Int), atsL (puts.take i), rowsL 0 (n - 1) p (puts.take i))) puts.length _ 1000 ?_ ?_ (by omega)
    · intro i hi
      have ea : at_ T0 puts (i : Int) = puts[i] := at_nat hi
      have l1 : (atsL (puts.take i)).length ≤ 64 := by simp only [atsL, List.length_map, List.length_take]; omega
      have l2 : (rowsL 0 (n - 1) p (puts.take i)).length ≤ 64 := by rw [rowsL_len, List.length_take]; omega
      simp only [ilt_t (show (i : Int) < llen puts by unfold llen; omega), condO_true, ea]
      rw [guardO_pos ⟨by omega, by unfold llen; omega⟩, guardO_pos (by unfold appOk; simp only [List.length_cons, List.length_nil]; omega), guardO_pos hnz, slot_ok (i := 1 + i) (by rw [wk_i64 (by omega) (by omega)]; omega) h4 (by omega) (by omega) (by omega) (by omega), guardO_pos (by unfold appOk; simp only [List.length_cons, List.length_nil]; omega), wk_i64 (x := (i : Int) + 1) (by omega) (by omega), atsL_take puts i hi, rowsL_take 0 (n - 1) p puts i hi]
      rfl
    · simp only [ilt_f (show llen puts ≤ (puts.length : Int) by unfold llen; omega), condO_false, List.take_length]
  rintro _ rfl
  simp only
  have hal : (atsL puts).length ≤ 100000 := by simp only [atsL, List.length_map]; omega
  have kk1 := kput_le s 1099511627776 (by decide)
  have kk2 := kput_le (puts.length : Int) 1099511627776 (by decide)
  have hfz : (lineB (firstT (s : Int) (atsL puts))).size = 256 := line_size (Nat.le_trans (firstT_len s _) (by decide))
  have hlz : (lineB (lastT (s : Int) puts.length)).size = 256 := line_size (Nat.le_trans (lastT_len s _) (by decide))
  have hPL : ∀ {L : List ByteArray}, L.length = 40 → ∀ q ∈ puts, PutOk L.length q := fun hLL q hq => by rw [hLL]; exact (hP q hq).1
  rw [first_ok (s : Int) (atsL puts) hal]
  simp only [Option.bind_some]
  rw [guardO_pos hnz, slot_ok (b := 0) (i := 0) (j := 0) rfl h4 (by omega) (by omega) (by omega) (by omega), guardO_pos (by unfold appOk; simp only [List.length_cons, List.length_nil, rowsL_len]; omega), guardO_pos (by decide), guardO_pos hnz, guardO_pos (by decide), guardO_pos hnz, w1, slot_ok (b := 0) (i := puts.length + 1) rfl h4 (by omega) (by omega) (by omega) (by omega), slot_ok (b := 0) (i := puts.length + 2) rfl h4 (by omega) (by omega) (by omega) (by omega), blank_ok]
  -- the blanks
  refine bind_ex (StF n (s + 1) armed S (aft S puts) (blD n p puts.length D1 c1)) ?_ ?_
  · obtain ⟨r1, e1, w1⟩ := writes_any (on := true) (armed := armed) (left := l) (steps := t) (lies := D1) (cache := c1) (puts := blanks 0 (n - 1) p puts.length) true (.inr rfl) (fun q hq => by
      simp only [blanks, List.mem_cons, List.not_mem_nil, or_false] at hq
      rcases hq with rfl | rfl <;> exact slotPut h4 (by omega) none_size) (by omega) (by simp only [blanks, List.length_cons, List.length_nil]; omega) x1.rng
    refine ⟨r1, e1, ?_⟩
    rcases w1 with ⟨l1, t1', rfl⟩ | ⟨har, l1, t1', i, hi, rfl⟩
    · exact .inl ⟨l1, t1', rfl⟩
    · refine .inr ⟨har rfl, l1, t1', _, _, rfl, hl, fun q hq => ?_, ?_, fun E hE => .inl ((x1.fail1 h4 h40 R (hE.mono (fun q hq => ?_))).mono (Nat.le_succ s))⟩
      · refine x1.blRng (k := puts.length) h4 h40 q ?_
        rcases List.mem_append.1 hq with hq | hq
        · exact List.mem_append_left _ hq
        · exact List.mem_append_right _ (List.mem_of_mem_take hq)
      · rw [List.length_append, List.length_take]; simp only [blanks, List.length_cons, List.length_nil]; omega
      · rcases List.mem_append.1 hq with hq | hq
        · exact List.mem_append_left _ hq
        · exact List.mem_append_right _ (List.mem_of_mem_take hq)
  intro a1 ha1
  -- the first line and the rows
  refine bind_ex (StF n (s + 1) armed S (aft S puts) (roD n p (s : Int) puts.length puts D1 c1)) ?_ ?_
  · rcases ha1 with ⟨l1, t1', rfl⟩ | ⟨har, l1, t1', D', c', rfl, dn⟩
    · simp only [show ieq 0 0 = true from rfl, condO_true]
      have hl2 : (blD n p puts.length D1 c1).length = 40 := x1.blLen
      obtain ⟨r2, e2, w2⟩ := writes_any (on := true) (armed := armed) (left := l1) (steps := t1') (lies := blD n p puts.length D1 c1) (cache := []) (puts := roP n p (s : Int) puts) true (.inr rfl) (fun q hq => by
        rcases List.mem_cons.1 hq with rfl | hq
        · exact slotPut h4 (by omega) hfz
        · exact rowsL_ok h4 (by omega) (hPL hl2) q hq) (by omega) (by simp only [roP, List.length_cons, List.length_nil, rowsL_len]; omega) (fun q hq => by cases hq)
      refine ⟨r2, bind_of e2 rfl, ?_⟩
      rcases w2 with ⟨l2, t2, rfl⟩ | ⟨har, l2, t2, i, hi, rfl⟩
      · exact .inl ⟨l2, t2, rfl⟩
      · refine .inr ⟨har rfl, l2, t2, _, _, rfl, hl2, fun q hq => ?_, ?_, fun E hE => .inl ((x1.fail2 h4 h40 R (hE.mono (fun q hq => ?_))).mono (Nat.le_succ s))⟩
        · rw [List.nil_append] at hq
          exact roP_rng h4 h40 hl2 q (List.mem_of_mem_take hq)
        · rw [List.nil_append, List.length_take]; simp only [roP, List.length_cons, rowsL_len]; omega
        · rw [List.nil_append] at hq; exact List.mem_of_mem_take hq
    · exact ⟨_, rfl, .inr ⟨har, l1, t1', D', c', rfl, dn⟩⟩
  intro a2 ha2
  -- the last line
  refine bind_ex (StF n (s + 1) armed S (aft S puts) (laD n p (s : Int) puts.length puts D1 c1)) ?_ ?_
  · rcases ha2 with ⟨l2, t2, rfl⟩ | ⟨har, l2, t2, D', c', rfl, dn⟩
    · simp only [show ieq 0 0 = true from rfl, condO_true]
      have hl3 : (roD n p (s : Int) puts.length puts D1 c1).length = 40 := x1.roLen
      have hlp : ∀ q ∈ laP n p (s : Int) puts.length, PutOk (roD n p (s : Int) puts.length puts D1 c1).length q := fun q hq => by
        obtain rfl := List.mem_singleton.1 hq
        exact slotPut h4 (by omega) hlz
      obtain ⟨r3, e3, w3⟩ := writes_any (on := true) (armed := armed) (left := l2) (steps := t2) (lies := roD n p (s : Int) puts.length puts D1 c1) (cache := []) (puts := laP n p (s : Int) puts.length) true (.inr rfl) hlp (by omega) (by simp [laP]) (fun q hq => by cases hq)
      refine ⟨r3, ?_, ?_⟩
      · rw [cput40, cput40 (llen puts)]
        simp only [Option.bind_some, kind3]
        rw [guardO_pos (catOk_small (by decide) (by omega))]
        simp only [mkB_app]
        rw [guardO_pos (catOk_small (by simp only [List.length_append, List.length_cons, List.length_nil]; omega) (by unfold llen; omega)), line_ok (t := [83, 67, 67] ++ putL (kpn (s : Int) 1099511627776) ++ putL (kpn (llen puts) 1099511627776)) (Nat.le_trans (lastT_len (s : Int) puts.length) (by decide)), guardO_pos hnz]
        exact bind_of e3 rfl
      · rcases w3 with ⟨l3, t3, rfl⟩ | ⟨har, l3, t3, i, hi, rfl⟩
        · exact .inl ⟨l3, t3, rfl⟩
        · refine .inr ⟨har rfl, l3, t3, _, _, rfl, hl3, fun q hq => ?_, ?_, fun E hE => x1.fail3 h4 h40 R hs (hE.mono (fun q hq => ?_))⟩
          · rw [List.nil_append] at hq
            have := hlp q (List.mem_of_mem_take hq)
            exact ⟨this.lo, this.hi⟩
          · rw [List.nil_append, List.length_take]; simp only [laP, List.length_cons, List.length_nil]; omega
          · rw [List.nil_append] at hq; exact List.mem_of_mem_take hq
    · exact ⟨_, rfl, .inr ⟨har, l2, t2, D', c', rfl, dn⟩⟩
  intro a3 ha3
  -- the data
  have v1 : Int.tmod (WK .i64 ((p : Int) + ((puts.length + 2 : Nat) : Int))) (WK .i64 ((n : Int) - 1)) = (((p + (puts.length + 2)) % (n - 1) : Nat) : Int) := by
    rw [wn, wk_i64 (by omega) (by omega), show (p : Int) + ((puts.length + 2 : Nat) : Int) = ((p + (puts.length + 2) : Nat) : Int) by omega]
    exact tmod_nat rfl
  have v2 : WK .i64 ((u1 : Int) + ((puts.length + 2 : Nat) : Int)) = ((u1 + (puts.length + 2) : Nat) : Int) := by rw [wk_i64 (by omega) (by omega)]; omega
  have v3 : WK .i64 ((s : Int) + 1) = ((s + 1 : Nat) : Int) := by rw [wk_i64 (by omega) (by omega)]; omega
  simp only [v1, v2, v3]
  obtain ⟨p2, s2, t2', x2⟩ := x1.done h4 h40 R hs
  refine bind_ex (fun a => (∃ l t, a = (0, ((0 : Nat) : Int), (n : Int), (((p + (puts.length + 2)) % (n - 1) : Nat) : Int), ((s + 1 : Nat) : Int), ((u1 + (puts.length + 2) : Nat) : Int), false, true, armed, l, t, laD n p (s : Int) puts.length puts D1 c1, puts)) ∨
    (armed = true ∧ ∃ l t D' c' p' s' u', a = (14, ((0 : Nat) : Int), (n : Int), p', s', u', false, false, armed, l, t, D', c') ∧ Down n (s + 1) D' c' S (aft S puts))) ?_ ?_
  · rcases ha3 with ⟨l3, t3, rfl⟩ | ⟨har, l3, t3, D', c', rfl, dn⟩
    · simp only [show ieq 0 0 = true from rfl, condO_true]
      rw [guardO_pos hnz]
      have hl4 := x2.j.len
      obtain ⟨r4, e4, w4⟩ := writes_any (on := true) (armed := armed) (left := l3) (steps := t3) (lies := laD n p (s : Int) puts.length puts D1 c1) (cache := []) (puts := puts) false (.inl (fun h => by rw [h] at hk0; simp at hk0)) (hPL hl4) (by omega) (by simp only [List.length_nil]; omega) (fun q hq => by cases hq)
      refine bind_ex (fun a => a = r4) ⟨_, e4, rfl⟩ ?_
      rintro _ rfl
      rcases w4 with ⟨l4, t4, rfl⟩ | ⟨har, l4, t4, i, hi, rfl⟩
      · exact ⟨_, rfl, .inl ⟨l4, t4, rfl⟩⟩
      · refine ⟨_, rfl, .inr ⟨har rfl, l4, t4, _, _, _, _, _, rfl, hl4, fun q hq => ?_, ?_, fun E hE => .inr (x1.fail4 h4 h40 R hs (hE.mono (fun q hq => ?_)))⟩⟩
        · rw [List.nil_append] at hq
          have := hPL hl4 q (List.mem_of_mem_take hq)
          exact ⟨this.lo, this.hi⟩
        · rw [List.nil_append, List.length_take]; omega
        · rw [List.nil_append] at hq; exact List.mem_of_mem_take hq
    · exact ⟨_, rfl, .inr ⟨har, l3, t3, D', c', _, _, _, rfl, dn⟩⟩
  rintro _ (⟨l4, t4, rfl⟩ | ⟨har, l4, t4, D', c', p', s', u', rfl, dn⟩)
  · exact ⟨_, rfl, .inl ⟨l4, t4, _, _, _, p2, s2, t2', rfl, x2⟩⟩
  · exact ⟨_, rfl, .inr ⟨har, l4, t4, D', c', p', s', u', rfl, dn⟩⟩
end
end Go.Proofs.YtlidgpepppjeiaaDoor
/- What the law RedoWhole keeps between its steps. No condition. -/
set_option linter.unusedVariables false
set_option linter.unusedSimpArgs false
namespace Go.Proofs.YtlidgpepppjeiaaDoor
open Go
/-- What a log reads is some state, or is not. -/
theorem reads_any {n : Nat} {W : Vector ByteArray 40} {p s u left steps : Int} {armed : Bool} {D : List ByteArray} {cache : List Put} (h40 : n ≤ 40) (hl : D.length = 40) :
    ∃ b, law07_state_reads 1000 (W, (n : Int), ((0 : Nat) : Int), (n : Int), p, s, u, false, true, armed, left, steps, D, cache) = some b ∧ (b = true ↔ ∀ a : Nat, n ≤ a → a < 40 → rd D cache (a : Int) = vAt str0 W (a : Int)) := by
  unfold law07_state_reads
  refine bind_inv (I := fun m (h : Int) => ∃ i : Nat, h = ((n + i : Nat) : Int) ∧ m + i = 40 - n ∧ ∀ a : Nat, n ≤ a → a < n + i → rd D cache (a : Int) = vAt str0 W (a : Int))
    (Q := fun (e : Bool ⊕ Unit) => (e = .inl false ∧ ∃ a : Nat, n ≤ a ∧ a < 40 ∧ rd D cache (a : Int) ≠ vAt str0 W (a : Int)) ∨ (e = .inr () ∧ ∀ a : Nat, n ≤ a → a < 40 → rd D cache (a : Int) = vAt str0 W (a : Int)))
    (P := fun b : Bool => b = true ↔ ∀ a : Nat, n ≤ a → a < 40 → rd D cache (a : Int) = vAt str0 W (a : Int)) (40 - n) (by omega) ?_ ?_ ?_
  · exact ⟨0, rfl, by omega, fun a h1 h2 => by omega⟩
  · rintro m h ⟨i, rfl, hmi, ha⟩
    by_cases hi : i < 40 - n
    · have hr : redo_Log_Read 1000 (((n + i : Nat) : Int), ((0 : Nat) : Int), (n : Int), p, s, u, false, true, armed, left, steps, D, cache) = some (rd D cache ((n + i : Nat) : Int), 0) := by
        unfold redo_Log_Read
        refine bind_of (a := 0) rfl ?_
        simp only [show ine 0 0 = false from rfl, condO_false]
        rw [read_ok 1000 (by omega) (by omega)]
        rfl
      simp only [ilt_t (show ((n + i : Nat) : Int) < 40 by omega), condO_true, hr, Option.bind_some, show ine 0 0 = false from rfl, condO_false]
      rw [guardO_pos ⟨by omega, by omega⟩]
      by_cases he : rd D cache ((n + i : Nat) : Int) = vAt str0 W ((n + i : Nat) : Int)
      · rw [he, sEq_self, Bool.not_true, condO_false, wk_i64 (by omega) (by omega)]
        refine .on (m - 1) (by omega) ⟨i + 1, by omega, by omega, fun a h1 h2 => ?_⟩
        by_cases e : a = n + i
        · subst e; exact he
        · exact ha a h1 (by omega)
      · have : sEq (rd D cache ((n + i : Nat) : Int)) (vAt str0 W ((n + i : Nat) : Int)) = false := by
          rw [← Bool.not_eq_true]; intro e; exact he (sEq_iff.1 e)
        rw [this, Bool.not_false, condO_true]
        exact .out (.inl ⟨rfl, n + i, by omega, by omega, he⟩)
    · simp only [ilt_f (show (40 : Int) ≤ ((n + i : Nat) : Int) by omega), condO_false]
      exact .out (.inr ⟨rfl, fun a h1 h2 => ha a h1 (by omega)⟩)
  · rintro _ (⟨rfl, a, h1, h2, h3⟩ | ⟨rfl, h⟩)
    · exact ⟨false, rfl, ⟨fun h => (by cases h), fun h => absurd (h a h1 h2) h3⟩⟩
    · exact ⟨true, rfl, ⟨fun _ => h, fun _ => rfl⟩⟩
abbrev vf (W : Vector ByteArray 40) : Nat → ByteArray := fun a => vAt str0 W (a : Int)
def afV (W : Vector ByteArray 40) (puts : List Put) : Vector ByteArray 40 := puts.foldl (fun w q => vSet w q.1 q.2) W
theorem afV_at (W : Vector ByteArray 40) (puts : List Put) : (∀ q ∈ puts, PutOk 40 q) → ∀ a : Nat, a < 40 → vf (afV W puts) a = aft (vf W) puts a := by
  refine snoc_induct (P := fun puts : List Put => (∀ q ∈ puts, PutOk 40 q) → ∀ a : Nat, a < 40 → vf (afV W puts) a = aft (vf W) puts a) (fun _ a _ => rfl) ?_ puts
  intro c q ih hq a ha
  have h1 := hq q (by simp)
  have hlo := h1.lo
  have hhi : q.1 < 40 := h1.hi
  have e : afV W (c ++ [q]) = vSet (afV W c) q.1 q.2 := by unfold afV; rw [List.foldl_append]; rfl
  rw [aft_app, e]
  show vAt str0 (vSet (afV W c) q.1 q.2) (a : Int) = _
  rw [vAt_set str0 _ _ _ _ hlo hhi (by omega)]
  by_cases h : q.1 = (a : Int)
  · rw [if_pos h]; simp [aft, h]
  · rw [if_neg h, aft_not (fun ⟨r, hr, h3⟩ => h (by obtain rfl := List.mem_singleton.1 hr; exact h3))]
    exact ih (fun r hr => hq r (List.mem_append_left _ hr)) a ha
theorem after_ok {W : Vector ByteArray 40} {puts : List Put} (hq : ∀ q ∈ puts, PutOk 40 q) (hl : puts.length < 900) : law07_state_after 1000 (W, puts) = some (afV W puts) := by
  unfold law07_state_after
  refine bind_of (a := afV W puts) ?_ rfl
  refine loopK_run (fun i : Nat => ((i : Int), afV W (puts.take i))) puts.length _ 1000 ?_ ?_ (by omega)
  · intro i hi
    have h := hq puts[i] (List.getElem_mem hi)
    have ea : at_ T0 puts (i : Int) = puts[i] := at_nat hi
    have hlo := h.lo
    have hhi : puts[i].1 < 40 := h.hi
    have hin : inR (i : Int) (llen puts) := ⟨by omega, by unfold llen; omega⟩
    simp only [ilt_t (show (i : Int) < llen puts by unfold llen; omega), condO_true, ea, guardO_pos hin, ige_t hlo, ilt_t hhi]
    rw [guardO_pos ⟨hlo, hhi⟩, wk_i64 (by omega) (by omega), List.take_succ_eq_append_getElem hi]
    show some (Sum.inl (((i : Int) + 1, vSet (afV W (puts.take i)) puts[i].1 puts[i].2))) = some (Sum.inl (((i + 1 : Nat) : Int), afV W (puts.take i ++ [puts[i]])))
    unfold afV
    rw [List.foldl_append]
    rfl
  · simp only [ilt_f (show llen puts ≤ (puts.length : Int) by unfold llen; omega), condO_false, List.take_length]
theorem GDb.congr {n b : Nat} {D : List ByteArray} {S T : Nat → ByteArray} (h : GDb n b D S) (e : ∀ a, n ≤ a → a < 40 → S a = T a) : GDb n b D T := by
  obtain ⟨p0, s0, txs, j, h1, h2⟩ := h
  exact ⟨p0, s0, txs, j, h1, fun a x y => (h2 a x y).trans (e a x y)⟩
theorem Down.congr {n b : Nat} {D : List ByteArray} {c : List Put} {S M S' M' : Nat → ByteArray} (h : Down n b D c S M) (e : ∀ a, n ≤ a → a < 40 → S a = S' a) (f : ∀ a, n ≤ a → a < 40 → M a = M' a) : Down n b D c S' M' :=
  ⟨h.len, h.rng, h.cl, fun E hE => (h.gd E hE).imp (·.congr e) (·.congr f)⟩
theorem Sur.congrS {n p s u : Nat} {D : List ByteArray} {cache : List Put} {S T : Nat → ByteArray} {p0 s0 : Nat} {txs : List (List Put)} (x : Sur n p s u D cache S p0 s0 txs) (e : ∀ a, n ≤ a → a < 40 → S a = T a) : Sur n p s u D cache T p0 s0 txs :=
  ⟨x.j, x.hp, x.hs, x.hu, x.ck, x.cl, fun a h1 h2 => (x.redo a h1 h2).trans (e a h1 h2), fun a h1 h2 => (x.now a h1 h2).trans (e a h1 h2)⟩
/-- What is known between two steps: all is well, or there is no power and the log is broken. -/
def WS7 (n b : Nat) (on br : Bool) (p s u : Int) (D : List ByteArray) (c : List Put) (W M : Vector ByteArray 40) : Prop :=
  (br = false ∧ on = true ∧ ∃ (p' s' u' p0 s0 : Nat) (txs : List (List Put)), p = (p' : Int) ∧ s = (s' : Int) ∧ u = (u' : Int) ∧ s' ≤ b ∧ Sur n p' s' u' D c (vf W) p0 s0 txs ∧ ∀ a, n ≤ a → a < 40 → vf M a = vf W a) ∨
  (br = true ∧ on = false ∧ Down n b D c (vf W) (vf M))
/-- A disk that opens as what is sure, or as what may be. -/
def GX (n b : Nat) (E : List ByteArray) (W M : Vector ByteArray 40) : Prop := E.length = 40 ∧ (GDb n b E (vf W) ∨ GDb n b E (vf M))
theorem WS7.mono {n b b' : Nat} {on br : Bool} {p s u : Int} {D : List ByteArray} {c : List Put} {W M : Vector ByteArray 40} (h : WS7 n b on br p s u D c W M) (hb : b ≤ b') : WS7 n b' on br p s u D c W M := by
  rcases h with ⟨h1, h2, p', s', u', p0, s0, txs, h3, h4, h5, h6, h7⟩ | ⟨h1, h2, h3⟩
  · exact .inl ⟨h1, h2, p', s', u', p0, s0, txs, h3, h4, h5, by omega, h7⟩
  · exact .inr ⟨h1, h2, h3.mono hb⟩
theorem WS7.crash {n b : Nat} {on br : Bool} {p s u : Int} {D : List ByteArray} {c : List Put} {W M : Vector ByteArray 40} (h4 : 4 ≤ n) (h : WS7 n b on br p s u D c W M) (armed : Bool) (left st : Int) (picks : List Int) :
    sector_Disk_Crash 1000 (on, armed, left, st, picks, D, c) = some (.inr (true, false, left, st, settleP picks D c, [])) ∧ GX n b (settleP picks D c) W M := by
  rcases h with ⟨h1, h2, p', s', u', p0, s0, txs, h3, h5, h6, h7, x, h8⟩ | ⟨h1, h2, x⟩
  · have hl := x.j.len
    have hcl := x.cl
    exact ⟨crash7 1000 (by omega) (by omega) (by omega) x.rng, by rw [settleP_len]; exact hl, .inl ((x.poss h4 (poss_crash picks x.rng)).mono h7)⟩
  · have hl := x.len
    have hcl := x.cl
    exact ⟨crash7 1000 (by omega) (by omega) (by omega) x.rng, by rw [settleP_len]; exact hl, x.gd _ (poss_crash picks x.rng)⟩
/-- Power goes while it is opened, and there is a crash. -/
theorem GX.mid {n b : Nat} {E : List ByteArray} {W M : Vector ByteArray 40} (h4 : 4 ≤ n) (h40 : n ≤ 40) (h : GX n b E W M) (armed : Bool) (left st : Int) :
    ∃ r, redo_Open 1000 (((0 : Nat) : Int), (n : Int), true, armed, left, st, vgl_check_table, E, []) = some r ∧
      ((∃ p s u l t F, r = .inr (0, true, armed, l, t, ((0 : Nat) : Int), (n : Int), p, s, u, false, F, []) ∧ ∀ picks, sector_Disk_Crash 1000 (true, armed, l, t, picks, F, []) = some (.inr (true, false, l, t, settleP picks F [], [])) ∧ GX n b (settleP picks F []) W M) ∨
       (∃ l t F c, r = .inl (14, false, armed, l, t, F, c) ∧ ∀ picks, sector_Disk_Crash 1000 (false, armed, l, t, picks, F, c) = some (.inr (true, false, l, t, settleP picks F c, [])) ∧ GX n b (settleP picks F c) W M)) := by
  obtain ⟨X, hg, hX⟩ : ∃ X, GDb n b E X ∧ ∀ F, GDb n b F X → GDb n b F (vf W) ∨ GDb n b F (vf M) := h.2.elim (fun h => ⟨_, h, fun F hF => .inl hF⟩) (fun h => ⟨_, h, fun F hF => .inr hF⟩)
  obtain ⟨p0, s0, txs, j, hb, hr⟩ := hg
  obtain ⟨r, e, w⟩ := open_any (armed := armed) (left := left) (steps := st) h4 h40 j hr
  refine ⟨r, e, ?_⟩
  rcases w with ⟨l, t, F, p, s, rfl, hs, x⟩ | ⟨_, l, t, F, c, rfl, dn⟩
  · have hl := x.j.len
    exact .inl ⟨_, _, _, l, t, F, rfl, fun picks => ⟨crash7 1000 (by omega) (by simp) (by simp) x.rng, by rw [settleP_len]; exact hl, hX _ ((x.poss h4 (poss_crash picks x.rng)).mono (by omega))⟩⟩
  · have hl := dn.len
    have hcl := dn.cl
    exact .inr ⟨l, t, F, c, rfl, fun picks => ⟨crash7 1000 (by omega) (by omega) (by omega) dn.rng, by rw [settleP_len]; exact hl, hX _ ((dn.gd _ (poss_crash picks dn.rng)).elim (·.mono hb) (·.mono hb))⟩⟩
/-- It is opened again. -/
theorem GX.again {n b : Nat} {E : List ByteArray} {W M : Vector ByteArray 40} (h4 : 4 ≤ n) (h40 : n ≤ 40) (h : GX n b E W M) (left st : Int) :
    ∃ (l t : Int) (F : List ByteArray) (p s : Nat) (X : Vector ByteArray 40), redo_Open 1000 (((0 : Nat) : Int), (n : Int), true, false, left, st, vgl_check_table, E, []) = some (.inr (0, true, false, l, t, ((0 : Nat) : Int), (n : Int), (p : Int), (s : Int), ((0 : Nat) : Int), false, F, [])) ∧ s ≤ b ∧ Sur n p s 0 F [] (vf X) p s [] ∧ (X = W ∨ X = M) := by
  obtain ⟨X, hg, hX⟩ : ∃ X, GDb n b E (vf X) ∧ (X = W ∨ X = M) := h.2.elim (fun h => ⟨_, h, .inl rfl⟩) (fun h => ⟨_, h, .inr rfl⟩)
  obtain ⟨p0, s0, txs, j, hb, hr⟩ := hg
  obtain ⟨r, e, w⟩ := open_any (armed := false) (left := left) (steps := st) h4 h40 j hr
  rcases w with ⟨l, t, F, p, s, rfl, hs, x⟩ | ⟨h, _⟩
  · exact ⟨l, t, F, p, s, X, e, by omega, x, hX⟩
  · cases h
theorem check_broken {n p s u left steps : Int} {on armed : Bool} {D : List ByteArray} {c : List Put} :
    redo_Log_Checkpoint 1000 (((0 : Nat) : Int), n, p, s, u, true, vgl_check_table, on, armed, left, steps, D, c) = some (13, ((0 : Nat) : Int), n, p, s, u, true, on, armed, left, steps, D, c) := rfl
theorem commit_broken {n p s u left steps : Int} {on armed : Bool} {D : List ByteArray} {c puts : List Put} :
    redo_Log_Commit 1000 (((0 : Nat) : Int), n, p, s, u, true, puts, vgl_check_table, on, armed, left, steps, D, c) = some (13, ((0 : Nat) : Int), n, p, s, u, true, on, armed, left, steps, D, c) := rfl
end Go.Proofs.YtlidgpepppjeiaaDoor
/- The plain law of RedoWhole. No condition. -/
set_option linter.unusedVariables false
set_option linter.unusedSimpArgs false
namespace Go.Proofs.YtlidgpepppjeiaaDoor
open Go
def RedoWholePure : Prop := ∀ (z0 : Ty.den (.int .i64)) (z1 : Ty.den (.sl 62 (.pair (.int .i64) (.pair (.int .i64) (.pair (.sl 43 (.pair (.int .i64) (.int .u8))) (.sl 3 (.int .i64))))))), wfT (.int .i64) z0 → wfT (.sl 62 (.pair (.int .i64) (.pair (.int .i64) (.pair (.sl 43 (.pair (.int .i64) (.int .u8))) (.sl 3 (.int .i64)))))) z1 → ∃ k, law07_RedoWhole k (z0, z1, vgl_check_table) = some true
abbrev HL7 := Int × Bool × Bool × Int × Int × Int × Int × Int × Int × Int × Bool × (Vector ByteArray 40) × (Vector ByteArray 40) × (List ByteArray) × (List Put)
abbrev HR7 := Int × Bool × Bool × Int × Int × Int × Int × Int × Int × Int × Bool × (Vector ByteArray 40) × (Vector ByteArray 40) × Int × Int × Int × Int × Int × Bool × (List ByteArray) × (List Put)
def wI7 (n L m : Nat) (h : HL7 ⊕ HR7) : Prop := ∃ (i : Nat) (on armed : Bool) (left st p s u : Int) (br : Bool) (W M : Vector ByteArray 40) (D : List ByteArray) (c : List Put),
  (h = .inl ((i : Int), on, armed, left, st, ((0 : Nat) : Int), (n : Int), p, s, u, br, W, M, D, c) ∨ ∃ (o1 o2 o3 o4 o5 : Int) (o6 : Bool), h = .inr ((i : Int), on, armed, left, st, o1, o2, o3, o4, o5, o6, W, M, ((0 : Nat) : Int), (n : Int), p, s, u, br, D, c)) ∧ m + i = L ∧ WS7 n (i + 1) on br p s u D c W M
theorem wI7.inl {n L m i : Nat} {on armed : Bool} {left st p s u : Int} {br : Bool} {W M : Vector ByteArray 40} {D : List ByteArray} {c : List Put} (hm : m + i = L) (h : WS7 n (i + 1) on br p s u D c W M) : wI7 n L m (.inl ((i : Int), on, armed, left, st, ((0 : Nat) : Int), (n : Int), p, s, u, br, W, M, D, c)) :=
  ⟨i, on, armed, left, st, p, s, u, br, W, M, D, c, .inl rfl, hm, h⟩
theorem wI7.inr {n L m i : Nat} {on armed : Bool} {left st p s u o1 o2 o3 o4 o5 : Int} {br o6 : Bool} {W M : Vector ByteArray 40} {D : List ByteArray} {c : List Put} (hm : m + i = L) (h : WS7 n (i + 1) on br p s u D c W M) : wI7 n L m (.inr ((i : Int), on, armed, left, st, o1, o2, o3, o4, o5, o6, W, M, ((0 : Nat) : Int), (n : Int), p, s, u, br, D, c)) :=
  ⟨i, on, armed, left, st, p, s, u, br, W, M, D, c, .inr ⟨o1, o2, o3, o4, o5, o6, rfl⟩, hm, h⟩
/-- Checkpoint, between two steps. -/
theorem WS7.check {n b : Nat} {on br : Bool} {p s u : Int} {D : List ByteArray} {c : List Put} {W M : Vector ByteArray 40} (h4 : 4 ≤ n) (h40 : n ≤ 40) (h : WS7 n b on br p s u D c W M) (armed : Bool) (left st : Int) :
    ∃ e on' left' st' p' s' u' br' D' c', redo_Log_Checkpoint 1000 (((0 : Nat) : Int), (n : Int), p, s, u, br, vgl_check_table, on, armed, left, st, D, c) = some (e, ((0 : Nat) : Int), (n : Int), p', s', u', br', on', armed, left', st', D', c') ∧ WS7 n b on' br' p' s' u' D' c' W M := by
  rcases h with ⟨rfl, rfl, p', s', u', p0, s0, txs, rfl, rfl, rfl, hs, x, hM⟩ | ⟨rfl, rfl, x⟩
  · obtain ⟨r, e, w⟩ := check_any (armed := armed) (left := left) (steps := st) h4 h40 x
    rcases w with ⟨l, t, D', c', p1, s1, t1, rfl, x1⟩ | ⟨_, l, t, D', c', rfl, dn⟩
    · exact ⟨_, _, _, _, _, _, _, _, _, _, e, .inl ⟨rfl, rfl, p', s', 0, p1, s1, t1, rfl, rfl, rfl, hs, x1, hM⟩⟩
    · exact ⟨_, _, _, _, _, _, _, _, _, _, e, .inr ⟨rfl, rfl, (dn.mono hs).congr (fun _ _ _ => rfl) (fun a h1 h2 => (hM a h1 h2).symm)⟩⟩
  · exact ⟨_, _, _, _, _, _, _, _, _, _, check_broken, .inr ⟨rfl, rfl, x⟩⟩
/-- A transaction, between two steps. -/
theorem WS7.commit {n b : Nat} {on br : Bool} {p s u : Int} {D : List ByteArray} {c : List Put} {W M : Vector ByteArray 40} {P : List Put} (h6 : 6 ≤ n) (h40 : n ≤ 40) (hb : b ≤ 1000) (h : WS7 n b on br p s u D c W M) (armed : Bool) (left st : Int) (hP : ∀ q ∈ P, PutOk 40 q ∧ (n : Int) ≤ q.1) (hl : P.length ≤ 6) :
    ∃ e on' left' st' p' s' u' br' D' c', redo_Log_Commit 1000 (((0 : Nat) : Int), (n : Int), p, s, u, br, P, vgl_check_table, on, armed, left, st, D, c) = some (e, ((0 : Nat) : Int), (n : Int), p', s', u', br', on', armed, left', st', D', c') ∧
      ((e = 0 ∧ on' = true ∧ br' = false ∧ WS7 n (b + 1) on' br' p' s' u' D' c' (afV W P) (afV W P)) ∨ (e = 14 ∧ WS7 n (b + 1) on' br' p' s' u' D' c' W (afV W P)) ∨ (e ≠ 0 ∧ e ≠ 14 ∧ WS7 n (b + 1) on' br' p' s' u' D' c' W M)) := by
  have hPq : ∀ q ∈ P, PutOk 40 q := fun q hq => (hP q hq).1
  rcases h with ⟨rfl, rfl, p', s', u', p0, s0, txs, rfl, rfl, rfl, hs, x, hM⟩ | ⟨rfl, rfl, x⟩
  · have hD := x.j.len
    have hall : ∀ q ∈ P, wrongQ 0 n D.length q = false := fun q h => by
      have hq := hP q h
      unfold wrongQ
      have a1 := hq.1.lo
      have a2 : q.1 < 40 := hq.1.hi
      have a3 := hq.2
      have a4 : ¬ (q.1 < (n : Int)) := by omega
      rw [hD]
      simp [hq.1.sz, a1, a2, a4]
    have same : WS7 n (b + 1) true false (p' : Int) (s' : Int) (u' : Int) D c W M := .inl ⟨rfl, rfl, p', s', u', p0, s0, txs, rfl, rfl, rfl, by omega, x, hM⟩
    by_cases h0 : P = []
    · exact ⟨_, _, _, _, _, _, _, _, _, _, commit_bad (b := 0) (by omega) (by omega) (.inl h0), .inr (.inr ⟨by decide, by decide, same⟩)⟩
    by_cases hk : n - 4 < P.length
    · exact ⟨_, _, _, _, _, _, _, _, _, _, commit_size (b := 0) (by omega) (by omega) (by omega) (by omega) hall hk, .inr (.inr ⟨by decide, by decide, same⟩)⟩
    have hk0 : 1 ≤ P.length := Nat.pos_of_ne_zero fun h => h0 (List.length_eq_zero_iff.1 h)
    obtain ⟨r, e, w⟩ := commit_any (armed := armed) (left := left) (steps := st) (by omega) h40 x hP hk0 (by omega) (by omega)
    have haf : ∀ a, n ≤ a → a < 40 → aft (vf W) P a = vf (afV W P) a := fun a _ h2 => (afV_at W P hPq a h2).symm
    rcases w with ⟨l, t, D', p2, u2, p1, s1, t1, rfl, x1⟩ | ⟨_, l, t, D', c', p2, s2, u2, rfl, dn⟩
    · exact ⟨_, _, _, _, _, _, _, _, _, _, e, .inl ⟨rfl, rfl, rfl, .inl ⟨rfl, rfl, p2, s' + 1, u2, p1, s1, t1, rfl, rfl, rfl, by omega, x1.congrS haf, fun _ _ _ => rfl⟩⟩⟩
    · exact ⟨_, _, _, _, _, _, _, _, _, _, e, .inr (.inl ⟨rfl, .inr ⟨rfl, rfl, (dn.mono (by omega)).congr (fun _ _ _ => rfl) haf⟩⟩)⟩
  · exact ⟨_, _, _, _, _, _, _, _, _, _, commit_broken, .inr (.inr ⟨by decide, by decide, .inr ⟨rfl, rfl, x.mono (Nat.le_succ b)⟩⟩)⟩
theorem redoWhole_law : RedoWholePure := by
  intro size l _ hl
  refine ⟨1000, ?_⟩
  obtain ⟨l, rfl⟩ : ∃ l' : List (Int × Int × List (Int × Int) × List Int), l' = l := ⟨l, rfl⟩
  have hwz : ∀ o ∈ l, ∀ z ∈ o.2.2.1, -9223372036854775808 ≤ z.1 ∧ z.1 ≤ 9223372036854775807 := fun o ho z hz => by
    have h := hl.2 o ho
    have h2 := (h.2.2.1.2 z hz).1
    simp only [wfT, Lit.wf, Bool.and_eq_true, decide_eq_true_eq] at h2
    exact h2
  have aw : law07_awake 1000 vgl_check_table = some true := by kernel_rfl
  have er : slices_Repeat 1000 (mnI (mxI 40 1) 65536, [noneS]) = some (List.replicate 40 noneS) := rep_lies 40 (by decide) (by decide) noneS
  have hab : 0 ≤ andK .i64 size 15 ∧ andK .i64 size 15 ≤ 15 := and_bound size 15 (by decide)
  obtain ⟨n, hn6, hn21, hn⟩ : ∃ n : Nat, 6 ≤ n ∧ n ≤ 21 ∧ WK .i64 (6 + andK .i64 size 15) = (n : Int) := ⟨(6 + andK .i64 size 15).toNat, by omega, by omega, by rw [wk_i64 (by omega) (by omega)]; omega⟩
  have hb : 0 + n ≤ (List.replicate 40 noneS).length := by rw [List.length_replicate]; omega
  have hl40 : (List.replicate 40 noneS).length ≤ 65536 := by simp
  obtain ⟨L0, s1, hL0, hh0, hh1, hha, hf⟩ : ∃ (L0 : List ByteArray) (s1 : Int), L0.length = 40 ∧ L0.getD 0 str0 = hdB 0 1 ∧ L0.getD 1 str0 = noneS ∧ (∀ a, 1 ≤ a → a < 40 → L0.getD a str0 = noneS) ∧ redo_Format 1000 (0, (n : Int), true, false, 0, 0, vgl_check_table, List.replicate 40 noneS, []) = some (0, true, false, 0, s1, L0, []) := by
    obtain ⟨s1, hf⟩ := format_ok (b := 0) (n := n) (left := 0) (steps := 0) (by omega) hb hl40
    refine ⟨_, s1, by simp, rfl, rfl, fun a h1 h2 => ?_, hf⟩
    rw [getD_set (by simp)]
    split
    · rfl
    · rw [getD_set (by simp), if_neg (by omega), List.getD_eq_getElem?_getD, List.getElem?_replicate, if_pos h2]; rfl
  obtain ⟨L1, s2, hL1, hd0, hda, ho⟩ : ∃ (L1 : List ByteArray) (s2 : Int), L1.length = 40 ∧ L1.getD 0 str0 = hdB 0 1 ∧ (∀ a, 1 ≤ a → a < 40 → L1.getD a str0 = noneS) ∧ redo_Open 1000 (0, (n : Int), true, false, 0, s1, vgl_check_table, L0, []) = some (.inr (0, true, false, 0, s2, 0, (n : Int), 0, 1, 0, false, L1, [])) := by
    obtain ⟨s2, ho⟩ := open_none (b := 0) (n := n) (p := 0) (left := 0) (steps := s1) (lies := L0) (s := 1) (by omega) (by omega) (by omega) (by omega) (scan_new (by rw [regL_len]; omega)
      (by rw [regL_at _ _ _ _ (by omega)]; exact hh0) (by rw [regL_at _ _ _ _ (by omega)]; exact hh1)) (by omega)
    refine ⟨_, s2, by rw [List.length_set]; exact hL0, ?_, fun a h1 h2 => ?_, ho⟩
    · rw [getD_set (by omega), if_neg (by omega)]; exact hh0
    · rw [getD_set (by omega)]
      split
      · rfl
      · exact hha a h1 h2
  have sur0 : WS7 n 1 true false ((0 : Nat) : Int) ((1 : Nat) : Int) ((0 : Nat) : Int) L1 [] (vBl 40) (vBl 40) := by
    have hv : ∀ a, n ≤ a → a < 40 → noneS = vf (vBl 40) a := fun a h1 h2 => (vBl_at 40 (by omega) a h2).symm
    refine .inl ⟨rfl, rfl, 0, 1, 0, 0, 1, [], rfl, rfl, rfl, Nat.le_refl _, Sur.congrS (S := fun _ => noneS) ?_ hv, fun _ _ _ => rfl⟩
    exact ⟨⟨hL1, hd0, by omega, by omega, by simp, trivial, by simp only [usedT]; omega, by
      simp only [endP]; rw [slL_at (by omega)]; exact hda _ (by omega) (by omega), (fun q hq => by cases hq)⟩, rfl, rfl, rfl, (fun q hq => by cases hq), by simp, fun a h1 h2 => hda a (by omega) h2, fun a h1 h2 => hda a (by omega) h2⟩
  unfold law07_RedoWhole
  refine bind_of aw ?_
  refine bind_of rep256 ?_
  refine bind_of er ?_
  simp only [hn]
  refine bind_of hf ?_
  simp only [show ine 0 0 = false from rfl, condO_false]
  refine bind_of ho ?_
  simp only [caseS_inr, show ine 0 0 = false from rfl, condO_false]
  refine bind_of (a := vBl 40) ?_ ?_
  · refine loopK_run (fun i : Nat => ((i : Int), vBl i)) 40 _ 1000 ?_ ?_ (by decide)
    · intro i hi
      simp only [ilt_t (show (i : Int) < 40 by omega), condO_true, blank_ok]
      rw [guardO_pos (by decide), guardO_pos ⟨by omega, by omega⟩, wk_i64 (by omega) (by omega)]
      rfl
    · rfl
  refine loop_bind (wI7 n (min l.length 60)) (fun e => ∃ x, e = .inr x) (min l.length 60) (by omega) ?_ ?_ ?_
  · exact wI7.inl (i := 0) (by omega) sur0
  · rintro m h ⟨i, on, armed, left, st, p, s, u, br, W, M, D, c, hh, hmi, ws⟩
    by_cases hi : i < min l.length 60
    · obtain ⟨o, hoL, ea⟩ : ∃ o, o ∈ l ∧ at_ T6 l (i : Int) = o := ⟨l[i]'(by omega), List.getElem_mem _, at_nat (by omega)⟩
      have wi : WK .i64 ((i : Int) + 1) = ((i + 1 : Nat) : Int) := by rw [wk_i64 (by omega) (by omega)]; omega
      have hin : inR (i : Int) (llen l) := ⟨by omega, by unfold llen; omega⟩
      have hnz : nz (10 : Int) := by decide
      have hnz2 : nz (40 : Int) := by decide
      have hnz3 : nz (20 : Int) := by decide
      have hi1 := ilt_t (show (i : Int) < llen l by unfold llen; omega)
      have hi2 := ilt_t (show (i : Int) < 60 by omega)
      have hmm : m - 1 < m := by omega
      have hm1 : m - 1 + (i + 1) = min l.length 60 := by omega
      obtain ⟨ec, onc, lc, tc, pc, sc, uc, brc, Dc, cc, ck, wsc⟩ := ws.check (by omega) (by omega) armed left st
      have hpu := puts_ok (n := n) (most := 6) (l := o.2.2.1) (by omega) (by decide) (hwz o hoL)
      have hpu : law07_puts 1000 ((n : Int), 6, o.2.2.1) = _ := hpu
      have hPl : ((o.2.2.1.take (min o.2.2.1.length 6)).map (pq n)).length ≤ 6 := by simp only [List.length_map, List.length_take]; omega
      have hPo : ∀ q ∈ (o.2.2.1.take (min o.2.2.1.length 6)).map (pq n), PutOk 40 q ∧ (n : Int) ≤ q.1 := fun q hq => by
        obtain ⟨z, _, rfl⟩ := List.mem_map.1 hq
        exact pq_ok (by omega)
      generalize (o.2.2.1.take (min o.2.2.1.length 6)).map (pq n) = P at hpu hPl hPo
      have hPq : ∀ q ∈ P, PutOk 40 q := fun q hq => (hPo q hq).1
      obtain ⟨em, onm, lm, tm, pm, sm, um, brm, Dm, cm, cmE, wsm⟩ := ws.commit (P := P) (by omega) (by omega) (by omega) armed left st hPo hPl
      have hcr := fun picks => ws.crash (by omega) armed left st picks
      have haf := after_ok (W := W) hPq (by omega)
      have hv : ∃ v : Int, (condO (ilt (Int.tmod o.1 10) 0) (some (WK .i64 (Int.tmod o.1 10 + 10))) (some (Int.tmod o.1 10)) : Option Int) = some v := by
        by_cases h : Int.tmod o.1 10 < 0
        · exact ⟨_, by rw [ilt_t h]; rfl⟩
        · exact ⟨_, by rw [ilt_f (by omega)]; rfl⟩
      obtain ⟨v, hv⟩ := hv
      rcases hh with rfl | ⟨o1, o2, o3, o4, o5, o6, rfl⟩
      all_goals
        simp only [caseS_inl, caseS_inr, hi1, hi2, condO_true, guardO_pos hin, guardO_pos hnz, guardO_pos hnz2, guardO_pos hnz3, ea, wi, hv, Option.bind_some]
        by_cases h5 : v = 5
        · rw [ieq_t h5, condO_true, ck]
          simp only [Option.bind_some]
          first | exact .on (m - 1) hmm (wI7.inl hm1 (wsc.mono (Nat.le_succ _))) | exact .on (m - 1) hmm (wI7.inr hm1 (wsc.mono (Nat.le_succ _)))
        rw [ieq_f h5, condO_false]
        by_cases h6 : v = 6
        · rw [ieq_t h6, condO_true]
          first | exact .on (m - 1) hmm (wI7.inl hm1 (ws.mono (Nat.le_succ _))) | exact .on (m - 1) hmm (wI7.inr hm1 (ws.mono (Nat.le_succ _)))
        rw [ieq_f h6, condO_false]
        refine Goes.bind (fun _ => True) ?_ ?_
        · by_cases h7 : v = 7
          · exact ⟨_, by rw [ieq_t h7]; rfl, trivial⟩
          · rw [ieq_f h7, condO_false]
            by_cases h8 : v = 8
            · exact ⟨_, by rw [ieq_t h8]; rfl, trivial⟩
            · exact ⟨_, by rw [ieq_f h8]; rfl, trivial⟩
        rintro bb -
        cases bb
        · -- a transaction
          simp only [condO_false, hpu, Option.bind_some, cmE]
          rcases wsm with ⟨rfl, rfl, rfl, w⟩ | ⟨rfl, w⟩ | ⟨h0, h14, w⟩
          · simp only [show ieq 0 0 = true from rfl, condO_true, haf, Option.bind_some, Bool.not_true, condO_false]
            rcases w with ⟨_, _, p', s', u', p0, s0, txs, rfl, rfl, rfl, hs, x, hM⟩ | ⟨h, _⟩
            · obtain ⟨b, rb, hb⟩ := reads_any (n := n) (W := afV W P) (p := (p' : Int)) (s := (s' : Int)) (u := (u' : Int)) (left := lm) (steps := tm) (armed := armed) (D := Dm) (cache := cm) (by omega) x.j.len
              have hbt : b = true := hb.2 (fun a h1 h2 => x.now a h1 h2)
              subst hbt
              rw [rb]
              simp only [Option.bind_some, Bool.not_true, condO_false]
              have w' : WS7 n (i + 1 + 1) true false (p' : Int) (s' : Int) (u' : Int) Dm cm (afV W P) (afV W P) := .inl ⟨rfl, rfl, p', s', u', p0, s0, txs, rfl, rfl, rfl, hs, x, hM⟩
              first | exact .on (m - 1) hmm (wI7.inl hm1 w') | exact .on (m - 1) hmm (wI7.inr hm1 w')
            · cases h
          · simp only [show ieq 14 0 = false from rfl, condO_false, show ieq 14 14 = true from rfl, condO_true, haf, Option.bind_some]
            first | exact .on (m - 1) hmm (wI7.inl hm1 w) | exact .on (m - 1) hmm (wI7.inr hm1 w)
          · simp only [ieq_f h0, condO_false, ieq_f h14]
            first | exact .on (m - 1) hmm (wI7.inl hm1 w) | exact .on (m - 1) hmm (wI7.inr hm1 w)
        · -- a crash
          simp only [condO_true]
          by_cases hpk : 20 < llen o.2.2.2
          all_goals
            first
              | simp only [igt_t hpk, condO_true, guardO_pos (show cutOk4 0 20 (llen o.2.2.2) 20 from ⟨by decide, by decide, by omega, rfl⟩)]
                generalize ltake 20 o.2.2.2 = pk
              | simp only [igt_f (show llen o.2.2.2 ≤ 20 by omega), condO_false]
                generalize o.2.2.2 = pk
            have gx := (hcr pk).2
            simp only [(hcr pk).1, Option.bind_some, caseS_inr]
            refine Goes.bind (fun r => ∃ l t E, r = (true, false, l, t, E, []) ∧ GX n (i + 1) E W M) ?_ ?_
            · by_cases h9 : v = 9
              · rw [ieq_t h9, condO_true]
                obtain ⟨r, e, w⟩ := gx.mid (by omega) (by omega) true (mxI (Int.tmod o.2.1 20) 0) st
                refine bind_ex (fun a => a = r) ⟨_, e, rfl⟩ ?_
                rintro _ rfl
                rcases w with ⟨p9, s9, u9, l9, t9, F, rfl, hc9⟩ | ⟨l9, t9, F, c9, rfl, hc9⟩
                · simp only [caseS_inr, (hc9 pk).1, Option.bind_some]
                  exact ⟨_, rfl, _, _, _, rfl, (hc9 pk).2⟩
                · simp only [caseS_inl, (hc9 pk).1, Option.bind_some, caseS_inr]
                  exact ⟨_, rfl, _, _, _, rfl, (hc9 pk).2⟩
              · rw [ieq_f h9, condO_false]
                exact ⟨_, rfl, _, _, _, rfl, gx⟩
            · rintro _ ⟨l1, t1, E, rfl, gx1⟩
              obtain ⟨l2, t2, F, p2, s2', X, e2, hs2, x2, hX⟩ := gx1.again (by omega) (by omega) l1 t1
              refine Goes.bind (fun a => a = _) ⟨_, e2, rfl⟩ ?_
              rintro _ rfl
              simp only [caseS_inr, show ine 0 0 = false from rfl, condO_false]
              rw [ine_f (show ((0 : Nat) : Int) = 0 from rfl), condO_false]
              obtain ⟨b1, rb1, hb1⟩ := reads_any (n := n) (W := W) (p := (p2 : Int)) (s := (s2' : Int)) (u := ((0 : Nat) : Int)) (left := l2) (steps := t2) (armed := false) (D := F) (cache := []) (by omega) x2.j.len
              obtain ⟨b2, rb2, hb2⟩ := reads_any (n := n) (W := M) (p := (p2 : Int)) (s := (s2' : Int)) (u := ((0 : Nat) : Int)) (left := l2) (steps := t2) (armed := false) (D := F) (cache := []) (by omega) x2.j.len
              rw [rb1]
              simp only [Option.bind_some]
              rw [rb2]
              simp only [Option.bind_some]
              cases b1
              · have h2 : b2 = true := by
                  rcases hX with rfl | rfl
                  · have := hb1.2 (fun a h1 h2 => x2.now a h1 h2); cases this
                  · exact hb2.2 (fun a h1 h2 => x2.now a h1 h2)
                subst h2
                have w' : WS7 n (i + 1 + 1) true false (p2 : Int) (s2' : Int) ((0 : Nat) : Int) F [] M M := .inl ⟨rfl, rfl, p2, s2', 0, p2, s2', [], rfl, rfl, rfl, by omega, x2.congrS (fun a h1 h2 => (x2.now a h1 h2).symm.trans (hb2.1 rfl a h1 h2)), fun _ _ _ => rfl⟩
                simp only [Bool.not_false, Bool.not_true, condO_true, condO_false, Option.bind_some, caseS_inr]
                exact .on (m - 1) hmm (wI7.inr hm1 w')
              · have w' : WS7 n (i + 1 + 1) true false (p2 : Int) (s2' : Int) ((0 : Nat) : Int) F [] W W := .inl ⟨rfl, rfl, p2, s2', 0, p2, s2', [], rfl, rfl, rfl, by omega, x2.congrS (fun a h1 h2 => (x2.now a h1 h2).symm.trans (hb1.1 rfl a h1 h2)), fun _ _ _ => rfl⟩
                simp only [Bool.not_true, condO_false, Option.bind_some, caseS_inr]
                exact .on (m - 1) hmm (wI7.inr hm1 w')
    · have hex : ∀ {A : Type} (x y z : Option A), x = y → condO (ilt (i : Int) (llen l)) (condO (ilt (i : Int) 60) z x) y = y := fun x y z h => by
        by_cases h1 : (i : Int) < llen l
        · rw [ilt_t h1, condO_true, ilt_f (by unfold llen at h1; omega), condO_false, h]
        · rw [ilt_f (by omega), condO_false]
      rcases hh with rfl | ⟨o1, o2, o3, o4, o5, o6, rfl⟩
      · simp only [caseS_inl]
        rw [hex _ _ _ rfl]
        exact .out ⟨_, rfl⟩
      · simp only [caseS_inr]
        rw [hex _ _ _ rfl]
        exact .out ⟨_, rfl⟩
  · rintro _ ⟨x, rfl⟩
    rfl
end Go.Proofs.YtlidgpepppjeiaaDoor
