/- Texts of the proof, put together: part 10. No condition. -/
import Derived.Test.YtlidgpepppjeiaaDoorT9
/- A journal's transactions, with power on: Commit and Checkpoint. No condition. -/
set_option linter.unusedVariables false
set_option linter.unusedSimpArgs false
namespace Go.Proofs.YtlidgpepppjeiaaDoor
open Go
theorem settle_app (l : List ByteArray) (a b : List Put) : settle l (a ++ b) = settle (settle l a) b := by unfold settle; rw [List.foldl_append]
theorem check_idle {b n p s left steps : Int} {on armed : Bool} {lies : List ByteArray} {cache : List Put} :
    redo_Log_Checkpoint 1000 (b, n, p, s, 0, false, vgl_check_table, on, armed, left, steps, lies, cache) = some (0, b, n, p, s, 0, false, on, armed, left, steps, lies, cache) := rfl
theorem check_on {b n p : Nat} {s u left steps : Int} {lies : List ByteArray} {cache : List Put} (hu : u ≠ 0) (hb : b < lies.length) (hl : cache.length < 890) (hr : ∀ q ∈ cache, 0 ≤ q.1 ∧ q.1 < lies.length) :
    ∃ st, redo_Log_Checkpoint 1000 ((b : Int), (n : Int), (p : Int), s, u, false, vgl_check_table, true, false, left, steps, lies, cache) = some (0, (b : Int), (n : Int), (p : Int), s, 0, false, true, false, left, st, (settle lies cache).set b (hdB p s), []) := by
  obtain ⟨s1, h1⟩ := writes_on (left := left) (steps := steps) (lies := lies) (cache := cache) (puts := []) true (fun q hq => by cases hq) (by omega) (by simp; omega) hr
  have hsz : (hdB p s).size = 256 := line_size (Nat.le_trans (headT_len p s) (by decide))
  obtain ⟨s2, h2⟩ := writes_on (left := left) (steps := s1) (lies := settle lies cache) (cache := []) (puts := [((b : Int), hdB p s)]) true (fun q hq => by
    obtain rfl := List.mem_singleton.1 hq
    exact ⟨by simp only; omega, by simp only [settle_len]; omega, hsz⟩) (by rw [settle_len]; omega) (by simp) (fun q hq => by cases hq)
  refine ⟨s2, ?_⟩
  have k1 := kput_le p 65535 (by decide)
  have k2 := kput_le s 1099511627776 (by decide)
  simp only [if_true, List.append_nil] at h1
  unfold redo_Log_Checkpoint
  refine bind_of (a := 0) rfl ?_
  simp only [show ine 0 0 = false from rfl, condO_false]
  rw [ieq_f hu, condO_false]
  refine bind_of h1 ?_
  refine bind_of (a := (0, true, false, left, s2, (settle lies cache).set b (hdB p s), [])) ?_ ?_
  · simp only [show ieq 0 0 = true from rfl, condO_true]
    rw [cput16, cput40]
    simp only [Option.bind_some, kind3]
    rw [guardO_pos (catOk_small (by decide) (by omega))]
    simp only [mkB_app]
    rw [guardO_pos (catOk_small (by simp only [List.length_append, List.length_cons, List.length_nil]; omega) (by omega)), line_ok (t := [83, 67, 72] ++ putL (kpn p 65535) ++ putL (kpn s 1099511627776)) (Nat.le_trans (headT_len p s) (by decide))]
    refine bind_of h2 ?_
    simp only [if_true, List.nil_append, settle, List.foldl_cons, List.foldl_nil, setD, Int.toNat_natCast]
  · rfl
/-! ### what may not be written -/
def wrongQ (b n L : Nat) (q : Put) : Bool := !(q.2.size == 256 && decide (0 ≤ q.1) && decide (q.1 < L) && !(decide ((b : Int) ≤ q.1) && decide (q.1 < (b : Int) + n)))
theorem wrong_ok {b n : Nat} {a p s u left steps : Int} {S : ByteArray} {br on armed : Bool} {lies : List ByteArray} {cache : List Put} (hb : b + n ≤ 100000) :
    redo_Log_wrong 1000 (a, S, (b : Int), (n : Int), p, s, u, br, on, armed, left, steps, lies, cache) = some (wrongQ b n lies.length (a, S)) := by
  unfold redo_Log_wrong wrongQ
  simp only
  by_cases h1 : S.size = 256
  · rw [ine_f (show blen S = 256 by rw [blen, h1]; rfl), condO_false, h1]
    by_cases h2 : 0 ≤ a
    · rw [ilt_f h2, condO_false, decide_eq_true h2]
      by_cases h3 : a < lies.length
      · rw [ige_f (by unfold llen; omega), condO_false, decide_eq_true h3]
        by_cases h4 : (b : Int) ≤ a
        · rw [ige_t h4, condO_true, wk_i64 (by omega) (by omega), decide_eq_true h4]
          by_cases h5 : a < (b : Int) + n
          · rw [ilt_t h5, decide_eq_true h5]; rfl
          · rw [ilt_f (by omega), decide_eq_false h5]; rfl
        · rw [ige_f (by omega), condO_false, decide_eq_false h4]; rfl
      · rw [ige_t (by unfold llen; omega), condO_true, decide_eq_false h3]; simp
    · rw [ilt_t (by omega), condO_true, decide_eq_false h2]; simp
  · rw [ine_t (by rw [blen]; omega), condO_true, show (S.size == 256) = false by simpa using h1]; simp
theorem index_ok {b n : Nat} {p s u left steps : Int} {br on armed : Bool} {puts : List Put} {lies : List ByteArray} {cache : List Put} (hb : b + n ≤ 100000) (hp : puts.length < 900) :
    ∃ r, slices_IndexFunc 1000 (puts, (b : Int), (n : Int), p, s, u, br, on, armed, left, steps, lies, cache) = some r ∧ (r = -1 ∧ (∀ q ∈ puts, wrongQ b n lies.length q = false) ∨ 0 ≤ r ∧ ∃ q ∈ puts, wrongQ b n lies.length q = true) := by
  unfold slices_IndexFunc
  have hstep : ∀ i (hi : i < puts.length), at_ T0 puts (i : Int) = puts[i] := fun i hi => at_nat hi
  by_cases h : puts.findIdx (wrongQ b n lies.length) < puts.length
  · refine ⟨((puts.findIdx (wrongQ b n lies.length) : Nat) : Int), ?_, .inr ⟨by omega, _, List.getElem_mem h, List.findIdx_getElem (w := h)⟩⟩
    refine bind_of (a := .inl ((puts.findIdx (wrongQ b n lies.length) : Nat) : Int)) ?_ rfl
    refine loopK_run (fun i : Nat => (i : Int)) (puts.findIdx (wrongQ b n lies.length)) _ 1000 ?_ ?_ (by omega)
    · intro i hi
      have hn : wrongQ b n lies.length puts[i] = false := by simpa using List.not_of_lt_findIdx hi
      simp only [ilt_t (show (i : Int) < llen puts by unfold llen; omega), condO_true, hstep i (by omega)]
      rw [guardO_pos ⟨by omega, by unfold llen; omega⟩, wrong_ok hb]
      simp only [Option.bind_some, hn, condO_false]
      rw [wk_i64 (by omega) (by omega)]; rfl
    · have hn : wrongQ b n lies.length puts[puts.findIdx (wrongQ b n lies.length)] = true := List.findIdx_getElem (w := h)
      generalize puts.findIdx (wrongQ b n lies.length) = i at h hn ⊢
      simp only [ilt_t (show (i : Int) < llen puts by unfold llen; omega), condO_true, hstep i h]
      rw [guardO_pos ⟨by omega, by unfold llen; omega⟩, wrong_ok hb]
      simp only [Option.bind_some, hn, condO_true]
  · have hall : ∀ q ∈ puts, wrongQ b n lies.length q = false := fun q hq => by
      cases hw : wrongQ b n lies.length q with
      | false => rfl
      | true => exact absurd (List.findIdx_lt_length_of_exists ⟨q, hq, hw⟩) h
    refine ⟨-1, ?_, .inl ⟨rfl, hall⟩⟩
    refine bind_of (a := .inr ()) ?_ rfl
    refine loopK_run (fun i : Nat => (i : Int)) puts.length _ 1000 ?_ ?_ (by omega)
    · intro i hi
      have hn : wrongQ b n lies.length puts[i] = false := hall _ (List.getElem_mem hi)
      simp only [ilt_t (show (i : Int) < llen puts by unfold llen; omega), condO_true, hstep i (by omega)]
      rw [guardO_pos ⟨by omega, by unfold llen; omega⟩, wrong_ok hb]
      simp only [Option.bind_some, hn, condO_false]
      rw [wk_i64 (by omega) (by omega)]; rfl
    · simp only [ilt_f (show llen puts ≤ (puts.length : Int) by unfold llen; omega), condO_false]
/-! ### a transaction -/
def slotA (b m p i : Nat) : Nat := b + 1 + (p + i) % m
def rowsL (b m p : Nat) (puts : List Put) : List Put := puts.mapIdx fun j q => (((slotA b m p (1 + j) : Nat) : Int), q.2)
def atsL (puts : List Put) : List Int := puts.map (·.1)
def blanks (b m p n : Nat) : List Put := [(((slotA b m p (n + 1) : Nat) : Int), noneS), (((slotA b m p (n + 2) : Nat) : Int), noneS)]
def commitD (b m p : Nat) (s : Int) (D : List ByteArray) (puts : List Put) : List ByteArray :=
  settle (settle (settle D (blanks b m p puts.length)) ((((slotA b m p 0 : Nat) : Int), lineB (firstT s (atsL puts))) :: rowsL b m p puts)) [(((slotA b m p (puts.length + 1) : Nat) : Int), lineB (lastT s puts.length))]
theorem commitD_len (b m p : Nat) (s : Int) (D : List ByteArray) (puts : List Put) : (commitD b m p s D puts).length = D.length := by
  unfold commitD; rw [settle_len, settle_len, settle_len]
theorem slotA_lt {b m p i : Nat} (hm : 0 < m) : slotA b m p i < b + (m + 1) := by
  unfold slotA
  have := Nat.mod_lt (p + i) hm
  omega
theorem slot_ok {b n p i : Nat} {j : Int} (hj : j = (i : Int)) (h4 : 4 ≤ n) (h6 : n ≤ 64) (hb : b ≤ 65536) (hp : p ≤ 100) (hi : i ≤ 200) :
    WK .i64 (WK .i64 ((b : Int) + 1) + Int.tmod (WK .i64 ((p : Int) + j)) (WK .i64 ((n : Int) - 1))) = ((slotA b (n - 1) p i : Nat) : Int) := by
  subst hj
  have hm := Nat.mod_lt (p + i) (show 0 < n - 1 by omega)
  rw [wk_i64 (x := (b : Int) + 1) (by omega) (by omega), wk_i64 (x := (p : Int) + i) (by omega) (by omega), wk_i64 (x := (n : Int) - 1) (by omega) (by omega)]
  have e : Int.tmod ((p : Int) + i) ((n : Int) - 1) = (((p + i) % (n - 1) : Nat) : Int) := by
    rw [Int.tmod_eq_emod_of_nonneg (by omega), show (p : Int) + i = ((p + i : Nat) : Int) by omega, show (n : Int) - 1 = ((n - 1 : Nat) : Int) by omega]
    exact (Int.natCast_emod _ _).symm
  rw [e, wk_i64 (by omega) (by omega)]
  unfold slotA; omega
theorem slotPut {b n p i L : Nat} {s : ByteArray} (h4 : 4 ≤ n) (hb : b + n ≤ L) (hs : s.size = 256) : PutOk L (((slotA b (n - 1) p i : Nat) : Int), s) :=
  ⟨by simp only; omega, by have := slotA_lt (b := b) (p := p) (i := i) (show 0 < n - 1 by omega); simp only; omega, hs⟩
theorem rowsL_ok {b n p L : Nat} {puts : List Put} (h4 : 4 ≤ n) (hb : b + n ≤ L) (hp : ∀ q ∈ puts, PutOk L q) : ∀ q ∈ rowsL b (n - 1) p puts, PutOk L q := by
  intro q hq
  unfold rowsL at hq
  obtain ⟨j, hj, rfl⟩ := List.mem_mapIdx.1 hq
  exact slotPut h4 hb (hp _ (List.getElem_mem hj)).sz
theorem rowsL_len (b m p : Nat) (puts : List Put) : (rowsL b m p puts).length = puts.length := by simp [rowsL]
theorem rowsL_take (b m p : Nat) (puts : List Put) (i : Nat) (hi : i < puts.length) : rowsL b m p (puts.take (i + 1)) = rowsL b m p (puts.take i) ++ [(((slotA b m p (1 + i) : Nat) : Int), puts[i].2)] := by
  unfold rowsL
  rw [List.take_succ_eq_append_getElem hi, List.mapIdx_concat, List.length_take, show min i puts.length = i by omega]
theorem atsL_take (puts : List Put) (i : Nat) (hi : i < puts.length) : atsL (puts.take (i + 1)) = atsL (puts.take i) ++ [puts[i].1] := by
  unfold atsL
  rw [List.take_succ_eq_append_getElem hi, List.map_append]; rfl
theorem commit_bad {b n : Nat} {p s u left steps : Int} {puts : List Put} {lies : List ByteArray} {cache : List Put} {on armed : Bool} (hb : b + n ≤ 100000) (hp : puts.length < 900) (hbad : puts = [] ∨ ∃ q ∈ puts, wrongQ b n lies.length q = true) :
    redo_Log_Commit 1000 ((b : Int), (n : Int), p, s, u, false, puts, vgl_check_table, on, armed, left, steps, lies, cache) = some (1, (b : Int), (n : Int), p, s, u, false, on, armed, left, steps, lies, cache) := by
  unfold redo_Log_Commit
  refine bind_of (a := 0) rfl ?_
  simp only [show ine 0 0 = false from rfl, condO_false]
  refine bind_of (a := .inl 1) ?_ rfl
  by_cases h0 : puts = []
  · subst h0; rfl
  · obtain ⟨r, hr, hc⟩ := index_ok (p := p) (s := s) (u := u) (left := left) (steps := steps) (br := false) (on := on) (armed := armed) (puts := puts) (lies := lies) (cache := cache) hb hp
    have hl : puts.length ≠ 0 := fun h => h0 (List.length_eq_zero_iff.1 h)
    rw [ieq_f (by unfold llen; omega), condO_false, hr]
    rcases hc with ⟨_, hall⟩ | ⟨h, _⟩
    · rcases hbad with h | ⟨q, hq, hw⟩
      · exact absurd h h0
      · rw [hall q hq] at hw; cases hw
    · simp only [Option.bind_some]
      rw [ige_t h, condO_true]
theorem room_ok {n : Nat} (h4 : 4 ≤ n) (h6 : n ≤ 64) : mnI 60 (WK .i64 (WK .i64 (WK .i64 ((n : Int) - 1) - 2) - 1)) = (n : Int) - 4 := by
  rw [wk_i64 (x := (n : Int) - 1) (by omega) (by omega), wk_i64 (x := (n : Int) - 1 - 2) (by omega) (by omega), wk_i64 (by omega) (by omega)]
  unfold mnI
  split <;> omega
theorem commit_size {b n : Nat} {p s u left steps : Int} {puts : List Put} {lies : List ByteArray} {cache : List Put} {on armed : Bool} (hb : b + n ≤ 100000) (h4 : 4 ≤ n) (h6 : n ≤ 64) (hp : puts.length < 900) (hall : ∀ q ∈ puts, wrongQ b n lies.length q = false) (hs : n - 4 < puts.length) :
    redo_Log_Commit 1000 ((b : Int), (n : Int), p, s, u, false, puts, vgl_check_table, on, armed, left, steps, lies, cache) = some (11, (b : Int), (n : Int), p, s, u, false, on, armed, left, steps, lies, cache) := by
  obtain ⟨r, hr, hc⟩ := index_ok (p := p) (s := s) (u := u) (left := left) (steps := steps) (br := false) (on := on) (armed := armed) (puts := puts) (lies := lies) (cache := cache) hb hp
  unfold redo_Log_Commit
  refine bind_of (a := 0) rfl ?_
  simp only [show ine 0 0 = false from rfl, condO_false]
  refine bind_of (a := .inl 11) ?_ rfl
  rw [ieq_f (by unfold llen; omega), condO_false, hr]
  rcases hc with ⟨rfl, _⟩ | ⟨h, q, hq, hw⟩
  · simp only [Option.bind_some, show ige (-1) 0 = false from rfl, condO_false]
    refine bind_of (a := 0) rfl ?_
    simp only [show ine 0 0 = false from rfl, condO_false, room_ok h4 h6]
    rw [igt_t (by unfold llen; omega), condO_true]
  · rw [hall q hq] at hw; cases hw
end Go.Proofs.YtlidgpepppjeiaaDoor
/- A journal's transaction that is done, with power on. No condition. -/
set_option linter.unusedVariables false
set_option linter.unusedSimpArgs false
namespace Go.Proofs.YtlidgpepppjeiaaDoor
open Go
def afterU (n u k : Nat) : Nat := (if n - 1 < u + (k + 2) + 1 then 0 else u) + (k + 2)
def beforeD (b n p : Nat) (s : Int) (u k : Nat) (D : List ByteArray) : List ByteArray := if n - 1 < u + (k + 2) + 1 then D.set b (hdB p s) else D
theorem beforeD_len (b n p : Nat) (s : Int) (u k : Nat) (D : List ByteArray) : (beforeD b n p s u k D).length = D.length := by unfold beforeD; split <;> simp
theorem commit_on {b n p u : Nat} {s left steps : Int} {puts : List Put} {lies : List ByteArray} {cache : List Put} (h4 : 4 ≤ n) (h6 : n ≤ 64) (hb : b + n ≤ lies.length) (hL : lies.length ≤ 65536) (hp : p ≤ 100) (hu : u ≤ 100) (hs0 : 0 ≤ s) (hs1 : s ≤ 1000000)
    (hP : ∀ q ∈ puts, PutOk lies.length q) (hall : ∀ q ∈ puts, wrongQ b n lies.length q = false) (hk0 : 1 ≤ puts.length) (hk : puts.length ≤ n - 4) (hc : cache.length < 800) (hr : ∀ q ∈ cache, 0 ≤ q.1 ∧ q.1 < lies.length) :
    ∃ st, redo_Log_Commit 1000 ((b : Int), (n : Int), (p : Int), s, (u : Int), false, puts, vgl_check_table, true, false, left, steps, lies, cache) =
      some (0, (b : Int), (n : Int), (((p + (puts.length + 2)) % (n - 1) : Nat) : Int), s + 1, ((afterU n u puts.length : Nat) : Int), false, true, false, left, st, commitD b (n - 1) p s (beforeD b n p s u puts.length (settle lies cache)) puts, puts) := by
  obtain ⟨r, hri, hci⟩ := index_ok (b := b) (n := n) (p := p) (s := s) (u := u) (left := left) (steps := steps) (br := false) (on := true) (armed := false) (puts := puts) (lies := lies) (cache := cache) (by omega) (by omega)
  have hri' : r = -1 := by
    rcases hci with ⟨h, _⟩ | ⟨_, q, hq, hw⟩
    · exact h
    · rw [hall q hq] at hw; cases hw
  subst hri'
  have w2 : WK .i64 (llen puts + 2) = ((puts.length + 2 : Nat) : Int) := by rw [llen, wk_i64 (by omega) (by omega)]; omega
  have w1 : WK .i64 (((puts.length + 2 : Nat) : Int) - 1) = ((puts.length + 1 : Nat) : Int) := by rw [wk_i64 (by omega) (by omega)]; omega
  have wn : WK .i64 ((n : Int) - 1) = ((n - 1 : Nat) : Int) := by rw [wk_i64 (by omega) (by omega)]; omega
  have hnz : nz (WK .i64 ((n : Int) - 1)) := by rw [wn]; unfold nz; omega
  -- room is made
  have hck : ∃ (lies' : List ByteArray) (cache' : List Put) (st' : Int), settle lies' cache' = beforeD b n p s u puts.length (settle lies cache) ∧ lies'.length = lies.length ∧ (∀ q ∈ cache', 0 ≤ q.1 ∧ q.1 < lies'.length) ∧ cache'.length < 800 ∧
      (condO (igt (WK .i64 ((WK .i64 ((u : Int) + ((puts.length + 2 : Nat) : Int))) + 1)) (WK .i64 ((n : Int) - 1))) ((redo_Log_Checkpoint 1000 ((b : Int), (n : Int), (p : Int), s, (u : Int), false, vgl_check_table, true, false, left, steps, lies, cache)).bind fun r2 => condO (ine r2.1 0) (some (.inl (r2.1, r2.2.1, r2.2.2.1, r2.2.2.2.1, r2.2.2.2.2.1, r2.2.2.2.2.2.1, r2.2.2.2.2.2.2.1, r2.2.2.2.2.2.2.2.1, r2.2.2.2.2.2.2.2.2.1, r2.2.2.2.2.2.2.2.2.2.1, r2.2.2.2.2.2.2.2.2.2.2.1, r2.2.2.2.2.2.2.2.2.2.2.2.1, r2.2.2.2.2.2.2.2.2.2.2.2.2))) (some (.inr ((r2.2.1, r2.2.2.1, r2.2.2.2.1, r2.2.2.2.2.1, r2.2.2.2.2.2.1, r2.2.2.2.2.2.2.1, r2.2.2.2.2.2.2.2.1, r2.2.2.2.2.2.2.2.2.1, r2.2.2.2.2.2.2.2.2.2.1, r2.2.2.2.2.2.2.2.2.2.2.1, r2.2.2.2.2.2.2.2.2.2.2.2.1, r2.2.2.2.2.2.2.2.2.2.2.2.2))))) (some (.inr ((b : Int), (n : Int), (p : Int), s, (u : Int), false, true, false, left, steps, lies, cache))) : Option ((Int × Int × Int × Int × Int × Int × Bool × Bool × Bool × Int × Int × (List ByteArray) × (List (Int × ByteArray))) ⊕ (Int × Int × Int × Int × Int × Bool × Bool × Bool × Int × Int × (List ByteArray) × (List (Int × ByteArray))))) =
        some (.inr ((b : Int), (n : Int), (p : Int), s, (((if n - 1 < u + (puts.length + 2) + 1 then 0 else u) : Nat) : Int), false, true, false, left, st', lies', cache')) := by
    rw [wk_i64 (x := (u : Int) + ((puts.length + 2 : Nat) : Int)) (by omega) (by omega), wk_i64 (x := (u : Int) + ((puts.length + 2 : Nat) : Int) + 1) (by omega) (by omega), wn]
    by_cases h : n - 1 < u + (puts.length + 2) + 1
    · obtain ⟨st, e⟩ := check_on (b := b) (n := n) (p := p) (s := s) (u := (u : Int)) (left := left) (steps := steps) (lies := lies) (cache := cache) (by omega) (by omega) (by omega) hr
      refine ⟨(settle lies cache).set b (hdB p s), [], st, ?_, ?_, (fun q hq => by cases hq), by simp, ?_⟩
      · unfold beforeD; rw [if_pos h]; rfl
      · rw [List.length_set, settle_len]
      · rw [igt_t (by omega), condO_true, e, if_pos h]; rfl
    · refine ⟨lies, cache, steps, ?_, rfl, hr, hc, ?_⟩
      · unfold beforeD; rw [if_neg h]
      · rw [igt_f (by omega), condO_false, if_neg h]
  obtain ⟨lies', cache', st', hD, hlen, hcr, hclen, hck⟩ := hck
  have hfz : (lineB (firstT s (atsL puts))).size = 256 := line_size (Nat.le_trans (firstT_len s _) (by decide))
  have hlz : (lineB (lastT s puts.length)).size = 256 := line_size (Nat.le_trans (lastT_len s _) (by decide))
  obtain ⟨t1, h1⟩ := writes_on (left := left) (steps := st') (lies := lies') (cache := cache') (puts := blanks b (n - 1) p puts.length) true (fun q hq => by
    simp only [blanks, List.mem_cons, List.not_mem_nil, or_false] at hq
    rcases hq with rfl | rfl <;> exact slotPut h4 (by omega) none_size) (by omega) (by simp only [blanks, List.length_cons, List.length_nil]; omega) hcr
  rw [settle_app, hD] at h1
  have hl2 : (settle (beforeD b n p s u puts.length (settle lies cache)) (blanks b (n - 1) p puts.length)).length = lies.length := by rw [settle_len, beforeD_len, settle_len]
  obtain ⟨t2, h2⟩ := writes_on (left := left) (steps := t1) (lies := settle (beforeD b n p s u puts.length (settle lies cache)) (blanks b (n - 1) p puts.length)) (cache := []) (puts := (((slotA b (n - 1) p 0 : Nat) : Int), lineB (firstT s (atsL puts))) :: rowsL b (n - 1) p puts) true (fun q hq => by
    rw [hl2]
    rcases List.mem_cons.1 hq with rfl | hq
    · exact slotPut h4 (by omega) hfz
    · exact rowsL_ok h4 (by omega) hP q hq) (by omega) (by simp only [List.length_cons, List.length_nil, rowsL_len]; omega) (fun q hq => by cases hq)
  have hl3 : (settle (settle (beforeD b n p s u puts.length (settle lies cache)) (blanks b (n - 1) p puts.length)) ((((slotA b (n - 1) p 0 : Nat) : Int), lineB (firstT s (atsL puts))) :: rowsL b (n - 1) p puts)).length = lies.length := by rw [settle_len, hl2]
  obtain ⟨t3, h3⟩ := writes_on (left := left) (steps := t2) (lies := settle (settle (beforeD b n p s u puts.length (settle lies cache)) (blanks b (n - 1) p puts.length)) ((((slotA b (n - 1) p 0 : Nat) : Int), lineB (firstT s (atsL puts))) :: rowsL b (n - 1) p puts)) (cache := []) (puts := [(((slotA b (n - 1) p (puts.length + 1) : Nat) : Int), lineB (lastT s puts.length))]) true (fun q hq => by
    rw [hl3]
    obtain rfl := List.mem_singleton.1 hq
    exact slotPut h4 (by omega) hlz) (by omega) (by simp) (fun q hq => by cases hq)
  have hl4 : (commitD b (n - 1) p s (beforeD b n p s u puts.length (settle lies cache)) puts).length = lies.length := by rw [commitD_len, beforeD_len, settle_len]
  obtain ⟨t4, h5⟩ := writes_on (left := left) (steps := t3) (lies := commitD b (n - 1) p s (beforeD b n p s u puts.length (settle lies cache)) puts) (cache := []) (puts := puts) false (fun q hq => by rw [hl4]; exact hP q hq) (by omega) (by simp only [List.length_nil]; omega) (fun q hq => by cases hq)
  simp only [if_true, List.nil_append] at h1 h2 h3 h5
  refine ⟨t4, ?_⟩
  unfold redo_Log_Commit
  refine bind_of (a := 0) rfl ?_
  simp only [show ine 0 0 = false from rfl, condO_false]
  refine bind_of (a := .inr ()) ?_ ?_
  · rw [ieq_f (by unfold llen; omega), condO_false, hri]
    simp only [Option.bind_some, show ige (-1) 0 = false from rfl, condO_false]
    refine bind_of (a := 0) rfl ?_
    simp only [show ine 0 0 = false from rfl, condO_false, room_ok h4 h6]
    rw [igt_f (by unfold llen; omega), condO_false]
  simp only [caseS_inr, w2]
  refine bind_of hck ?_
  simp only [caseS_inr]
  refine bind_of (a := (atsL puts, rowsL b (n - 1) p puts)) ?_ ?_
  · have s0 : ((0 : Int), ([] : List Int), ([] : List Put)) = (fun i : Nat => ((i : Int), atsL (puts.take i), rowsL b (n - 1) p (puts.take i))) 0 := rfl
    rw [s0]
    refine loopK_run (fun i : Nat => ((i : Int), atsL (puts.take i), rowsL b (n - 1) p (puts.take i))) puts.length _ 1000 ?_ ?_ (by omega)
    · intro i hi
      have ea : at_ T0 puts (i : Int) = puts[i] := at_nat hi
      have l1 : (atsL (puts.take i)).length ≤ 64 := by simp only [atsL, List.length_map, List.length_take]; omega
      have l2 : (rowsL b (n - 1) p (puts.take i)).length ≤ 64 := by rw [rowsL_len, List.length_take]; omega
      simp only [ilt_t (show (i : Int) < llen puts by unfold llen; omega), condO_true, ea]
      rw [guardO_pos ⟨by omega, by unfold llen; omega⟩, guardO_pos (by unfold appOk; simp only [List.length_cons, List.length_nil]; omega), guardO_pos hnz, slot_ok (i := 1 + i) (by rw [wk_i64 (by omega) (by omega)]; omega) h4 h6 (by omega) hp (by omega), guardO_pos (by unfold appOk; simp only [List.length_cons, List.length_nil]; omega), wk_i64 (x := (i : Int) + 1) (by omega) (by omega), atsL_take puts i hi, rowsL_take b (n - 1) p puts i hi]
      rfl
    · simp only [ilt_f (show llen puts ≤ (puts.length : Int) by unfold llen; omega), condO_false, List.take_length]
  simp only
  have hal : (atsL puts).length ≤ 100000 := by simp only [atsL, List.length_map]; omega
  have kk1 := kput_le s 1099511627776 (by decide)
  have kk2 := kput_le (puts.length : Int) 1099511627776 (by decide)
  rw [first_ok s (atsL puts) hal]
  simp only [Option.bind_some]
  rw [guardO_pos hnz, slot_ok (i := 0) (j := 0) rfl h4 h6 (by omega) hp (by omega), guardO_pos (by unfold appOk; simp only [List.length_cons, List.length_nil, rowsL_len]; omega), guardO_pos (by decide), guardO_pos hnz, guardO_pos (by decide), guardO_pos hnz, w1, slot_ok (i := puts.length + 1) rfl h4 h6 (by omega) hp (by omega), slot_ok (i := puts.length + 2) rfl h4 h6 (by omega) hp (by omega), blank_ok]
  refine bind_of h1 ?_
  simp only [show ieq 0 0 = true from rfl, condO_true]
  refine bind_of (bind_of h2 rfl) ?_
  simp only [show ieq 0 0 = true from rfl, condO_true]
  refine bind_of (a := (0, true, false, left, t3, commitD b (n - 1) p s (beforeD b n p s u puts.length (settle lies cache)) puts, [])) ?_ ?_
  · rw [cput40, cput40 (llen puts)]
    simp only [Option.bind_some, kind3]
    rw [guardO_pos (catOk_small (by decide) (by omega))]
    simp only [mkB_app]
    rw [guardO_pos (catOk_small (by simp only [List.length_append, List.length_cons, List.length_nil]; omega) (by unfold llen; omega)), line_ok (t := [83, 67, 67] ++ putL (kpn s 1099511627776) ++ putL (kpn (llen puts) 1099511627776)) (Nat.le_trans (lastT_len s puts.length) (by decide)), guardO_pos hnz]
    exact bind_of h3 rfl
  simp only [show ieq 0 0 = true from rfl, condO_true]
  refine bind_of (a := (0, (b : Int), (n : Int), (((p + (puts.length + 2)) % (n - 1) : Nat) : Int), s + 1, ((afterU n u puts.length : Nat) : Int), false, true, false, left, t4, commitD b (n - 1) p s (beforeD b n p s u puts.length (settle lies cache)) puts, puts)) ?_ rfl
  rw [guardO_pos hnz]
  refine bind_of h5 ?_
  simp only
  have e1 : Int.tmod (WK .i64 ((p : Int) + ((puts.length + 2 : Nat) : Int))) (WK .i64 ((n : Int) - 1)) = (((p + (puts.length + 2)) % (n - 1) : Nat) : Int) := by
    rw [wn, wk_i64 (by omega) (by omega), Int.tmod_eq_emod_of_nonneg (by omega), show (p : Int) + ((puts.length + 2 : Nat) : Int) = ((p + (puts.length + 2) : Nat) : Int) by omega]
    exact (Int.natCast_emod _ _).symm
  have e2 : WK .i64 ((((if n - 1 < u + (puts.length + 2) + 1 then 0 else u) : Nat) : Int) + ((puts.length + 2 : Nat) : Int)) = ((afterU n u puts.length : Nat) : Int) := by
    unfold afterU
    split <;> rw [wk_i64 (by omega) (by omega)] <;> omega
  rw [e1, e2, wk_i64 (x := s + 1) (by omega) (by omega)]
  rfl
end Go.Proofs.YtlidgpepppjeiaaDoor
/- The plain law of RedoTells. No condition. -/
set_option linter.unusedVariables false
set_option linter.unusedSimpArgs false
namespace Go.Proofs.YtlidgpepppjeiaaDoor
open Go
def RedoTellsPure : Prop := ∀ (z0 : Ty.den (.int .i64)) (z1 : Ty.den (.sl 43 (.pair (.int .i64) (.int .u8)))) (z2 : Ty.den (.int .i64)), wfT (.int .i64) z0 → wfT (.sl 43 (.pair (.int .i64) (.int .u8))) z1 → wfT (.int .i64) z2 → ∃ k, law07_RedoTells k (z0, z2, z1, vgl_check_table) = some true
theorem check_any {b n p : Nat} {s u left steps : Int} {lies : List ByteArray} {cache : List Put} (hb : b < lies.length) (hl : cache.length < 890) (hr : ∀ q ∈ cache, 0 ≤ q.1 ∧ q.1 < lies.length) :
    ∃ st lies' cache', redo_Log_Checkpoint 1000 ((b : Int), (n : Int), (p : Int), s, u, false, vgl_check_table, true, false, left, steps, lies, cache) = some (0, (b : Int), (n : Int), (p : Int), s, 0, false, true, false, left, st, lies', cache') := by
  by_cases h : u = 0
  · subst h; exact ⟨_, _, _, check_idle⟩
  · obtain ⟨st, e⟩ := check_on (b := b) (n := n) (p := p) (s := s) (u := u) (left := left) (steps := steps) h hb hl hr
    exact ⟨_, _, _, e⟩
def spQ (z : Int × Int) : Put := (z.1, if z.2 = 9 then scut (withS z.2) 0 255 else withS z.2)
def badE (n : Nat) (z : Int × Int) : Bool := z.2 == 9 || decide (z.1 < n) || decide (39 < z.1)
theorem sp_size (c : Int) : (scut (withS c) 0 255).size = 255 := by
  have h := with_size c
  rw [mkB_of (withS c)] at h ⊢
  rw [mkB_size] at h
  rw [scut_take, mkB_size, List.length_take, h]; rfl
theorem sp_wrong (n : Nat) (z : Int × Int) : wrongQ 0 n 40 (spQ z) = badE n z := by
  unfold wrongQ spQ badE
  by_cases h9 : z.2 = 9
  · rw [if_pos h9]
    simp only [sp_size, h9, show ((255 : Nat) == 256) = false from rfl]
    simp
  · rw [if_neg h9]
    simp only [with_size, show (z.2 == 9) = false by simpa using h9]
    by_cases h1 : z.1 < n
    · by_cases h0 : 0 ≤ z.1
      · by_cases h2 : z.1 < 40 <;> simp [h0, h1, h2]
      · simp [h0, h1]
    · have h0 : 0 ≤ z.1 := by omega
      by_cases h2 : z.1 < 40
      · have : ¬ (39 < z.1) := by omega
        simp [h0, h1, h2, this]
      · have : 39 < z.1 := by omega
        simp [h0, h1, h2, this]
abbrev TS7 := Int × Int × Bool × Bool × Int × Int × Int × Int × Int × Int × Int × Bool × (List ByteArray) × (List Put)
abbrev TE7 := Bool × Bool × Int × Int × Int × Int × Int × Int × Int × Bool × (List ByteArray) × (List Put)
structure LogOk (n : Nat) (p u : Nat) (lies : List ByteArray) (cache : List Put) : Prop where
  hp : p ≤ 100
  hu : u ≤ 100
  len : lies.length = 40
  cl : cache.length ≤ 60
  cr : ∀ q ∈ cache, 0 ≤ q.1 ∧ q.1 < lies.length
def tI (n K : Nat) (m : Nat) (h : TS7) : Prop := ∃ (i p u : Nat) (st : Int) (lies : List ByteArray) (cache : List Put), h = ((u : Int), (i : Int), true, false, 0, st, 0, (n : Int), (p : Int), (i : Int) + 1, (u : Int), false, lies, cache) ∧ m + i = K ∧ LogOk n p u lies cache
def tQ (n : Nat) (e : (Bool × TE7) ⊕ TE7) : Prop := ∃ (s p u : Nat) (st : Int) (lies : List ByteArray) (cache : List Put), e = .inr (true, false, 0, st, 0, (n : Int), (p : Int), (s : Int), (u : Int), false, lies, cache) ∧ s ≤ 100 ∧ LogOk n p u lies cache
def psT (l : List (Int × Int)) (i : Nat) : List Put := (l.take i).map spQ
def bdT (n : Nat) (l : List (Int × Int)) (i : Nat) : Bool := decide (l = []) || (l.take i).any (badE n)
theorem psT_succ (l : List (Int × Int)) (i : Nat) (h : i < l.length) : psT l (i + 1) = psT l i ++ [spQ l[i]] := by
  unfold psT; rw [List.take_succ_eq_append_getElem h, List.map_append]; rfl
theorem bdT_succ (n : Nat) (l : List (Int × Int)) (i : Nat) (h : i < l.length) : bdT n l (i + 1) = (bdT n l i || badE n l[i]) := by
  unfold bdT; rw [List.take_succ_eq_append_getElem h, List.any_append]; simp [Bool.or_assoc]
theorem redoTells_law : RedoTellsPure := by
  intro size l ahead _ _ _
  refine ⟨1000, ?_⟩
  obtain ⟨l, rfl⟩ : ∃ l' : List (Int × Int), l' = l := ⟨l, rfl⟩
  obtain ⟨ahead, rfl⟩ : ∃ a' : Int, a' = ahead := ⟨ahead, rfl⟩
  have aw : law07_awake 1000 vgl_check_table = some true := by kernel_rfl
  have er : slices_Repeat 1000 (mnI (mxI 40 1) 65536, [noneS]) = some (List.replicate 40 noneS) := rep_lies 40 (by decide) (by decide) noneS
  have hab : 0 ≤ andK .i64 size 15 ∧ andK .i64 size 15 ≤ 15 := and_bound size 15 (by decide)
  obtain ⟨n, hn5, hn20, hn⟩ : ∃ n : Nat, 5 ≤ n ∧ n ≤ 20 ∧ WK .i64 (5 + andK .i64 size 15) = (n : Int) := ⟨(5 + andK .i64 size 15).toNat, by omega, by omega, by rw [wk_i64 (by omega) (by omega)]; omega⟩
  have hb : 0 + n ≤ (List.replicate 40 noneS).length := by rw [List.length_replicate]; omega
  have hl40 : (List.replicate 40 noneS).length ≤ 65536 := by simp
  obtain ⟨L0, s1, hL0, hh0, hh1, hf⟩ : ∃ (L0 : List ByteArray) (s1 : Int), L0.length = 40 ∧ L0.getD 0 str0 = hdB 0 1 ∧ L0.getD 1 str0 = noneS ∧ redo_Format 1000 (0, (n : Int), true, false, 0, 0, vgl_check_table, List.replicate 40 noneS, []) = some (0, true, false, 0, s1, L0, []) := by
    obtain ⟨s1, hf⟩ := format_ok (b := 0) (n := n) (left := 0) (steps := 0) (by omega) hb hl40
    exact ⟨_, s1, by simp, rfl, rfl, hf⟩
  obtain ⟨L1, s2, hL1, ho⟩ : ∃ (L1 : List ByteArray) (s2 : Int), L1.length = 40 ∧ redo_Open 1000 (0, (n : Int), true, false, 0, s1, vgl_check_table, L0, []) = some (.inr (0, true, false, 0, s2, 0, (n : Int), 0, 1, 0, false, L1, [])) := by
    obtain ⟨s2, ho⟩ := open_none (b := 0) (n := n) (p := 0) (left := 0) (steps := s1) (lies := L0) (s := 1) (by omega) (by omega) (by omega) (by omega) (scan_new (by rw [regL_len]; omega)
      (by rw [regL_at _ _ _ _ (by omega)]; exact hh0) (by rw [regL_at _ _ _ _ (by omega)]; exact hh1)) (by omega)
    exact ⟨_, s2, by rw [List.length_set]; exact hL0, ho⟩
  unfold law07_RedoTells
  refine bind_of aw ?_
  refine bind_of rep256 ?_
  refine bind_of er ?_
  simp only [hn]
  refine bind_of hf ?_
  simp only [show ine 0 0 = false from rfl, condO_false]
  refine bind_of ho ?_
  simp only [caseS_inr]
  have wn1 : WK .i64 ((n : Int) - 1) = (n : Int) - 1 := wk_i64 (by omega) (by omega)
  have wn4 : WK .i64 ((n : Int) - 4) = (n : Int) - 4 := wk_i64 (by omega) (by omega)
  refine bind_of (a := .inr ()) ?_ ?_
  · simp only [show ine 0 0 = false from rfl, condO_false]
    refine bind_of (a := 0) rfl ?_
    simp only [show ine 0 0 = false from rfl, condO_false, room_ok (show 4 ≤ n by omega) (show n ≤ 64 by omega), wn4]
    rw [ine_f rfl, condO_false]
  simp only [caseS_inr]
  rw [guardO_pos (by decide)]
  have hm0 : -20 ≤ Int.tmod ahead 21 ∧ Int.tmod ahead 21 ≤ 20 := by
    have h1 := Int.tmod_lt_of_pos ahead (show (0 : Int) < 21 by decide)
    have h2 := Int.lt_tmod_of_pos ahead (show (0 : Int) < 21 by decide)
    omega
  obtain ⟨K, hK, eK⟩ : ∃ K : Nat, K ≤ 20 ∧ (condO (ilt (Int.tmod ahead 21) 0) (some ((WK .i64 (0 - (Int.tmod ahead 21))))) (some ((Int.tmod ahead 21))) : Option (Int)) = some (K : Int) := by
    by_cases h : Int.tmod ahead 21 < 0
    · refine ⟨(0 - Int.tmod ahead 21).toNat, by omega, ?_⟩
      rw [ilt_t h, condO_true, wk_i64 (by omega) (by omega), Int.toNat_of_nonneg (by omega)]
    · refine ⟨(Int.tmod ahead 21).toNat, by omega, ?_⟩
      rw [ilt_f (by omega), condO_false, Int.toNat_of_nonneg (by omega)]
  refine bind_of eK ?_
  refine loop_bind (tI n K) (tQ n) K (by omega) ?_ ?_ ?_
  · exact ⟨0, 0, 0, s2, L1, [], rfl, by omega, ⟨by decide, by decide, hL1, by simp, fun q hq => by cases hq⟩⟩
  · rintro m h ⟨i, p, u, st, lies, cache, rfl, hmi, ok⟩
    by_cases hi : i < K
    · simp only [ilt_t (show (i : Int) < (K : Int) by omega), condO_true]
      rw [fill_with]
      simp only [Option.bind_some]
      have h39 : ∀ q ∈ [((39 : Int), withS (WK .u8 (i : Int)))], PutOk lies.length q := fun q hq => by
        obtain rfl := List.mem_singleton.1 hq
        exact ⟨by simp only; omega, by rw [ok.len]; simp only; omega, with_size _⟩
      have hw39 : ∀ q ∈ [((39 : Int), withS (WK .u8 (i : Int)))], wrongQ 0 n lies.length q = false := fun q hq => by
        obtain rfl := List.mem_singleton.1 hq
        unfold wrongQ
        rw [ok.len]
        simp only [with_size]
        have : ¬ ((39 : Int) < n) := by omega
        simp [this]
      obtain ⟨st', hc⟩ := commit_on (b := 0) (n := n) (p := p) (u := u) (s := (i : Int) + 1) (left := 0) (steps := st) (puts := [((39 : Int), withS (WK .u8 (i : Int)))]) (lies := lies) (cache := cache) (by omega) (by omega) (by rw [ok.len]; omega) (by rw [ok.len]; decide) ok.hp ok.hu (by omega) (by omega) h39 hw39 (by simp) (by simp; omega) (by have := ok.cl; omega) ok.cr
      have hau : afterU n u 1 = (if n - 1 < u + 4 then 0 else u) + 3 := rfl
      have hau2 : afterU n u 1 ≤ 22 ∧ afterU n u 1 + 1 ≤ n := by
        rw [hau]
        split <;> omega
      have hcv : redo_Log_Commit 1000 (0, (n : Int), (p : Int), (i : Int) + 1, (u : Int), false, [((39 : Int), withS (WK .u8 (i : Int)))], vgl_check_table, true, false, 0, st, lies, cache) = _ := hc
      rw [hcv]
      simp only [Option.bind_some, show ine 0 0 = false from rfl, condO_false, wn1]
      rw [wk_i64 (x := (u : Int) + 4) (by have := ok.hu; omega) (by have := ok.hu; omega)]
      refine Goes.bind (fun r => r = (((if n - 1 < u + 4 then 0 else u) : Nat) : Int)) ?_ ?_
      · by_cases h : n - 1 < u + 4
        · rw [igt_t (by omega), condO_true, if_pos h]; exact ⟨_, rfl, rfl⟩
        · rw [igt_f (by omega), condO_false, if_neg h]; exact ⟨_, rfl, rfl⟩
      · rintro _ rfl
        have e3 : WK .i64 ((((if n - 1 < u + 4 then 0 else u) : Nat) : Int) + 3) = ((afterU n u 1 : Nat) : Int) := by
          rw [hau, wk_i64 (by have := ok.hu; split <;> omega) (by have := ok.hu; split <;> omega)]; omega
        simp only [e3, List.length_cons, List.length_nil]
        rw [ine_f rfl, condO_false, wk_i64 (x := (i : Int) + 2) (by omega) (by omega), ine_f (by omega), condO_false, wk_i64 (x := (i : Int) + 1) (by omega) (by omega)]
        refine .on (m - 1) (by omega) ⟨i + 1, _, afterU n u 1, st', _, [((39 : Int), withS (WK .u8 (i : Int)))], rfl, by omega, ⟨?_, by omega, ?_, by simp, ?_⟩⟩
        · have := Nat.mod_lt (p + (0 + 1 + 2)) (show 0 < n - 1 by omega)
          omega
        · rw [commitD_len, beforeD_len, settle_len, ok.len]
        · intro q hq
          obtain rfl := List.mem_singleton.1 hq
          rw [commitD_len, beforeD_len, settle_len, ok.len]
          exact ⟨by simp only; omega, by simp only; omega⟩
    · simp only [ilt_f (show (K : Int) ≤ (i : Int) by omega), condO_false]
      exact .out ⟨i + 1, p, u, st, lies, cache, rfl, by omega, ok⟩
  · rintro _ ⟨s, p, u, st, lies, cache, rfl, hs, ok⟩
    simp only [caseS_inr]
    have hq : min l.length 12 ≤ l.length := by omega
    refine bind_of (a := (bdT n l (min l.length 12), psT l (min l.length 12))) ?_ ?_
    · have s0 : (ieq (llen l) 0, (0 : Int), ([] : List Put)) = (fun i : Nat => (bdT n l i, (i : Int), psT l i)) 0 := by
        have : ieq (llen l) 0 = decide (l = []) := by
          cases l with
          | nil => rfl
          | cons a l => rw [ieq_f (by simp only [llen, List.length_cons]; omega)]; rfl
        simp [bdT, psT, this]
      rw [s0]
      refine loopK_run (fun i : Nat => (bdT n l i, (i : Int), psT l i)) (min l.length 12) _ 1000 ?_ ?_ (by omega)
      · intro i hi
        have hil : i < l.length := by omega
        have ea : at_ T4 l (i : Int) = l[i] := at_nat hil
        have hps : (psT l i).length ≤ 12 := by simp only [psT, List.length_map, List.length_take]; omega
        have hin : inR (i : Int) (llen l) := ⟨by omega, by unfold llen; omega⟩
        simp only [ilt_t (show (i : Int) < llen l by unfold llen; omega), ilt_t (show (i : Int) < 12 by omega), condO_true, ea]
        rw [guardO_pos hin, fill_with]
        simp only [Option.bind_some]
        refine bind_of (a := (spQ l[i]).2) ?_ ?_
        · rw [guardO_pos hin]
          unfold spQ
          by_cases h9 : l[i].2 = 9
          · rw [ieq_t h9, condO_true, guardO_pos ⟨by decide, by decide, by rw [blen, with_size]; decide⟩]
            simp only [if_pos h9]
          · rw [ieq_f h9, condO_false]
            simp only [if_neg h9]
        · have hap : appOk (psT l i) ([(l[i].1, (spQ l[i]).2)] : List Put) 24 := by unfold appOk; simp only [List.length_cons, List.length_nil]; omega
          have wi : WK .i64 ((i : Int) + 1) = ((i + 1 : Nat) : Int) := by rw [wk_i64 (by omega) (by omega)]; omega
          rw [psT_succ l i hil, bdT_succ n l i hil, wi]
          simp only [guardO_pos hin, guardO_pos hap, hn]
          have hsp : spQ l[i] = (l[i].1, (spQ l[i]).2) := rfl
          cases hbd : bdT n l i with
          | true => rfl
          | false =>
            simp only [condO_false, Bool.false_or]
            unfold badE
            by_cases h9 : l[i].2 = 9
            · rw [ieq_t h9, condO_true, show (l[i].2 == 9) = true by simpa using h9]; rfl
            · rw [ieq_f h9, condO_false, show (l[i].2 == 9) = false by simpa using h9]
              by_cases h1 : l[i].1 < n
              · rw [ilt_t h1, condO_true, decide_eq_true h1]; rfl
              · rw [ilt_f (by omega), condO_false, decide_eq_false h1]
                by_cases h2 : 39 < l[i].1
                · rw [igt_t h2, decide_eq_true h2]; rfl
                · rw [igt_f (by omega), decide_eq_false h2]; rfl
      · by_cases h : l.length ≤ 12
        · simp only [ilt_f (show llen l ≤ ((min l.length 12 : Nat) : Int) by unfold llen; omega), condO_false]
        · simp only [ilt_t (show ((min l.length 12 : Nat) : Int) < llen l by unfold llen; omega), ilt_f (show (12 : Int) ≤ ((min l.length 12 : Nat) : Int) by omega), condO_false, condO_true]
    simp only
    have hpl : (psT l (min l.length 12)).length = min l.length 12 := by simp only [psT, List.length_map, List.length_take]; omega
    have hmem : ∀ q ∈ psT l (min l.length 12), ∃ z ∈ l.take (min l.length 12), q = spQ z := fun q hq => by
      obtain ⟨z, hz, rfl⟩ := List.mem_map.1 hq
      exact ⟨z, hz, rfl⟩
    -- what is left, whatever was answered
    have fin : ∀ (e : Int) (p' u' : Nat) (s' st' : Int) (lies' : List ByteArray) (cache' : List Put), lies'.length = 40 → cache'.length ≤ 60 → (∀ q ∈ cache', 0 ≤ q.1 ∧ q.1 < lies'.length) →
        redo_Log_Commit 1000 (0, (n : Int), (p : Int), (s : Int), (u : Int), false, psT l (min l.length 12), vgl_check_table, true, false, 0, st, lies, cache) = some (e, 0, (n : Int), (p' : Int), s', (u' : Int), false, true, false, 0, st', lies', cache') →
        (condO (bdT n l (min l.length 12)) (some (1 : Int)) (condO (igt (llen (psT l (min l.length 12))) (WK .i64 ((n : Int) - 4))) (some 11) (some 0)) : Option Int) = some e →
        ((redo_Log_Commit 1000 (0, (n : Int), (p : Int), (s : Int), (u : Int), false, psT l (min l.length 12), vgl_check_table, true, false, 0, st, lies, cache)).bind fun r9 => ((condO (bdT n l (min l.length 12)) (some (1 : Int)) (condO (igt (llen (psT l (min l.length 12))) (WK .i64 ((n : Int) - 4))) (some 11) (some 0)) : Option Int)).bind fun r10 => condO true (condO (ieq r9.1 r10) ((redo_Log_Checkpoint 1000 (r9.2.1, r9.2.2.1, r9.2.2.2.1, r9.2.2.2.2.1, r9.2.2.2.2.2.1, r9.2.2.2.2.2.2.1, vgl_check_table, r9.2.2.2.2.2.2.2.1, r9.2.2.2.2.2.2.2.2.1, r9.2.2.2.2.2.2.2.2.2.1, r9.2.2.2.2.2.2.2.2.2.2.1, r9.2.2.2.2.2.2.2.2.2.2.2.1, r9.2.2.2.2.2.2.2.2.2.2.2.2)).bind fun r11 => condO (ieq r11.1 0) (some ((ieq r11.2.2.2.2.2.1 0))) (some (false))) (some (false))) (some (false))) = some true := by
      intro e p' u' s' st' lies' cache' h1 h2 h3 hcm hw
      refine bind_of hcm (bind_of hw ?_)
      obtain ⟨st2, l2, c2, hck⟩ := check_any (b := 0) (n := n) (p := p') (s := s') (u := (u' : Int)) (left := 0) (steps := st') (lies := lies') (cache := cache') (by omega) (by omega) h3
      simp only [condO_true]
      rw [ieq_t rfl, condO_true]
      exact bind_of hck rfl
    have hwr : ∀ z, wrongQ 0 n lies.length (spQ z) = badE n z := fun z => by rw [ok.len]; exact sp_wrong n z
    cases hbd : bdT n l (min l.length 12) with
    | true =>
      have hbad : psT l (min l.length 12) = [] ∨ ∃ q ∈ psT l (min l.length 12), wrongQ 0 n lies.length q = true := by
        unfold bdT at hbd
        rcases Bool.or_eq_true_iff.1 hbd with h | h
        · have : l = [] := by simpa using h
          subst this; exact .inl rfl
        · obtain ⟨z, hz, hb⟩ := List.any_eq_true.1 h
          exact .inr ⟨spQ z, List.mem_map.2 ⟨z, hz, rfl⟩, by rw [hwr]; exact hb⟩
      have hcm := commit_bad (b := 0) (n := n) (p := (p : Int)) (s := (s : Int)) (u := (u : Int)) (left := 0) (steps := st) (lies := lies) (cache := cache) (on := true) (armed := false) (by omega) (by omega) hbad
      have := fin 1 p u s st lies cache ok.len ok.cl ok.cr hcm (by rw [hbd, condO_true])
      rw [hbd] at this
      exact this
    | false =>
      unfold bdT at hbd
      obtain ⟨hb1, hb2⟩ := Bool.or_eq_false_iff.1 hbd
      have hne : l ≠ [] := by simpa using hb1
      have hlen : l.length ≠ 0 := fun h => hne (List.length_eq_zero_iff.1 h)
      have hall : ∀ q ∈ psT l (min l.length 12), wrongQ 0 n lies.length q = false := fun q hq => by
        obtain ⟨z, hz, rfl⟩ := hmem q hq
        rw [hwr]
        exact (List.any_eq_false.1 hb2 z hz) |> fun h => by simpa using h
      have hbd' : bdT n l (min l.length 12) = false := hbd
      by_cases hsz : n - 4 < (psT l (min l.length 12)).length
      · have hcm := commit_size (b := 0) (n := n) (p := (p : Int)) (s := (s : Int)) (u := (u : Int)) (left := 0) (steps := st) (lies := lies) (cache := cache) (on := true) (armed := false) (by omega) (by omega) (by omega) (by omega) hall hsz
        have := fin 11 p u s st lies cache ok.len ok.cl ok.cr hcm (by rw [hbd', condO_false, wn4, igt_t (by unfold llen; omega), condO_true])
        rw [hbd'] at this
        exact this
      · have hP : ∀ q ∈ psT l (min l.length 12), PutOk lies.length q := fun q hq => by
          have hw := hall q hq
          unfold wrongQ at hw
          simp only [Bool.not_eq_false', Bool.and_eq_true, decide_eq_true_eq, beq_iff_eq] at hw
          exact ⟨hw.1.1.2, hw.1.2, hw.1.1.1⟩
        obtain ⟨st', hcm⟩ := commit_on (b := 0) (n := n) (p := p) (u := u) (s := (s : Int)) (left := 0) (steps := st) (lies := lies) (cache := cache) (puts := psT l (min l.length 12)) (by omega) (by omega) (by rw [ok.len]; omega) (by rw [ok.len]; decide) ok.hp ok.hu (by omega) (by omega) hP hall (by omega) (by omega) (by have := ok.cl; omega) ok.cr
        have := fin 0 _ _ _ _ _ _ (by rw [commitD_len, beforeD_len, settle_len, ok.len]) (by omega) (fun q hq => by
          rw [commitD_len, beforeD_len, settle_len]
          exact ⟨(hP q hq).lo, (hP q hq).hi⟩) hcm (by rw [hbd', condO_false, wn4, igt_f (by unfold llen; omega), condO_false])
        rw [hbd'] at this
        exact this
end Go.Proofs.YtlidgpepppjeiaaDoor
