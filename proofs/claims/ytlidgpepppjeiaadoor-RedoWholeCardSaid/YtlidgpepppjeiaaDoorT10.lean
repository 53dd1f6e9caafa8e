/- Texts of the proof, put together: part 10. No condition. -/
import Derived.Test.YtlidgpepppjeiaaDoorT9
/- A journal's transactions, with power on: Commit and Checkpoint. No condition. -/
set_option linter.unusedVariables false
set_option linter.unusedSimpArgs false
namespace Go.Proofs.YtlidgpepppjeiaaDoor
open Go
theorem settle_app (l : List ByteArray) (a b : List Put) : settle l (a ++ b) = settle (settle l a) b := by unfold settle; rw [List.foldl_append]
theorem check_idle {b n p s left steps : Int} {on armed : Bool} {lies : List ByteArray} {cache : List Put} :
    redo_Log_Checkpoint 1000 (b, n, p, s, 0, false, vgl_check_table, on, armed, left, steps, lies, cache) = some (0, b, n, p, s, 0, false, on, armed, left, steps, lies, cache) := rfl
theorem check_on {b n p : Nat} {s u left steps : Int} {lies : List ByteArray} {cache : List Put} (hu : u ≠ 0) (hb : b < lies.length) (hl : cache.length < 890) (hr : ∀ q ∈ cache, 0 ≤ q.1 ∧ q.1 < lies.length) :
    ∃ st, redo_Log_Checkpoint 1000 ((b : Int), (n : Int), (p : Int), s, u, false, vgl_check_table, true, false, left, steps, lies, cache) = some (0, (b : Int), (n : Int), (p : Int), s, 0, false, true, false, left, st, (settle lies cache).set b (hdB p s), []) := by
  obtain ⟨s1, h1⟩ := writes_on (left := left) (steps := steps) (lies := lies) (cache := cache) (puts := []) true (fun q hq => by cases hq) (by omega) (by simp; omega) hr
  have hsz : (hdB p s).size = 256 := line_size (Nat.le_trans (headT_len p s) (by decide))
  obtain ⟨s2, h2⟩ := writes_on (left := left) (steps := s1) (lies := settle lies cache) (cache := []) (puts := [((b : Int), hdB p s)]) true (fun q hq => by
    obtain rfl := List.mem_singleton.1 hq
    exact ⟨by simp only; omega, by simp only [settle_len]; omega, hsz⟩) (by rw [settle_len]; omega) (by simp) (fun q hq => by cases hq)
  refine ⟨s2, ?_⟩
  have k1 := kput_le p 65535 (by decide)
  have k2 := kput_le s 1099511627776 (by decide)
  simp only [if_true, List.append_nil] at h1
  unfold redo_Log_Checkpoint
  refine bind_of (a := 0) rfl ?_
  simp only [show ine 0 0 = false from rfl, condO_false]
  rw [ieq_f hu, condO_false]
  refine bind_of h1 ?_
  refine bind_of (a := (0, true, false, left, s2, (settle lies cache).set b (hdB p s), [])) ?_ ?_
  · simp only [show ieq 0 0 = true from rfl, condO_true]
    rw [cput16, cput40]
    simp only [Option.bind_some, kind3]
    rw [guardO_pos (catOk_small (by decide) (by omega))]
    simp only [mkB_app]
    rw [guardO_pos (catOk_small (by simp only [List.length_append, List.length_cons, List.length_nil]; omega) (by omega)), line_ok (t := [83, 67, 72] ++ putL (kpn p 65535) ++ putL (kpn s 1099511627776)) (Nat.le_trans (headT_len p s) (by decide))]
    refine bind_of h2 ?_
    simp only [if_true, List.nil_append, settle, List.foldl_cons, List.foldl_nil, setD, Int.toNat_natCast]
  · rfl
/-! ### what may not be written -/
def wrongQ (b n L : Nat) (q : Put) : Bool := !(q.2.size == 256 && decide (0 ≤ q.1) && decide (q.1 < L) && !(decide ((b : Int) ≤ q.1) && decide (q.1 < (b : Int) + n)))
theorem wrong_ok {b n : Nat} {a p s u left steps : Int} {S : ByteArray} {br on armed : Bool} {lies : List ByteArray} {cache : List Put} (hb : b + n ≤ 100000) :
    redo_Log_wrong 1000 (a, S, (b : Int), (n : Int), p, s, u, br, on, armed, left, steps, lies, cache) = some (wrongQ b n lies.length (a, S)) := by
  unfold redo_Log_wrong wrongQ
  simp only
  by_cases h1 : S.size = 256
  · rw [ine_f (show blen S = 256 by rw [blen, h1]; rfl), condO_false, h1]
    by_cases h2 : 0 ≤ a
    · rw [ilt_f h2, condO_false, decide_eq_true h2]
      by_cases h3 : a < lies.length
      · rw [ige_f (by unfold llen; omega), condO_false, decide_eq_true h3]
        by_cases h4 : (b : Int) ≤ a
        · rw [ige_t h4, condO_true, wk_i64 (by omega) (by omega), decide_eq_true h4]
          by_cases h5 : a < (b : Int) + n
          · rw [ilt_t h5, decide_eq_true h5]; rfl
          · rw [ilt_f (by omega), decide_eq_false h5]; rfl
        · rw [ige_f (by omega), condO_false, decide_eq_false h4]; rfl
      · rw [ige_t (by unfold llen; omega), condO_true, decide_eq_false h3]; simp
    · rw [ilt_t (by omega), condO_true, decide_eq_false h2]; simp
  · rw [ine_t (by rw [blen]; omega), condO_true, show (S.size == 256) = false by simpa using h1]; simp
theorem index_ok {b n : Nat} {p s u left steps : Int} {br on armed : Bool} {puts : List Put} {lies : List ByteArray} {cache : List Put} (hb : b + n ≤ 100000) (hp : puts.length < 900) :
    ∃ r, slices_IndexFunc 1000 (puts, (b : Int), (n : Int), p, s, u, br, on, armed, left, steps, lies, cache) = some r ∧ (r = -1 ∧ (∀ q ∈ puts, wrongQ b n lies.length q = false) ∨ 0 ≤ r ∧ ∃ q ∈ puts, wrongQ b n lies.length q = true) := by
  unfold slices_IndexFunc
  have hstep : ∀ i (hi : i < puts.length), at_ T0 puts (i : Int) = puts[i] := fun i hi => at_nat hi
  by_cases h : puts.findIdx (wrongQ b n lies.length) < puts.length
  · refine ⟨((puts.findIdx (wrongQ b n lies.length) : Nat) : Int), ?_, .inr ⟨by omega, _, List.getElem_mem h, List.findIdx_getElem (w := h)⟩⟩
    refine bind_of (a := .inl ((puts.findIdx (wrongQ b n lies.length) : Nat) : Int)) ?_ rfl
    refine loopK_run (fun i : Nat => (i : Int)) (puts.findIdx (wrongQ b n lies.length)) _ 1000 ?_ ?_ (by omega)
    · intro i hi
      have hn : wrongQ b n lies.length puts[i] = false := by simpa using List.not_of_lt_findIdx hi
      simp only [ilt_t (show (i : Int) < llen puts by unfold llen; omega), condO_true, hstep i (by omega)]
      rw [guardO_pos ⟨by omega, by unfold llen; omega⟩, wrong_ok hb]
      simp only [Option.bind_some, hn, condO_false]
      rw [wk_i64 (by omega) (by omega)]; rfl
    · have hn : wrongQ b n lies.length puts[puts.findIdx (wrongQ b n lies.length)] = true := List.findIdx_getElem (w := h)
      generalize puts.findIdx (wrongQ b n lies.length) = i at h hn ⊢
      simp only [ilt_t (show (i : Int) < llen puts by unfold llen; omega), condO_true, hstep i h]
      rw [guardO_pos ⟨by omega, by unfold llen; omega⟩, wrong_ok hb]
      simp only [Option.bind_some, hn, condO_true]
  · have hall : ∀ q ∈ puts, wrongQ b n lies.length q = false := fun q hq => by
      cases hw : wrongQ b n lies.length q with
      | false => rfl
      | true => exact absurd (List.findIdx_lt_length_of_exists ⟨q, hq, hw⟩) h
    refine ⟨-1, ?_, .inl ⟨rfl, hall⟩⟩
    refine bind_of (a := .inr ()) ?_ rfl
    refine loopK_run (fun i : Nat => (i : Int)) puts.length _ 1000 ?_ ?_ (by omega)
    · intro i hi
      have hn : wrongQ b n lies.length puts[i] = false := hall _ (List.getElem_mem hi)
      simp only [ilt_t (show (i : Int) < llen puts by unfold llen; omega), condO_true, hstep i (by omega)]
      rw [guardO_pos ⟨by omega, by unfold llen; omega⟩, wrong_ok hb]
      simp only [Option.bind_some, hn, condO_false]
      rw [wk_i64 (by omega) (by omega)]; rfl
    · simp only [ilt_f (show llen puts ≤ (puts.length : Int) by unfold llen; omega), condO_false]
/-! ### a transaction -/
def slotA (b m p i : Nat) : Nat := b + 1 + (p + i) % m
def rowsL (b m p : Nat) (puts : List Put) : List Put := puts.mapIdx fun j q => (((slotA b m p (1 + j) : Nat) : Int), q.2)
def atsL (puts : List Put) : List Int := puts.map (·.1)
def blanks (b m p n : Nat) : List Put := [(((slotA b m p (n + 1) : Nat) : Int), noneS), (((slotA b m p (n + 2) : Nat) : Int), noneS)]
def commitD (b m p : Nat) (s : Int) (D : List ByteArray) (puts : List Put) : List ByteArray :=
  settle (settle (settle D (blanks b m p puts.length)) ((((slotA b m p 0 : Nat) : Int), lineB (firstT s (atsL puts))) :: rowsL b m p puts)) [(((slotA b m p (puts.length + 1) : Nat) : Int), lineB (lastT s puts.length))]
theorem commitD_len (b m p : Nat) (s : Int) (D : List ByteArray) (puts : List Put) : (commitD b m p s D puts).length = D.length := by
  unfold commitD; rw [settle_len, settle_len, settle_len]
theorem slotA_lt {b m p i : Nat} (hm : 0 < m) : slotA b m p i < b + (m + 1) := by
  unfold slotA
  have := Nat.mod_lt (p + i) hm
  omega
theorem slot_ok {b n p i : Nat} {j : Int} (hj : j = (i : Int)) (h4 : 4 ≤ n) (h6 : n ≤ 64) (hb : b ≤ 65536) (hp : p ≤ 100) (hi : i ≤ 200) :
    WK .i64 (WK .i64 ((b : Int) + 1) + Int.tmod (WK .i64 ((p : Int) + j)) (WK .i64 ((n : Int) - 1))) = ((slotA b (n - 1) p i : Nat) : Int) := by
  subst hj
  have hm := Nat.mod_lt (p + i) (show 0 < n - 1 by omega)
  rw [wk_i64 (x := (b : Int) + 1) (by omega) (by omega), wk_i64 (x := (p : Int) + i) (by omega) (by omega), wk_i64 (x := (n : Int) - 1) (by omega) (by omega)]
  have e : Int.tmod ((p : Int) + i) ((n : Int) - 1) = (((p + i) % (n - 1) : Nat) : Int) := by
    rw [Int.tmod_eq_emod_of_nonneg (by omega), show (p : Int) + i = ((p + i : Nat) : Int) by omega, show (n : Int) - 1 = ((n - 1 : Nat) : Int) by omega]
    exact (Int.natCast_emod _ _).symm
  rw [e, wk_i64 (by omega) (by omega)]
  unfold slotA; omega
theorem slotPut {b n p i L : Nat} {s : ByteArray} (h4 : 4 ≤ n) (hb : b + n ≤ L) (hs : s.size = 256) : PutOk L (((slotA b (n - 1) p i : Nat) : Int), s) :=
  ⟨by simp only; omega, by have := slotA_lt (b := b) (p := p) (i := i) (show 0 < n - 1 by omega); simp only; omega, hs⟩
theorem rowsL_ok {b n p L : Nat} {puts : List Put} (h4 : 4 ≤ n) (hb : b + n ≤ L) (hp : ∀ q ∈ puts, PutOk L q) : ∀ q ∈ rowsL b (n - 1) p puts, PutOk L q := by
  intro q hq
  unfold rowsL at hq
  obtain ⟨j, hj, rfl⟩ := List.mem_mapIdx.1 hq
  exact slotPut h4 hb (hp _ (List.getElem_mem hj)).sz
theorem rowsL_len (b m p : Nat) (puts : List Put) : (rowsL b m p puts).length = puts.length := by simp [rowsL]
theorem rowsL_take (b m p : Nat) (puts : List Put) (i : Nat) (hi : i < puts.length) : rowsL b m p (puts.take (i + 1)) = rowsL b m p (puts.take i) ++ [(((slotA b m p (1 + i) : Nat) : Int), puts[i].2)] := by
  unfold rowsL
  rw [List.take_succ_eq_append_getElem hi, List.mapIdx_concat, List.length_take, show min i puts.length = i by omega]
theorem atsL_take (puts : List Put) (i : Nat) (hi : i < puts.length) : atsL (puts.take (i + 1)) = atsL (puts.take i) ++ [puts[i].1] := by
  unfold atsL
  rw [List.take_succ_eq_append_getElem hi, List.map_append]; rfl
theorem commit_bad {b n : Nat} {p s u left steps : Int} {puts : List Put} {lies : List ByteArray} {cache : List Put} {on armed : Bool} (hb : b + n ≤ 100000) (hp : puts.length < 900) (hbad : puts = [] ∨ ∃ q ∈ puts, wrongQ b n lies.length q = true) :
    redo_Log_Commit 1000 ((b : Int), (n : Int), p, s, u, false, puts, vgl_check_table, on, armed, left, steps, lies, cache) = some (1, (b : Int), (n : Int), p, s, u, false, on, armed, left, steps, lies, cache) := by
  unfold redo_Log_Commit
  refine bind_of (a := 0) rfl ?_
  simp only [show ine 0 0 = false from rfl, condO_false]
  refine bind_of (a := .inl 1) ?_ rfl
  by_cases h0 : puts = []
  · subst h0; rfl
  · obtain ⟨r, hr, hc⟩ := index_ok (p := p) (s := s) (u := u) (left := left) (steps := steps) (br := false) (on := on) (armed := armed) (puts := puts) (lies := lies) (cache := cache) hb hp
    have hl : puts.length ≠ 0 := fun h => h0 (List.length_eq_zero_iff.1 h)
    rw [ieq_f (by unfold llen; omega), condO_false, hr]
    rcases hc with ⟨_, hall⟩ | ⟨h, _⟩
    · rcases hbad with h | ⟨q, hq, hw⟩
      · exact absurd h h0
      · rw [hall q hq] at hw; cases hw
    · simp only [Option.bind_some]
      rw [ige_t h, condO_true]
theorem room_ok {n : Nat} (h4 : 4 ≤ n) (h6 : n ≤ 64) : mnI 60 (WK .i64 (WK .i64 (WK .i64 ((n : Int) - 1) - 2) - 1)) = (n : Int) - 4 := by
  rw [wk_i64 (x := (n : Int) - 1) (by omega) (by omega), wk_i64 (x := (n : Int) - 1 - 2) (by omega) (by omega), wk_i64 (by omega) (by omega)]
  unfold mnI
  split <;> omega
theorem commit_size {b n : Nat} {p s u left steps : Int} {puts : List Put} {lies : List ByteArray} {cache : List Put} {on armed : Bool} (hb : b + n ≤ 100000) (h4 : 4 ≤ n) (h6 : n ≤ 64) (hp : puts.length < 900) (hall : ∀ q ∈ puts, wrongQ b n lies.length q = false) (hs : n - 4 < puts.length) :
    redo_Log_Commit 1000 ((b : Int), (n : Int), p, s, u, false, puts, vgl_check_table, on, armed, left, steps, lies, cache) = some (11, (b : Int), (n : Int), p, s, u, false, on, armed, left, steps, lies, cache) := by
  obtain ⟨r, hr, hc⟩ := index_ok (p := p) (s := s) (u := u) (left := left) (steps := steps) (br := false) (on := on) (armed := armed) (puts := puts) (lies := lies) (cache := cache) hb hp
  unfold redo_Log_Commit
  refine bind_of (a := 0) rfl ?_
  simp only [show ine 0 0 = false from rfl, condO_false]
  refine bind_of (a := .inl 11) ?_ rfl
  rw [ieq_f (by unfold llen; omega), condO_false, hr]
  rcases hc with ⟨rfl, _⟩ | ⟨h, q, hq, hw⟩
  · simp only [Option.bind_some, show ige (-1) 0 = false from rfl, condO_false]
    refine bind_of (a := 0) rfl ?_
    simp only [show ine 0 0 = false from rfl, condO_false, room_ok h4 h6]
    rw [igt_t (by unfold llen; omega), condO_true]
  · rw [hall q hq] at hw; cases hw
end Go.Proofs.YtlidgpepppjeiaaDoor
/- A journal's transaction that is done, with power on. No condition. -/
set_option linter.unusedVariables false
set_option linter.unusedSimpArgs false
namespace Go.Proofs.YtlidgpepppjeiaaDoor
open Go
def afterU (n u k : Nat) : Nat := (if n - 1 < u + (k + 2) + 1 then 0 else u) + (k + 2)
def beforeD (b n p : Nat) (s : Int) (u k : Nat) (D : List ByteArray) : List ByteArray := if n - 1 < u + (k + 2) + 1 then D.set b (hdB p s) else D
theorem beforeD_len (b n p : Nat) (s : Int) (u k : Nat) (D : List ByteArray) : (beforeD b n p s u k D).length = D.length := by unfold beforeD; split <;> simp
theorem commit_on {b n p u : Nat} {s left steps : Int} {puts : List Put} {lies : List ByteArray} {cache : List Put} (h4 : 4 ≤ n) (h6 : n ≤ 64) (hb : b + n ≤ lies.length) (hL : lies.length ≤ 65536) (hp : p ≤ 100) (hu : u ≤ 100) (hs0 : 0 ≤ s) (hs1 : s ≤ 1000000)
    (hP : ∀ q ∈ puts, PutOk lies.length q) (hall : ∀ q ∈ puts, wrongQ b n lies.length q = false) (hk0 : 1 ≤ puts.length) (hk : puts.length ≤ n - 4) (hc : cache.length < 800) (hr : ∀ q ∈ cache, 0 ≤ q.1 ∧ q.1 < lies.length) :
    ∃ st, redo_Log_Commit 1000 ((b : Int), (n : Int), (p : Int), s, (u : Int), false, puts, vgl_check_table, true, false, left, steps, lies, cache) =
      some (0, (b : Int), (n : Int), (((p + (puts.length + 2)) % (n - 1) : Nat) : Int), s + 1, ((afterU n u puts.length : Nat) : Int), false, true, false, left, st, commitD b (n - 1) p s (beforeD b n p s u puts.length (settle lies cache)) puts, puts) := by
  obtain ⟨r, hri, hci⟩ := index_ok (b := b) (n := n) (p := p) (s := s) (u := u) (left := left) (steps := steps) (br := false) (on := true) (armed := false) (puts := puts) (lies := lies) (cache := cache) (by omega) (by omega)
  have hri' : r = -1 := by
    rcases hci with ⟨h, _⟩ | ⟨_, q, hq, hw⟩
    · exact h
    · rw [hall q hq] at hw; cases hw
  subst hri'
  have w2 : WK .i64 (llen puts + 2) = ((puts.length + 2 : Nat) : Int) := by rw [llen, wk_i64 (by omega) (by omega)]; omega
  have w1 : WK .i64 (((puts.length + 2 : Nat) : Int) - 1) = ((puts.length + 1 : Nat) : Int) := by rw [wk_i64 (by omega) (by omega)]; omega
  have wn : WK .i64 ((n : Int) - 1) = ((n - 1 : Nat) : Int) := by rw [wk_i64 (by omega) (by omega)]; omega
  have hnz : nz (WK .i64 ((n : Int) - 1)) := by rw [wn]; unfold nz; omega
  -- room is made
  have hck : ∃ (lies' : List ByteArray) (cache' : List Put) (st' : Int), settle lies' cache' = beforeD b n p s u puts.length (settle lies cache) ∧ lies'.length = lies.length ∧ (∀ q ∈ cache', 0 ≤ q.1 ∧ q.1 < lies'.length) ∧ cache'.length < 800 ∧
      (condO (igt (WK .i64 ((WK .i64 ((u : Int) + ((puts.length + 2 : Nat) : Int))) + 1)) (WK .i64 ((n : Int) - 1))) ((redo_Log_Checkpoint 1000 ((b : Int), (n : Int), (p : Int), s, (u : Int), false, vgl_check_table, true, false, left, steps, lies, cache)).bind fun r2 => condO (ine r2.1 0) (some (.inl (r2.1, r2.2.1, r2.2.2.1, r2.2.2.2.1, r2.2.2.2.2.1, r2.2.2.2.2.2.1, r2.2.2.2.2.2.2.1, r2.2.2.2.2.2.2.2.1, r2.2.2.2.2.2.2.2.2.1, r2.2.2.2.2.2.2.2.2.2.1, r2.2.2.2.2.2.2.2.2.2.2.1, r2.2.2.2.2.2.2.2.2.2.2.2.1, r2.2.2.2.2.2.2.2.2.2.2.2.2))) (some (.inr ((r2.2.1, r2.2.2.1, r2.2.2.2.1, r2.2.2.2.2.1, r2.2.2.2.2.2.1, r2.2.2.2.2.2.2.1, r2.2.2.2.2.2.2.2.1, r2.2.2.2.2.2.2.2.2.1, r2.2.2.2.2.2.2.2.2.2.1, r2.2.2.2.2.2.2.2.2.2.2.1, r2.2.2.2.2.2.2.2.2.2.2.2.1, r2.2.2.2.2.2.2.2.2.2.2.2.2))))) (some (.inr ((b : Int), (n : Int), (p : Int), s, (u : Int), false, true, false, left, steps, lies, cache))) : Option ((Int × Int × Int × Int × Int × Int × Bool × Bool × Bool × Int × Int × (List ByteArray) × (List (Int × ByteArray))) ⊕ (Int × Int × Int × Int × Int × Bool × Bool × Bool × Int × Int × (List ByteArray) × (List (Int × ByteArray))))) =
        some (.inr ((b : Int), (n : Int), (p : Int), s, (((if n - 1 < u + (puts.length + 2) + 1 then 0 else u) : Nat) : Int), false, true, false, left, st', lies', cache')) := by
    rw [wk_i64 (x := (u : Int) + ((puts.length + 2 : Nat) : Int)) (by omega) (by omega), wk_i64 (x := (u : Int) + ((puts.length + 2 : Nat) : Int) + 1) (by omega) (by omega), wn]
    by_cases h : n - 1 < u + (puts.length + 2) + 1
    · obtain ⟨st, e⟩ := check_on (b := b) (n := n) (p := p) (s := s) (u := (u : Int)) (left := left) (steps := steps) (lies := lies) (cache := cache) (by omega) (by omega) (by omega) hr
      refine ⟨(settle lies cache).set b (hdB p s), [], st, ?_, ?_, (fun q hq => by cases hq), by simp, ?_⟩
      · unfold beforeD; rw [if_pos h]; rfl
      · rw [List.length_set, settle_len]
      · rw [igt_t (by omega), condO_true, e, if_pos h]; rfl
    · refine ⟨lies, cache, steps, ?_, rfl, hr, hc, ?_⟩
      · unfold beforeD; rw [if_neg h]
      · rw [igt_f (by omega), condO_false, if_neg h]
  obtain ⟨lies', cache', st', hD, hlen, hcr, hclen, hck⟩ := hck
  have hfz : (lineB (firstT s (atsL puts))).size = 256 := line_size (Nat.le_trans (firstT_len s _) (by decide))
  have hlz : (lineB (lastT s puts.length)).size = 256 := line_size (Nat.le_trans (lastT_len s _) (by decide))
  obtain ⟨t1, h1⟩ := writes_on (left := left) (steps := st') (lies := lies') (cache := cache') (puts := blanks b (n - 1) p puts.length) true (fun q hq => by
    simp only [blanks, List.mem_cons, List.not_mem_nil, or_false] at hq
    rcases hq with rfl | rfl <;> exact slotPut h4 (by omega) none_size) (by omega) (by simp only [blanks, List.length_cons, List.length_nil]; omega) hcr
  rw [settle_app, hD] at h1
  have hl2 : (settle (beforeD b n p s u puts.length (settle lies cache)) (blanks b (n - 1) p puts.length)).length = lies.length := by rw [settle_len, beforeD_len, settle_len]
  obtain ⟨t2, h2⟩ := writes_on (left := left) (steps := t1) (lies := settle (beforeD b n p s u puts.length (settle lies cache)) (blanks b (n - 1) p puts.length)) (cache := []) (puts := (((slotA b (n - 1) p 0 : Nat) : Int), lineB (firstT s (atsL puts))) :: rowsL b (n - 1) p puts) true (fun q hq => by
    rw [hl2]
    rcases List.mem_cons.1 hq with rfl | hq
    · exact slotPut h4 (by omega) hfz
    · exact rowsL_ok h4 (by omega) hP q hq) (by omega) (by simp only [List.length_cons, List.length_nil, rowsL_len]; omega) (fun q hq => by cases hq)
  have hl3 : (settle (settle (beforeD b n p s u puts.length (settle lies cache)) (blanks b (n - 1) p puts.length)) ((((slotA b (n - 1) p 0 : Nat) : Int), lineB (firstT s (atsL puts))) :: rowsL b (n - 1) p puts)).length = lies.length := by rw [settle_len, hl2]
  obtain ⟨t3, h3⟩ := writes_on (left := left) (steps := t2) (lies := settle (settle (beforeD b n p s u puts.length (settle lies cache)) (blanks b (n - 1) p puts.length)) ((((slotA b (n - 1) p 0 : Nat) : Int), lineB (firstT s (atsL puts))) :: rowsL b (n - 1) p puts)) (cache := []) (puts := [(((slotA b (n - 1) p (puts.length + 1) : Nat) : Int), lineB (lastT s puts.length))]) true (fun q hq => by
    rw [hl3]
    obtain rfl := List.mem_singleton.1 hq
    exact slotPut h4 (by omega) hlz) (by omega) (by simp) (fun q hq => by cases hq)
  have hl4 : (commitD b (n - 1) p s (beforeD b n p s u puts.length (settle lies cache)) puts).length = lies.length := by rw [commitD_len, beforeD_len, settle_len]
  obtain ⟨t4, h5⟩ := writes_on (left := left) (steps := t3) (lies := commitD b (n - 1) p s (beforeD b n p s u puts.length (settle lies cache)) puts) (cache := []) (puts := puts) false (fun q hq => by rw [hl4]; exact hP q hq) (by omega) (by simp only [List.length_nil]; omega) (fun q hq => by cases hq)
  simp only [if_true, List.nil_append] at h1 h2 h3 h5
  refine ⟨t4, ?_⟩
  unfold redo_Log_Commit
  refine bind_of (a := 0) rfl ?_
  simp only [show ine 0 0 = false from rfl, condO_false]
  refine bind_of (a := .inr ()) ?_ ?_
  · rw [ieq_f (by unfold llen; omega), condO_false, hri]
    simp only [Option.bind_some, show ige (-1) 0 = false from rfl, condO_false]
    refine bind_of (a := 0) rfl ?_
    simp only [show ine 0 0 = false from rfl, condO_false, room_ok h4 h6]
    rw [igt_f (by unfold llen; omega), condO_false]
  simp only [caseS_inr, w2]
  refine bind_of hck ?_
  simp only [caseS_inr]
  refine bind_of (a := (atsL puts, rowsL b (n - 1) p puts)) ?_ ?_
  · have s0 : ((0 : Int), ([] : List Int), ([] : List Put)) = (fun i : Nat => ((i : Int), atsL (puts.take i), rowsL b (n - 1) p (puts.take i))) 0 := rfl
    rw [s0]
    refine loopK_run (fun i : Nat => ((i : Int), atsL (puts.take i), rowsL b (n - 1) p (puts.take i))) puts.length _ 1000 ?_ ?_ (by omega)
    · intro i hi
      have ea : at_ T0 puts (i : Int) = puts[i] := at_nat hi
      have l1 : (atsL (puts.take i)).length ≤ 64 := by simp only [atsL, List.length_map, List.length_take]; omega
      have l2 : (rowsL b (n - 1) p (puts.take i)).length ≤ 64 := by rw [rowsL_len, List.length_take]; omega
      simp only [ilt_t (show (i : Int) < llen puts by unfold llen; omega), condO_true, ea]
      rw [guardO_pos ⟨by omega, by unfold llen; omega⟩, guardO_pos (by unfold appOk; simp only [List.length_cons, List.length_nil]; omega), guardO_pos hnz, slot_ok (i := 1 + i) (by rw [wk_i64 (by omega) (by omega)]; omega) h4 h6 (by omega) hp (by omega), guardO_pos (by unfold appOk; simp only [List.length_cons, List.length_nil]; omega), wk_i64 (x := (i : Int) + 1) (by omega) (by omega), atsL_take puts i hi, rowsL_take b (n - 1) p puts i hi]
      rfl
    · simp only [ilt_f (show llen puts ≤ (puts.length : Int) by unfold llen; omega), condO_false, List.take_length]
  simp only
  have hal : (atsL puts).length ≤ 100000 := by simp only [atsL, List.length_map]; omega
  have kk1 := kput_le s 1099511627776 (by decide)
  have kk2 := kput_le (puts.length : Int) 1099511627776 (by decide)
  rw [first_ok s (atsL puts) hal]
  simp only [Option.bind_some]
  rw [guardO_pos hnz, slot_ok (i := 0) (j := 0) rfl h4 h6 (by omega) hp (by omega), guardO_pos (by unfold appOk; simp only [List.length_cons, List.length_nil, rowsL_len]; omega), guardO_pos (by decide), guardO_pos hnz, guardO_pos (by decide), guardO_pos hnz, w1, slot_ok (i := puts.length + 1) rfl h4 h6 (by omega) hp (by omega), slot_ok (i := puts.length + 2) rfl h4 h6 (by omega) hp (by omega), blank_ok]
  refine bind_of h1 ?_
  simp only [show ieq 0 0 = true from rfl, condO_true]
  refine bind_of (bind_of h2 rfl) ?_
  simp only [show ieq 0 0 = true from rfl, condO_true]
  refine bind_of (a := (0, true, false, left, t3, commitD b (n - 1) p s (beforeD b n p s u puts.length (settle lies cache)) puts, [])) ?_ ?_
  · rw [cput40, cput40 (llen puts)]
    simp only [Option.bind_some, kind3]
    rw [guardO_pos (catOk_small (by decide) (by omega))]
    simp only [mkB_app]
    rw [guardO_pos (catOk_small (by simp only [List.length_append, List.length_cons, List.length_nil]; omega) (by unfold llen; omega)), line_ok (t := [83, 67, 67] ++ putL (kpn s 1099511627776) ++ putL (kpn (llen puts) 1099511627776)) (Nat.le_trans (lastT_len s puts.length) (by decide)), guardO_pos hnz]
    exact bind_of h3 rfl
  simp only [show ieq 0 0 = true from rfl, condO_true]
  refine bind_of (a := (0, (b : Int), (n : Int), (((p + (puts.length + 2)) % (n - 1) : Nat) : Int), s + 1, ((afterU n u puts.length : Nat) : Int), false, true, false, left, t4, commitD b (n - 1) p s (beforeD b n p s u puts.length (settle lies cache)) puts, puts)) ?_ rfl
  rw [guardO_pos hnz]
  refine bind_of h5 ?_
  simp only
  have e1 : Int.tmod (WK .i64 ((p : Int) + ((puts.length + 2 : Nat) : Int))) (WK .i64 ((n : Int) - 1)) = (((p + (puts.length + 2)) % (n - 1) : Nat) : Int) := by
    rw [wn, wk_i64 (by omega) (by omega), Int.tmod_eq_emod_of_nonneg (by omega), show (p : Int) + ((puts.length + 2 : Nat) : Int) = ((p + (puts.length + 2) : Nat) : Int) by omega]
    exact (Int.natCast_emod _ _).symm
  have e2 : WK .i64 ((((if n - 1 < u + (puts.length + 2) + 1 then 0 else u) : Nat) : Int) + ((puts.length + 2 : Nat) : Int)) = ((afterU n u puts.length : Nat) : Int) := by
    unfold afterU
    split <;> rw [wk_i64 (by omega) (by omega)] <;> omega
  rw [e1, e2, wk_i64 (x := s + 1) (by omega) (by omega)]
  rfl
end Go.Proofs.YtlidgpepppjeiaaDoor
/- Octets: what the program's and the document's functions answer. No condition. -/
set_option linter.unusedVariables false
set_option linter.unusedSimpArgs false
namespace Go.Proofs.YtlidgpepppjeiaaDoor
open Go
theorem take_ok (k : Nat) {l : List UInt8} {n : Int} (h0 : 0 ≤ n) (h1 : n ≤ l.length) : octet_Scan_take k (n, mkB l, false) = some (mkB (l.take n.toNat), true, mkB (l.drop n.toNat), false) := by
  unfold octet_Scan_take
  simp only [condO_false, ilt_f h0, igt_f (show n ≤ blen (mkB l) by rw [blen_mkB]; exact h1)]
  rw [guardO_pos ⟨by decide, h0, by rw [blen_mkB]; exact h1⟩, guardO_pos ⟨h0, by rw [blen_mkB]; exact h1, Int.le_refl _⟩, scut_take, scut_drop]
theorem take_bad (k : Nat) {l : List UInt8} {n : Int} (h : n < 0 ∨ (l.length : Int) < n) : octet_Scan_take k (n, mkB l, false) = some (str0, false, mkB l, true) := by
  unfold octet_Scan_take
  by_cases h0 : n < 0
  · simp only [condO_false, ilt_t h0, condO_true]
  · simp only [condO_false, ilt_f (show 0 ≤ n by omega), igt_t (show blen (mkB l) < n by rw [blen_mkB]; omega), condO_true]
theorem take_spoilt (k : Nat) (s : ByteArray) (n : Int) : octet_Scan_take k (n, s, true) = some (str0, false, s, true) := by
  unfold octet_Scan_take
  simp only [condO_true]
theorem byteI (c : UInt8) : WK .i64 (c.toNat : Int) = (c.toNat : Int) := by
  have := byte_lt c
  exact wk_i64 (by omega) (by omega)
theorem long_loop (k : Nat) (hk : 8 < k) (l : List UInt8) (hl : l.length ≤ 8) {R : Type} (f : Int → Option R) :
    (loopK (H := Int × Int) (E := Int) k (fun h4 => condO (ilt h4.2 (blen (mkB l))) (guardO ((nn 8)) (guardO ((inR h4.2 (blen (mkB l)))) (some (.inl (((orK .u64 (shlK .u64 h4.1 8) (WK .u64 (sAt (mkB l) h4.2))), (WK .i64 (h4.2 + 1)))))))) (some (.inr (h4.1)))) ((0, 0))).bind f = f (bval l : Int) := by
  refine bind_of (a := (bval l : Int)) ?_ rfl
  refine loopK_run (fun i => ((bval (l.take i) : Int), (i : Int))) l.length (bval l : Int) k ?_ ?_ (by omega)
  · intro i hi
    have hb := byte_lt (l.getD i 0)
    have hv := bval_take_lt l i (by omega)
    simp only [blen_mkB, ilt_t (show (i : Int) < (l.length : Int) by omega), condO_true, sAt_mkB, Int.toNat_natCast]
    rw [guardO_pos (by decide), guardO_pos ⟨by omega, by omega⟩, wk_u64 (by omega) (by omega), wk_i64 (by omega) (by omega), or_shl (by omega) (by omega) (by omega) (by omega), bval_take l i hi]
    congr 3
  · simp only [blen_mkB, ilt_f (Int.le_refl _), condO_false, List.take_length]
theorem long_none (k : Nat) (hk : 8 < k) {l : List UInt8} (h : longL l = none) : ∃ t, octet_Scan_Long k (mkB l, false) = some (0, t, true) := by
  unfold octet_Scan_Long
  have lp : ∀ (t : ByteArray), (loopK (H := Int × Int) (E := Int) k (fun h4 => condO (ilt h4.2 (blen str0)) (guardO ((nn 8)) (guardO ((inR h4.2 (blen str0))) (some (.inl (((orK .u64 (shlK .u64 h4.1 8) (WK .u64 (sAt str0 h4.2))), (WK .i64 (h4.2 + 1)))))))) (some (.inr (h4.1)))) ((0, 0))).bind (fun r4 => some (r4, t, true)) = some (0, t, true) := fun t => long_loop k hk [] (by decide) _
  cases l with
  | nil =>
    rw [take_bad k (.inr (by decide))]
    exact ⟨_, rfl⟩
  | cons c r =>
    rw [take_ok k (by decide) (by simp; omega)]
    simp only [Option.bind_some, Bool.not_true, condO_false]
    have hc := byte_lt c
    rw [guardO_pos ⟨by decide, by rw [blen_mkB]; show (0 : Int) < ((1 : Nat) : Int); decide⟩]
    have e0 : sAt (mkB (List.take (1 : Int).toNat (c :: r))) 0 = (c.toNat : Int) := rfl
    have e1 : List.drop (1 : Int).toNat (c :: r) = r := rfl
    simp only [e0, e1, byteI]
    by_cases h8 : 8 < c.toNat
    · rw [igt_t (by omega), condO_true]
      simp only [Option.bind_some]
      rw [take_bad k (.inl (by decide))]
      simp only [Option.bind_some, condO_false, caseS_inr]
      exact ⟨_, lp _⟩
    · rw [igt_f (by omega), condO_false]
      simp only [Option.bind_some]
      by_cases hr : r.length < c.toNat
      · rw [take_bad k (.inr (by omega))]
        simp only [Option.bind_some, condO_false, caseS_inr]
        exact ⟨_, lp _⟩
      · have hz : 0 < c.toNat ∧ r.getD 0 0 = 0 := by
          simp only [longL] at h
          split at h
          · rename_i hh
            rcases hh with hh | hh | hh
            · omega
            · omega
            · exact hh
          · cases h
        rw [take_ok k (by omega) (by omega)]
        simp only [Option.bind_some, condO_true]
        rw [igt_t (by omega), condO_true, guardO_pos ⟨by decide, by rw [blen_mkB, List.length_take]; omega⟩]
        have e2 : sAt (mkB (List.take (c.toNat : Int).toNat r)) 0 = 0 := by
          rw [sAt_mkB, Int.toNat_natCast]
          show (((r.take c.toNat).getD 0 0).toNat : Int) = 0
          rw [List.getD_eq_getElem?_getD, List.getElem?_take_of_lt hz.1, ← List.getD_eq_getElem?_getD, hz.2]
          rfl
        rw [e2, ieq_t rfl, condO_true, take_bad k (.inl (by decide))]
        simp only [Option.bind_some, caseS_inl]
        exact ⟨_, rfl⟩
theorem long_some (k : Nat) (hk : 8 < k) {l r : List UInt8} {n : Nat} (h : longL l = some (n, r)) : octet_Scan_Long k (mkB l, false) = some ((n : Int), mkB r, false) := by
  unfold octet_Scan_Long
  cases l with
  | nil => simp [longL] at h
  | cons c r0 =>
    simp only [longL] at h
    split at h
    · cases h
    · rename_i hn
      simp only [Option.some.injEq, Prod.mk.injEq] at h
      obtain ⟨rfl, rfl⟩ := h
      have hn : ¬ 8 < c.toNat ∧ ¬ r0.length < c.toNat ∧ (0 < c.toNat → r0.getD 0 0 ≠ 0) := ⟨fun g => hn (.inl g), fun g => hn (.inr (.inl g)), fun g1 g2 => hn (.inr (.inr ⟨g1, g2⟩))⟩
      have hc := byte_lt c
      rw [take_ok k (by decide) (by simp; omega)]
      simp only [Option.bind_some, Bool.not_true, condO_false]
      rw [guardO_pos ⟨by decide, by rw [blen_mkB]; show (0 : Int) < ((1 : Nat) : Int); decide⟩]
      have e0 : sAt (mkB (List.take (1 : Int).toNat (c :: r0))) 0 = (c.toNat : Int) := rfl
      have e1 : List.drop (1 : Int).toNat (c :: r0) = r0 := rfl
      simp only [e0, e1, byteI]
      rw [igt_f (by omega), condO_false]
      simp only [Option.bind_some]
      rw [take_ok k (by omega) (by omega)]
      simp only [Option.bind_some, condO_true, Int.toNat_natCast]
      have hl := long_loop k hk (r0.take c.toNat) (by rw [List.length_take]; omega) (fun r4 => some (r4, mkB (r0.drop c.toNat), false))
      by_cases h0 : 0 < c.toNat
      · rw [igt_t (by omega), condO_true, guardO_pos ⟨by decide, by rw [blen_mkB, List.length_take]; omega⟩]
        have e2 : ieq (sAt (mkB (List.take c.toNat r0)) 0) 0 = false := by
          refine ieq_f ?_
          rw [sAt_mkB]
          show (((r0.take c.toNat).getD 0 0).toNat : Int) ≠ 0
          rw [List.getD_eq_getElem?_getD, List.getElem?_take_of_lt h0, ← List.getD_eq_getElem?_getD]
          intro g
          exact hn.2.2 h0 (by
            apply UInt8.toNat_inj.1
            have : (0 : UInt8).toNat = 0 := rfl
            omega)
        rw [e2, condO_false]
        simp only [Option.bind_some, caseS_inr]
        exact hl
      · rw [igt_f (by omega), condO_false]
        simp only [Option.bind_some, caseS_inr]
        exact hl
theorem long_spoilt (k : Nat) (s : ByteArray) : octet_Scan_Long k (s, true) = some (0, s, true) := by
  unfold octet_Scan_Long
  rw [take_spoilt]
  rfl
/-! ### numbers up to a bound, and texts -/
def numL (most : Int) (l : List UInt8) : Option (Nat × List UInt8) := (longL l).bind fun x => if most < 0 ∨ most < x.1 then none else some x
theorem num_none (k : Nat) (hk : 8 < k) {l : List UInt8} {most : Int} (hm : most ≤ 9223372036854775807) (h : numL most l = none) : ∃ t, octet_Scan_Num k (most, mkB l, false) = some (0, t, true) := by
  unfold octet_Scan_Num
  cases hL : longL l with
  | none =>
    obtain ⟨t, ht⟩ := long_none k hk hL
    simp only [ht, Option.bind_some, take_spoilt]
    by_cases h0 : most < 0
    · rw [ilt_t h0]; exact ⟨_, rfl⟩
    · rw [ilt_f (by omega), condO_false, igt_f (by rw [wk_u64 (by omega) (by omega)]; omega), condO_false]
      exact ⟨t, rfl⟩
  | some x =>
    obtain ⟨n, r⟩ := x
    simp only [long_some k hk hL, Option.bind_some]
    simp only [numL, hL, Option.bind_some] at h
    have hb : most < 0 ∨ most < (n : Int) := by
      by_cases g : most < 0 ∨ most < (n : Int)
      · exact g
      · rw [if_neg g] at h; cases h
    rw [take_bad k (.inl (by decide))]
    by_cases h0 : most < 0
    · rw [ilt_t h0]; exact ⟨_, rfl⟩
    · rw [ilt_f (by omega), condO_false, igt_t (by rw [wk_u64 (by omega) (by omega)]; omega)]; exact ⟨_, rfl⟩
theorem num_some (k : Nat) (hk : 8 < k) {l r : List UInt8} {n : Nat} {most : Int} (hm : most ≤ 9223372036854775807) (h : numL most l = some (n, r)) : octet_Scan_Num k (most, mkB l, false) = some ((n : Int), mkB r, false) ∧ longL l = some (n, r) ∧ (n : Int) ≤ most := by
  unfold octet_Scan_Num
  cases hL : longL l with
  | none => simp [numL, hL] at h
  | some x =>
    obtain ⟨n', r'⟩ := x
    simp only [numL, hL, Option.bind_some] at h
    split at h
    · cases h
    · rename_i g
      simp only [Option.some.injEq, Prod.mk.injEq] at h
      obtain ⟨rfl, rfl⟩ := h
      have g : ¬ most < 0 ∧ ¬ most < (n' : Int) := ⟨fun a => g (.inl a), fun a => g (.inr a)⟩
      simp only [long_some k hk hL, Option.bind_some]
      refine ⟨?_, trivial, by omega⟩
      rw [ilt_f (by omega), condO_false, igt_f (by rw [wk_u64 (by omega) (by omega)]; omega), condO_false, wk_i64 (by omega) (by omega)]
def textL (most : Int) (l : List UInt8) : Option (List UInt8 × List UInt8) := (numL most l).bind fun x => if x.2.length < x.1 then none else some (x.2.take x.1, x.2.drop x.1)
theorem text_none (k : Nat) (hk : 8 < k) {l : List UInt8} {most : Int} (hm : most ≤ 9223372036854775807) (h : textL most l = none) : ∃ t, octet_Scan_Text k (most, mkB l, false) = some (str0, t, true) := by
  unfold octet_Scan_Text
  cases hL : numL most l with
  | none =>
    obtain ⟨t, ht⟩ := num_none k hk hm hL
    simp only [ht, Option.bind_some]
    exact ⟨t, rfl⟩
  | some x =>
    obtain ⟨n, r⟩ := x
    simp only [(num_some k hk hm hL).1, Option.bind_some]
    simp only [textL, hL, Option.bind_some] at h
    have hb : r.length < n := by
      by_cases g : r.length < n
      · exact g
      · rw [if_neg g] at h; cases h
    rw [take_bad k (.inr (by omega))]
    exact ⟨_, rfl⟩
theorem text_some (k : Nat) (hk : 8 < k) {l t r : List UInt8} {most : Int} (hm : most ≤ 9223372036854775807) (h : textL most l = some (t, r)) : octet_Scan_Text k (most, mkB l, false) = some (mkB t, mkB r, false) ∧ (t.length : Int) ≤ most := by
  unfold octet_Scan_Text
  cases hL : numL most l with
  | none => simp [textL, hL] at h
  | some x =>
    obtain ⟨n, r'⟩ := x
    simp only [textL, hL, Option.bind_some] at h
    split at h
    · cases h
    · rename_i g
      simp only [Option.some.injEq, Prod.mk.injEq] at h
      obtain ⟨rfl, rfl⟩ := h
      have := num_some k hk hm hL
      simp only [this.1, Option.bind_some]
      rw [take_ok k (by omega) (by omega)]
      refine ⟨by simp, ?_⟩
      rw [List.length_take]
      have := this.2.2
      omega
end Go.Proofs.YtlidgpepppjeiaaDoor
/- Octets: the document's reader, and what puts numbers. No condition. -/
set_option linter.unusedVariables false
set_option linter.unusedSimpArgs false
namespace Go.Proofs.YtlidgpepppjeiaaDoor
open Go
theorem sAt_app (p l : List UInt8) (i : Int) (j : Nat) (h : i = (p.length : Int) + (j : Int)) : sAt (mkB (p ++ l)) i = ((l.getD j 0).toNat : Int) := by
  rw [sAt_mkB, show i.toNat = p.length + j by omega, List.getD_eq_getElem?_getD, List.getElem?_append_right (by omega), Nat.add_sub_cancel_left, ← List.getD_eq_getElem?_getD]
end Go.Proofs.YtlidgpepppjeiaaDoor
/- Octets: what puts numbers. No condition. -/
set_option linter.unusedVariables false
set_option linter.unusedSimpArgs false
namespace Go.Proofs.YtlidgpepppjeiaaDoor
open Go

end Go.Proofs.YtlidgpepppjeiaaDoor
/- Sectors made of texts, and opened. No condition. -/
set_option linter.unusedVariables false
set_option linter.unusedSimpArgs false
namespace Go.Proofs.YtlidgpepppjeiaaDoor
open Go
/-- What opening comes to. -/
def secO (m : List UInt8) : ByteArray × Bool := match textL 256 m with
  | none => (str0, false)
  | some (t, _) => if (secB t).2 ≠ 0 then (str0, false) else if (secB t).1 ≠ mkB m then (str0, false) else (mkB t, true)
theorem open_tail (f : ByteArray × Int) (m : List UInt8) (t : ByteArray) : (condO (ine f.2 0) (some (str0, false)) (condO (!(sEq f.1 (mkB m))) (some (str0, false)) (some (t, true)))) = some (if f.2 ≠ 0 then (str0, false) else if f.1 ≠ mkB m then (str0, false) else (t, true)) := by
  by_cases h : f.2 = 0
  · rw [ine_f h, condO_false, if_neg (by simpa using h)]
    by_cases g : f.1 = mkB m
    · rw [g, sEq_self, if_neg (by simp)]; rfl
    · have : sEq f.1 (mkB m) = false := by
        rw [← Bool.not_eq_true]; intro e; exact g (sEq_iff.1 e)
      rw [this, if_pos g]; rfl
  · rw [ine_t h, condO_true, if_pos h]
theorem sopen_ok (m : List UInt8) : sector_Open 1000 (mkB m) = some (secO m) := by
  unfold sector_Open secO
  cases h : textL 256 m with
  | none =>
    obtain ⟨t, ht⟩ := text_none 1000 (by decide) (by decide) h
    simp only [ht, Option.bind_some]
    have := sfill_ok (l := []) (by decide)
    rw [show str0 = mkB [] from rfl, this]
    rfl
  | some x =>
    obtain ⟨t, r⟩ := x
    have ht := text_some 1000 (by decide) (by decide) h
    simp only [ht.1, Option.bind_some]
    rw [sfill_ok (by omega)]
    simp only [Option.bind_some, Bool.not_false, Bool.not_true, condO_false]
    exact open_tail _ _ _
theorem text_put {l r : List UInt8} {most : Int} (h : (l.length : Int) ≤ most) (hl : l.length < 18446744073709551616) : textL most (putL l.length ++ l ++ r) = some (l, r) := by
  unfold textL numL
  rw [List.append_assoc, long_put hl]
  simp only [Option.bind_some]
  rw [if_neg (by omega)]
  simp only [Option.bind_some]
  rw [if_neg (by simp), List.take_left' rfl, List.drop_left' rfl]
theorem secB_small {l : List UInt8} (hl : l.length ≤ 253) : secB l = (mkB (secL l), 0) := by
  have hw : wdt l.length ≤ 1 := by
    by_cases h : l.length = 0
    · rw [h, wdt_zero]; decide
    · rw [wdt_step h (by omega), show l.length / 256 = 0 by omega, wdt_zero]; decide
  unfold secB
  rw [if_neg]
  rw [List.length_append, putL_len]; omega
theorem secB_len {l : List UInt8} {s : ByteArray} (h : secB l = (s, 0)) : s = mkB (secL l) ∧ (secL l).length = 256 ∧ l.length ≤ 256 := by
  unfold secB at h
  split at h
  · cases h
  · rename_i g
    simp only [Prod.mk.injEq] at h
    refine ⟨h.1.symm, ?_, ?_⟩
    · unfold secL
      rw [List.length_append, List.length_replicate]; omega
    · rw [List.length_append] at g; omega
theorem open_fill {l : List UInt8} (h : l.length ≤ 256) (h2 : (secB l).2 = 0) : secO (secL l) = (mkB l, true) := by
  unfold secO
  have e : textL 256 (secL l) = some (l, _) := text_put (by omega) (by omega)
  rw [e]
  simp only
  have := secB_len (l := l) (s := (secB l).1) (by rw [← h2])
  rw [if_neg (by simpa using h2), if_neg (by simpa using this.1)]
theorem short_cases (s : ByteArray) (n : Nat) : (igt (blen s) n = true ∧ cutOk 0 n (blen s) ∧ ∃ l, scut s 0 n = mkB l ∧ l.length ≤ n) ∨ (igt (blen s) n = false ∧ ∃ l, s = mkB l ∧ l.length ≤ n) := by
  rw [mkB_of s]
  by_cases h : n < s.data.toList.length
  · refine .inl ⟨igt_t (by rw [blen_mkB]; omega), ⟨by decide, by omega, by rw [blen_mkB]; omega⟩, _, scut_take _ _, ?_⟩
    rw [List.length_take]; omega
  · exact .inr ⟨igt_f (by rw [blen_mkB]; omega), _, rfl, by omega⟩
end Go.Proofs.YtlidgpepppjeiaaDoor
/- A sealed text opens: the sum of a text with its sum behind is always the same. No condition. -/
set_option linter.unusedVariables false
set_option linter.unusedSimpArgs false
namespace Go.Proofs.YtlidgpepppjeiaaDoor
open Go
theorem q1_xor (a b : Nat) : q1 (a ^^^ b) = q1 a ^^^ q1 b := by
  rw [← p1_4, ← p1_4, ← p1_4, p1_xor, p1_xor, p1_xor, p1_xor]
theorem byteP_xor (a b : Nat) : byteP (a ^^^ b) = byteP a ^^^ byteP b := by unfold byteP; rw [q1_xor, q1_xor]
theorem q1_16 (q : Nat) : q1 (16 * q) = q := by rw [← p1_4, p1_16]
theorem byteP_256 (q : Nat) : byteP (256 * q) = q := by
  unfold byteP
  rw [show 256 * q = 16 * (16 * q) by omega, q1_16, q1_16]
theorem split256 (n : Nat) : n = (256 * (n / 256)) ^^^ (n % 256) := by
  apply Nat.eq_of_testBit_eq
  intro i
  have h1 := Nat.testBit_two_pow_mul_add (n / 256) (b := n % 256) (i := 8) (by omega) i
  have h2 := @Nat.testBit_two_pow_mul 8 (n / 256) i
  rw [show 2 ^ 8 * (n / 256) + n % 256 = n by omega] at h1
  rw [h1, Nat.testBit_xor, show 256 * (n / 256) = 2 ^ 8 * (n / 256) from rfl, h2]
  by_cases hi : i < 8
  · rw [if_pos hi]; simp [show ¬ 8 ≤ i by omega]
  · rw [if_neg hi]
    have : (n % 256).testBit i = false := Nat.testBit_lt_two_pow (Nat.lt_of_lt_of_le (show n % 256 < 2 ^ 8 by omega) (Nat.pow_le_pow_right (by decide) (by omega)))
    simp [this, show 8 ≤ i by omega]
/-- One byte of the sum's own. -/
theorem own_step (d K : Nat) : byteP ((d ^^^ K) ^^^ (255 ^^^ d % 256)) = (d / 256) ^^^ byteP (255 ^^^ K) := by
  have e : (d ^^^ K) ^^^ (255 ^^^ d % 256) = (256 * (d / 256)) ^^^ (255 ^^^ K) := by
    conv => lhs; rw [split256 d]
    have h2 : (256 * (d / 256) ^^^ d % 256) % 256 = d % 256 := by rw [← split256 d]
    rw [h2]
    generalize 256 * (d / 256) = a
    generalize d % 256 = b
    apply Nat.eq_of_testBit_eq
    intro i
    simp only [Nat.testBit_xor]
    cases a.testBit i <;> cases b.testBit i <;> cases K.testBit i <;> cases (255 : Nat).testBit i <;> rfl
  rw [e, byteP_xor, byteP_256]
theorem own_byte (c m : Nat) (hm : 4294967295 / m % 256 = 255) (i : Nat) (he : m = 2 ^ i) : (4294967295 ^^^ c) / m % 256 = 255 ^^^ (c / m) % 256 := by
  subst he
  rw [Nat.xor_div_two_pow]
  have := @Nat.xor_mod_two_pow (4294967295 / 2 ^ i) (c / 2 ^ i) 8
  rw [show 256 = 2 ^ 8 from rfl] at hm ⊢
  rw [this, hm]
theorem u8_nat (x : Nat) : (UInt8.ofNat (x % 256)).toNat = x % 256 := by simp
theorem own_sum (l : List UInt8) : sumN 0 (sealL l) = 558161692 := by
  unfold sealL sumN
  have hx : addN (4294967295 ^^^ 0) (l ++ tailL (4294967295 ^^^ addN (4294967295 ^^^ 0) l)) = addN (addN (4294967295 ^^^ 0) l) (tailL (4294967295 ^^^ addN (4294967295 ^^^ 0) l)) := by
    unfold addN; rw [List.foldl_append]
  rw [hx]
  have hc : addN (4294967295 ^^^ 0) l < 4294967296 := addN_lt _ (by decide) l
  generalize addN (4294967295 ^^^ 0) l = c at hc
  simp only [tailL, addN, List.foldl_cons, List.foldl_nil, u8_nat]
  have b0 := own_byte c 1 (by decide) 0 rfl
  have b1 := own_byte c 256 (by decide) 8 rfl
  have b2 := own_byte c 65536 (by decide) 16 rfl
  have b3 := own_byte c 16777216 (by decide) 24 rfl
  rw [Nat.div_one, Nat.div_one] at b0
  rw [b0, b1, b2, b3]
  have s0 := own_step c 0
  rw [Nat.xor_zero] at s0
  rw [s0, own_step (c / 256)]
  rw [show c / 256 / 256 = c / 65536 by omega, own_step (c / 65536), show c / 65536 / 256 = c / 16777216 by omega, own_step (c / 16777216), show c / 16777216 / 256 = 0 by omega]
  decide
theorem sealL_take (l : List UInt8) : (sealL l).take l.length = l := by unfold sealL; rw [List.take_left]
theorem copen_ok (k : Nat) (hk : 2 < k) {l : List UInt8} (hl : l.length + 4 < k) (hl2 : l.length < 90000) : check_Open k (mkB (sealL l), vgl_check_table) = some (mkB l, true) := by
  unfold check_Open
  simp only
  have hb : blen (mkB (sealL l)) = (l.length : Int) + 4 := by rw [blen_mkB, sealL_len]; omega
  rw [hb, ilt_f (by omega), condO_false, cof_ok k hk (by rw [sealL_len]; omega) (by rw [sealL_len]; omega), own_sum]
  simp only [Option.bind_some]
  rw [ieq_t (by decide), wk_i64 (by omega) (by omega), show (l.length : Int) + 4 - 4 = (l.length : Int) by omega]
  simp only [Bool.not_true, condO_false]
  rw [guardO_pos ⟨by omega, by omega, by omega⟩, scut_take, Int.toNat_natCast, sealL_take]
end Go.Proofs.YtlidgpepppjeiaaDoor
/- A journal's lines are read: what is found at a place. No condition. -/
set_option linter.unusedVariables false
set_option linter.unusedSimpArgs false
namespace Go.Proofs.YtlidgpepppjeiaaDoor
open Go
theorem sealed_small {t : List UInt8} (h : t.length ≤ 245) : lineB t = mkB (secL (sealL t)) ∧ secO (secL (sealL t)) = (mkB (sealL t), true) := by
  have hs := secB_small (l := sealL t) (by rw [sealL_len]; omega)
  exact ⟨by unfold lineB; rw [hs], open_fill (by rw [sealL_len]; omega) (by rw [hs])⟩
theorem text_line {a b c : UInt8} {r : List UInt8} (h : r.length ≤ 240) : redo_text 1000 (lineB ([a, b, c] ++ r), mkB [a, b, c], vgl_check_table) = some (.inr (mkB r, false)) := by
  have hl : ([a, b, c] ++ r).length ≤ 245 := by simp only [List.length_append, List.length_cons, List.length_nil]; omega
  obtain ⟨e1, e2⟩ := sealed_small hl
  unfold redo_text
  simp only
  rw [e1, sopen_ok, e2]
  simp only [Option.bind_some]
  rw [copen_ok 1000 (by decide) (by omega) (by omega)]
  simp only [Option.bind_some, Bool.not_true, condO_false]
  have hb : blen (mkB [a, b, c]) = 3 := rfl
  have hb2 : blen (mkB ([a, b, c] ++ r)) = (r.length : Int) + 3 := by rw [blen_mkB, List.length_append]; simp only [List.length_cons, List.length_nil]; omega
  have hd := scut_drop ([a, b, c] ++ r) 3
  rw [hb2] at hd
  rw [hb, hb2, ilt_f (by omega), condO_false, guardO_pos ⟨by omega, by omega, by omega⟩, scut_take]
  have ht : ([a, b, c] ++ r).take (3 : Int).toNat = [a, b, c] := rfl
  rw [ht, sEq_self]
  simp only [Bool.not_true, condO_false]
  rw [guardO_pos ⟨by omega, by omega, by omega⟩, hd]
  rfl
theorem num_line {most : Int} {x : Nat} {r : List UInt8} (h : (x : Int) ≤ most) (hm : most ≤ 9223372036854775807) : octet_Scan_Num 1000 (most, mkB (putL x ++ r), false) = some ((x : Int), mkB r, false) := by
  refine (num_some 1000 (by decide) hm ?_).1
  unfold numL
  rw [long_put (by omega)]
  simp only [Option.bind_some]
  rw [if_neg (by omega)]
def txOf (l : List ByteArray) (p : Nat) (ats : List Int) : List Put := ats.mapIdx fun j a => (a, l.getD ((p + 1 + j) % l.length) str0)
theorem txOf_take (l : List ByteArray) (p : Nat) (ats : List Int) (i : Nat) (hi : i < ats.length) : txOf l p (ats.take (i + 1)) = txOf l p (ats.take i) ++ [(ats[i], l.getD ((p + 1 + i) % l.length) str0)] := by
  unfold txOf
  rw [List.take_succ_eq_append_getElem hi, List.mapIdx_concat, List.length_take, show min i ats.length = i by omega]
theorem tmod_nat {z : Int} {x m : Nat} (h : z = (x : Int)) : Int.tmod z (m : Int) = ((x % m : Nat) : Int) := by
  subst h
  rw [Int.tmod_eq_emod_of_nonneg (by omega)]
  exact (Int.natCast_emod _ _).symm
theorem at_str (l : List ByteArray) (i : Nat) : at_ .str l (i : Int) = l.getD i str0 := rfl
theorem found_tx {p s : Nat} {l : List ByteArray} {ats : List Int} (hm : 3 ≤ l.length) (h62 : l.length ≤ 62) (hp : p < l.length) (hs : s ≤ 1099511627776) (hk1 : 1 ≤ ats.length) (hk : ats.length + 2 ≤ l.length) (ha : ∀ a ∈ ats, 0 ≤ a ∧ a ≤ 65535) (h1 : l.getD p str0 = lineB (firstT s ats)) :
    redo_slots_found 1000 ((p : Int), (s : Int), l, vgl_check_table) = some (if l.getD ((p + ats.length + 1) % l.length) str0 = lineB (lastT s ats.length) then txOf l p ats else []) := by
  have hks : kpn (s : Int) 1099511627776 = s := by unfold kpn; omega
  have hk60 : min ats.length 60 = ats.length := by omega
  have hft : firstT s ats = [83, 67, 68] ++ (putL s ++ (putL ats.length ++ restT ats)) := by
    unfold firstT
    rw [hks, hk60, List.take_length, List.append_assoc, List.append_assoc]
  have hrl := restT_le ats
  have hl1 := putL_le (x := s) (by omega)
  have hl2 := putL_le (x := ats.length) (by omega)
  have hpm : Int.tmod (p : Int) (llen l) = (p : Int) := by unfold llen; rw [tmod_nat rfl, Nat.mod_eq_of_lt hp]
  have hnz : nz (llen l) := by unfold nz llen; omega
  have hin : ∀ x : Nat, inR ((x % l.length : Nat) : Int) (llen l) := fun x => ⟨by omega, by have := Nat.mod_lt x (show 0 < l.length by omega); unfold llen; omega⟩
  have hinp : inR (p : Int) (llen l) := ⟨by omega, by unfold llen; omega⟩
  unfold redo_slots_found
  simp only [hpm, at_str, h1]
  rw [guardO_pos hnz, guardO_pos hinp, hft, kind3, text_line (by simp only [List.length_append]; omega)]
  simp only [Option.bind_some, caseS_inr]
  rw [num_line (by omega) (by decide)]
  simp only [Option.bind_some]
  rw [num_line (by omega) (by decide)]
  simp only [Option.bind_some, Bool.not_false, Bool.not_true, condO_false]
  rw [ine_f rfl, condO_false, ilt_f (by omega), condO_false, wk_i64 (x := (ats.length : Int) + 2) (by omega) (by omega), igt_f (by unfold llen; omega), condO_false]
  refine bind_of (a := (mkB [], false, txOf l p ats, ats)) ?_ ?_
  · have s0 : ((0 : Int), mkB (restT ats), false, ([] : List Put), ([] : List Int)) = (fun i : Nat => ((i : Int), mkB (restT (ats.drop i)), false, txOf l p (ats.take i), ats.take i)) 0 := rfl
    simp only [s0]
    refine loopK_run (fun i : Nat => ((i : Int), mkB (restT (ats.drop i)), false, txOf l p (ats.take i), ats.take i)) ats.length _ 1000 ?_ ?_ (by omega)
    · intro i hi
      have hai := ha ats[i] (List.getElem_mem hi)
      have hr : restT (ats.drop i) = putL (kpn ats[i] 65535) ++ restT (ats.drop (i + 1)) := by
        rw [List.drop_eq_getElem_cons hi]; rfl
      have hka : ((kpn ats[i] 65535 : Nat) : Int) = ats[i] := by unfold kpn; omega
      have hkl := kpn_le ats[i] 65535
      have l1 : (ats.take i).length ≤ 62 := by rw [List.length_take]; omega
      have l2 : (txOf l p (ats.take i)).length ≤ 62 := by simp only [txOf, List.length_mapIdx]; exact l1
      have wi : WK .i64 (WK .i64 ((p : Int) + 1) + (i : Int)) = ((p + 1 + i : Nat) : Int) := by
        rw [wk_i64 (x := (p : Int) + 1) (by omega) (by omega), wk_i64 (by omega) (by omega)]; omega
      simp only [hr]
      rw [ilt_t (by omega), condO_true, num_line (by omega) (by decide)]
      simp only [Option.bind_some, hka, wi]
      have ht : Int.tmod ((p + 1 + i : Nat) : Int) (llen l) = (((p + 1 + i) % l.length : Nat) : Int) := tmod_nat rfl
      rw [ht, guardO_pos (by unfold appOk; simp only [List.length_cons, List.length_nil]; omega), guardO_pos hnz, guardO_pos (hin _), at_str, guardO_pos (by unfold appOk; simp only [List.length_cons, List.length_nil]; omega), wk_i64 (x := (i : Int) + 1) (by omega) (by omega), txOf_take l p ats i hi]
      rw [List.take_succ_eq_append_getElem hi]
      rfl
    · simp only
      rw [ilt_f (by omega), condO_false, List.drop_length, List.take_length]
      rfl
  · have hsE : sEq (mkB []) str0 = true := rfl
    have wl : WK .i64 (WK .i64 ((p : Int) + (ats.length : Int)) + 1) = ((p + ats.length + 1 : Nat) : Int) := by
      rw [wk_i64 (x := (p : Int) + (ats.length : Int)) (by omega) (by omega), wk_i64 (by omega) (by omega)]; omega
    have ht : Int.tmod ((p + ats.length + 1 : Nat) : Int) (llen l) = (((p + ats.length + 1) % l.length : Nat) : Int) := tmod_nat rfl
    have kk1 := kput_le (s : Int) 1099511627776 (by decide)
    have kk2 := kput_le (ats.length : Int) 1099511627776 (by decide)
    simp only [hsE, Bool.not_false, Bool.not_true, condO_false, show ine 0 0 = false from rfl, wl, ht, at_str]
    refine bind_of (a := if l.getD ((p + ats.length + 1) % l.length) str0 = lineB (lastT s ats.length) then .inr () else .inl []) ?_ ?_
    · rw [guardO_pos hnz, guardO_pos hinp, first_ok (s : Int) ats (by omega)]
      simp only [Option.bind_some]
      rw [← hft, sEq_self]
      simp only [Bool.not_true, condO_false]
      rw [guardO_pos hnz, guardO_pos (hin _), cput40]
      simp only [Option.bind_some, kind3]
      rw [guardO_pos (catOk_small (by decide) (by omega)), cput40]
      simp only [Option.bind_some, mkB_app]
      rw [guardO_pos (catOk_small (by simp only [List.length_append, List.length_cons, List.length_nil]; omega) (by omega)), line_ok (t := [83, 67, 67] ++ putL (kpn (s : Int) 1099511627776) ++ putL (kpn (ats.length : Int) 1099511627776)) (Nat.le_trans (lastT_len s ats.length) (by decide))]
      show condO (!(sEq (l.getD ((p + ats.length + 1) % l.length) str0) (lineB (lastT s ats.length)))) _ _ = _
      by_cases h : l.getD ((p + ats.length + 1) % l.length) str0 = lineB (lastT s ats.length)
      · rw [if_pos h, h, sEq_self]; rfl
      · have : sEq (l.getD ((p + ats.length + 1) % l.length) str0) (lineB (lastT s ats.length)) = false := by
          rw [← Bool.not_eq_true]; intro e; exact h (sEq_iff.1 e)
        rw [if_neg h, this]; rfl
    · split <;> rfl
end Go.Proofs.YtlidgpepppjeiaaDoor
/- A journal's region is scanned. No condition. -/
set_option linter.unusedVariables false
set_option linter.unusedSimpArgs false
namespace Go.Proofs.YtlidgpepppjeiaaDoor
open Go
/-- A whole transaction at a place. -/
structure TxAt (l : List ByteArray) (p s : Nat) (tx : List Put) : Prop where
  len1 : 1 ≤ tx.length
  len : tx.length + 2 ≤ l.length
  rng : ∀ q ∈ tx, 0 ≤ q.1 ∧ q.1 ≤ 65535
  first : l.getD p str0 = lineB (firstT s (atsL tx))
  rows : ∀ j (h : j < tx.length), l.getD ((p + 1 + j) % l.length) str0 = (tx[j]).2
  last : l.getD ((p + tx.length + 1) % l.length) str0 = lineB (lastT s tx.length)
theorem found_at {l : List ByteArray} {p s : Nat} {tx : List Put} (h3 : 3 ≤ l.length) (h62 : l.length ≤ 62) (hp : p < l.length) (hs : s ≤ 1099511627776) (t : TxAt l p s tx) : redo_slots_found 1000 ((p : Int), (s : Int), l, vgl_check_table) = some tx := by
  have hl : (atsL tx).length = tx.length := by simp [atsL]
  have h := found_tx (ats := atsL tx) h3 h62 hp hs (by rw [hl]; exact t.len1) (by rw [hl]; exact t.len) (fun a ha => by
    obtain ⟨q, hq, rfl⟩ := List.mem_map.1 ha
    exact t.rng q hq) t.first
  rw [h, hl, if_pos t.last]
  congr 1
  apply List.ext_getElem
  · simp [txOf, atsL]
  · intro j h1 h2
    simp only [txOf, atsL, List.getElem_mapIdx, List.getElem_map]
    rw [t.rows j h2]
def Chain (l : List ByteArray) : Nat → Nat → List (List Put) → Prop
  | p, s, [] => redo_slots_found 1000 ((p : Int), (s : Int), l, vgl_check_table) = some []
  | p, s, tx :: r => TxAt l p s tx ∧ Chain l ((p + (tx.length + 2)) % l.length) (s + 1) r
def usedT : List (List Put) → Nat
  | [] => 0
  | tx :: r => tx.length + 2 + usedT r
def endP (m : Nat) : Nat → List (List Put) → Nat
  | p, [] => p
  | p, tx :: r => endP m ((p + (tx.length + 2)) % m) r
theorem endP_lt {m : Nat} (hm : 0 < m) : ∀ (txs : List (List Put)) (p : Nat), p < m → endP m p txs < m
  | [], _, h => h
  | tx :: r, p, _ => endP_lt hm r _ (Nat.mod_lt _ hm)
theorem scan_loop {l : List ByteArray} (h3 : 3 ≤ l.length) (h62 : l.length ≤ 62) {step : Int × Int × Int × List (List Put) → Option ((Int × Int × Int × List (List Put)) ⊕ (Int × Int × List (List Put)))}
    (hstep : ∀ p s u a, step (p, s, u, a) = (redo_slots_found 1000 (p, s, l, vgl_check_table)).bind fun r5 => condO (ieq (llen r5) 0) (some (.inr (p, s, a))) (condO (igt (WK .i64 (u + (WK .i64 ((llen r5) + 2)))) (llen l)) (some (.inr (p, s, a))) (guardO (appOk a ([r5] : List (List Put)) 24) (guardO (nz (llen l)) (some (.inl (Int.tmod (WK .i64 (WK .i64 (p + llen r5) + 2)) (llen l), WK .i64 (s + 1), WK .i64 (u + WK .i64 (llen r5 + 2)), a ++ ([r5] : List (List Put))))))))) :
    ∀ (txs : List (List Put)) (p s u k : Nat) (a : List (List Put)), p < l.length → s + txs.length ≤ 1099511627776 → Chain l p s txs → u + usedT txs ≤ l.length → a.length + txs.length ≤ 1000 → txs.length < k →
      loopK k step ((p : Int), (s : Int), (u : Int), a) = some (((endP l.length p txs : Nat) : Int), ((s + txs.length : Nat) : Int), a ++ txs)
  | [], p, s, u, k, a, hp, hs, hc, hu, ha, hk => by
    obtain ⟨k, rfl⟩ : ∃ j, k = j + 1 := ⟨k - 1, by omega⟩
    have hc : redo_slots_found 1000 ((p : Int), (s : Int), l, vgl_check_table) = some [] := hc
    simp only [loopK, hstep, hc, Option.bind_some, show ieq (llen ([] : List Put)) 0 = true from rfl, condO_true, caseS_inr, List.append_nil, endP, List.length_nil, Nat.add_zero]
  | tx :: r, p, s, u, k, a, hp, hs, hc, hu, ha, hk => by
    obtain ⟨k, rfl⟩ : ∃ j, k = j + 1 := ⟨k - 1, by omega⟩
    simp only [List.length_cons] at hs ha hk
    obtain ⟨t, hc⟩ := hc
    simp only [usedT] at hu
    have h1 := t.len1
    have h2 := t.len
    have hf := found_at h3 h62 hp (by omega) t
    have e0 : ieq (llen tx) 0 = false := ieq_f (by unfold llen; omega)
    have e1 : WK .i64 ((llen tx) + 2) = ((tx.length + 2 : Nat) : Int) := by unfold llen; rw [wk_i64 (by omega) (by omega)]; omega
    have e2 : WK .i64 ((u : Int) + ((tx.length + 2 : Nat) : Int)) = ((u + (tx.length + 2) : Nat) : Int) := by rw [wk_i64 (by omega) (by omega)]; omega
    have e3 : WK .i64 (WK .i64 ((p : Int) + llen tx) + 2) = ((p + (tx.length + 2) : Nat) : Int) := by
      unfold llen; rw [wk_i64 (x := (p : Int) + (tx.length : Int)) (by omega) (by omega), wk_i64 (by omega) (by omega)]; omega
    have e4 : WK .i64 ((s : Int) + 1) = ((s + 1 : Nat) : Int) := by rw [wk_i64 (by omega) (by omega)]; omega
    have e5 : igt ((u + (tx.length + 2) : Nat) : Int) (llen l) = false := igt_f (by unfold llen; omega)
    have e6 : Int.tmod ((p + (tx.length + 2) : Nat) : Int) (llen l) = (((p + (tx.length + 2)) % l.length : Nat) : Int) := tmod_nat rfl
    have g1 : appOk a ([tx] : List (List Put)) 24 := by unfold appOk; simp only [List.length_cons, List.length_nil]; omega
    have g2 : nz (llen l) := by unfold nz llen; omega
    have ih := scan_loop h3 h62 hstep r ((p + (tx.length + 2)) % l.length) (s + 1) (u + (tx.length + 2)) k (a ++ [tx]) (Nat.mod_lt _ (by omega)) (by omega) hc (by omega) (by rw [List.length_append]; simp only [List.length_cons, List.length_nil]; omega) (by omega)
    simp only [loopK, hstep, hf, Option.bind_some, e0, e1, e2, e3, e4, e5, e6, condO_false, guardO_pos g1, guardO_pos g2, caseS_inl]
    rw [ih]
    simp only [endP, List.length_cons, List.append_assoc, List.singleton_append, show s + 1 + r.length = s + (r.length + 1) by omega]
theorem scan_ok {R : List ByteArray} {p s : Nat} {txs : List (List Put)} (h4 : 4 ≤ R.length) (h63 : R.length ≤ 63) (hh : R.getD 0 str0 = hdB p s) (hp : p < R.length - 1) (hs1 : 1 ≤ s) (hs : s ≤ 549755813888) (hc : Chain (R.drop 1) p s txs) (hu : usedT txs ≤ R.length - 1) (ht : txs.length ≤ 900) :
    redo_Scan 1000 (R, vgl_check_table) = some (((endP (R.length - 1) p txs : Nat) : Int), ((s + txs.length : Nat) : Int), true, txs) := by
  have hd : (R.drop 1).length = R.length - 1 := List.length_drop ..
  have hdr : ldrop 1 R = R.drop 1 := rfl
  have hks : kpn (s : Int) 1099511627776 = s := by unfold kpn; omega
  have hkp : kpn (p : Int) 65535 = p := by unfold kpn; omega
  have hH : R.getD 0 str0 = lineB ([83, 67, 72] ++ (putL p ++ (putL s ++ []))) := by
    rw [hh]; unfold hdB headT; rw [hks, hkp, List.append_nil, List.append_assoc]
  have l1 := putL_le (x := s) (by omega)
  have l2 := putL_le (x := p) (by omega)
  have ha : at_ .str R 0 = R.getD 0 str0 := rfl
  unfold redo_Scan
  simp only [ha, hH, hdr]
  rw [ilt_f (by unfold llen; omega), condO_false, guardO_pos ⟨by decide, by unfold llen; omega, Int.le_refl _, rfl⟩, guardO_pos ⟨by decide, by unfold llen; omega⟩, kind3, text_line (by simp only [List.length_append, List.length_nil]; omega)]
  simp only [Option.bind_some, caseS_inr]
  rw [num_line (by omega) (by decide)]
  simp only [Option.bind_some]
  rw [num_line (by omega) (by decide)]
  have hsE : sEq (mkB []) str0 = true := rfl
  simp only [Option.bind_some, Bool.not_false, Bool.not_true, condO_false, hsE, show ine 0 0 = false from rfl]
  rw [ige_f (by unfold llen; omega), condO_false, ilt_f (by omega), condO_false]
  simp only [Option.bind_some, caseS_inr]
  rw [← hd]
  refine bind_of (scan_loop (l := R.drop 1) (by omega) (by omega) (fun p s u a => rfl) txs p s 0 1000 [] (by omega) (by omega) hc (by omega) (by simp only [List.length_nil]; omega) (by omega)) ?_
  rfl
end Go.Proofs.YtlidgpepppjeiaaDoor
/- A journal is opened that has transactions. No condition. -/
set_option linter.unusedVariables false
set_option linter.unusedSimpArgs false
namespace Go.Proofs.YtlidgpepppjeiaaDoor
open Go
theorem txs_take (txs : List (List Put)) (i : Nat) (hi : i < txs.length) : (txs.take (i + 1)).flatten = (txs.take i).flatten ++ txs[i] := by
  rw [List.take_succ_eq_append_getElem hi, List.flatten_append, List.flatten_singleton]
theorem flat_le (txs : List (List Put)) (i : Nat) : (txs.take i).flatten.length ≤ txs.flatten.length := by
  conv => rhs; rw [← List.take_append_drop i txs, List.flatten_append, List.length_append]
  omega
theorem concat_ok {txs : List (List Put)} (h1 : txs.length ≤ 900) (h2 : txs.flatten.length ≤ 1000) : slices_Concat 1000 txs = some txs.flatten := by
  unfold slices_Concat
  have hat : ∀ i (hi : i < txs.length), at_ T3 txs (i : Int) = txs[i] := fun i hi => at_nat hi
  refine bind_of (a := ((txs.flatten.length : Nat) : Int)) ?_ ?_
  · refine loopK_run (fun i : Nat => ((((txs.take i).flatten.length : Nat) : Int), (i : Int))) txs.length _ 1000 ?_ ?_ (by omega)
    · intro i hi
      have h3 := flat_le txs (i + 1)
      rw [txs_take txs i hi, List.length_append] at h3
      have e : WK .i64 ((((txs.take i).flatten.length : Nat) : Int) + llen txs[i]) = (((txs.take (i + 1)).flatten.length : Nat) : Int) := by
        rw [txs_take txs i hi, List.length_append]; unfold llen; rw [wk_i64 (by omega) (by omega)]; omega
      simp only [ilt_t (show (i : Int) < llen txs by unfold llen; omega), condO_true, hat i hi, e]
      rw [guardO_pos ⟨by omega, by unfold llen; omega⟩, ilt_f (by omega), condO_false, wk_i64 (x := (i : Int) + 1) (by omega) (by omega)]
      rfl
    · simp only [ilt_f (show llen txs ≤ (txs.length : Int) by unfold llen; omega), condO_false, List.take_length]
  · have hg : slices_Grow 1000 (((txs.flatten.length : Nat) : Int), ([] : List Put)) = some [] := by
      show guardO _ _ = _
      rw [guardO_pos ⟨by omega, by simp only [List.length_nil]; omega⟩]
    refine bind_of hg ?_
    refine bind_of (a := txs.flatten) ?_ rfl
    refine loopK_run (fun i : Nat => ((i : Int), (txs.take i).flatten)) txs.length _ 1000 ?_ ?_ (by omega)
    · intro i hi
      have h3 := flat_le txs (i + 1)
      rw [txs_take txs i hi, List.length_append] at h3
      simp only [ilt_t (show (i : Int) < llen txs by unfold llen; omega), condO_true, hat i hi, txs_take txs i hi]
      rw [guardO_pos ⟨by omega, by unfold llen; omega⟩, guardO_pos (by unfold appOk; omega), wk_i64 (x := (i : Int) + 1) (by omega) (by omega)]
      rfl
    · simp only [ilt_f (show llen txs ≤ (txs.length : Int) by unfold llen; omega), condO_false, List.take_length]
/-- What opening leaves of the disk. -/
def openD (b p : Nat) (s : Int) (D : List ByteArray) (txs : List (List Put)) : List ByteArray :=
  if txs = [] then D.set (b + 1 + p) noneS else settle (settle D txs.flatten) [((b : Int), hdB p s), (((b + 1 + p : Nat) : Int), noneS)]
theorem openD_len (b p : Nat) (s : Int) (D : List ByteArray) (txs : List (List Put)) : (openD b p s D txs).length = D.length := by
  unfold openD; split
  · simp
  · rw [settle_len, settle_len]
theorem open_txs {b n p : Nat} {left steps s : Int} {lies : List ByteArray} {txs : List (List Put)} (h4 : 4 ≤ n) (h6 : n ≤ 64) (hb : b + n ≤ lies.length) (hl : lies.length ≤ 65536)
    (hs : redo_Scan 1000 (regL lies b n, vgl_check_table) = some ((p : Int), s, true, txs)) (hp : p < n - 1) (h1 : txs.length ≤ 900) (h2 : txs.flatten.length ≤ 800) (hP : ∀ q ∈ txs.flatten, PutOk lies.length q) :
    ∃ st, redo_Open 1000 ((b : Int), (n : Int), true, false, left, steps, vgl_check_table, lies, []) = some (.inr (0, true, false, left, st, (b : Int), (n : Int), (p : Int), s, 0, false, openD b p s lies txs, [])) := by
  by_cases h0 : txs = []
  · subst h0
    obtain ⟨st, h⟩ := open_none (left := left) (steps := steps) h4 h6 hb hl hs hp
    refine ⟨st, ?_⟩
    rw [h, openD, if_pos rfl]
  have hlen0 : txs.length ≠ 0 := fun h => h0 (List.length_eq_zero_iff.1 h)
  have hsz : (hdB p s).size = 256 := line_size (Nat.le_trans (headT_len p s) (by decide))
  have hL : (settle lies txs.flatten).length = lies.length := settle_len _ _
  obtain ⟨t1, w1⟩ := writes_on (left := left) (steps := steps) (lies := lies) (cache := []) (puts := txs.flatten) true hP (by omega) (by simp only [List.length_nil]; omega) (fun q hq => by cases hq)
  obtain ⟨t2, w2⟩ := writes_on (left := left) (steps := t1) (lies := settle lies txs.flatten) (cache := []) (puts := [((b : Int), hdB p s)]) false (fun q hq => by
    obtain rfl := List.mem_singleton.1 hq
    exact ⟨by simp only; omega, by simp only [hL]; omega, hsz⟩) (by omega) (by simp) (fun q hq => by cases hq)
  obtain ⟨t3, w3⟩ := writes_on (left := left) (steps := t2) (lies := settle lies txs.flatten) (cache := [((b : Int), hdB p s)]) (puts := [(((b + 1 + p : Nat) : Int), noneS)]) true (fun q hq => by
    obtain rfl := List.mem_singleton.1 hq
    exact ⟨by simp only; omega, by simp only [hL]; omega, none_size⟩) (by omega) (by simp) (fun q hq => by
    obtain rfl := List.mem_singleton.1 hq
    exact ⟨by simp only; omega, by simp only [hL]; omega⟩)
  simp only [if_true, List.nil_append] at w1 w2 w3
  refine ⟨t3, ?_⟩
  have k1 := kput_le p 65535 (by decide)
  have k2 := kput_le s 1099511627776 (by decide)
  unfold redo_Open
  simp only
  rw [fits_ok hl, decide_eq_true ⟨by omega, by omega, by omega, by omega⟩]
  simp only [Option.bind_some, Bool.not_true, condO_false]
  refine bind_of (a := .inr (regL lies b n)) (open_read h4 h6 hb hl (fun i h => rfl)) ?_
  simp only [caseS_inr]
  refine bind_of hs ?_
  simp only [Bool.not_true, condO_false]
  refine bind_of (a := .inr (true, false, left, t2, settle lies txs.flatten, [((b : Int), hdB p s)])) ?_ ?_
  · rw [igt_t (by unfold llen; omega), condO_true, concat_ok h1 (by omega)]
    simp only [Option.bind_some]
    refine bind_of w1 ?_
    refine bind_of (a := (0, true, false, left, t2, settle lies txs.flatten, [((b : Int), hdB p s)])) ?_ rfl
    simp only [show ieq 0 0 = true from rfl, condO_true]
    rw [cput16, cput40]
    simp only [Option.bind_some, kind3]
    rw [guardO_pos (catOk_small (by decide) (by omega))]
    simp only [mkB_app]
    rw [guardO_pos (catOk_small (by simp only [List.length_append, List.length_cons, List.length_nil]; omega) (by omega)), line_ok (t := [83, 67, 72] ++ putL (kpn p 65535) ++ putL (kpn s 1099511627776)) (Nat.le_trans (headT_len p s) (by decide))]
    exact bind_of w2 rfl
  · simp only [caseS_inr, blank_ok]
    rw [guardO_pos (by decide), wk_i64 (x := (b : Int) + 1) (by omega) (by omega), wk_i64 (x := (b : Int) + 1 + p) (by omega) (by omega), show (b : Int) + 1 + p = ((b + 1 + p : Nat) : Int) by omega]
    refine bind_of w3 ?_
    unfold openD
    rw [if_neg h0]
    rfl
/-- A disk's region with a chain of transactions, opened. -/
theorem open_chain {n p s : Nat} {left steps : Int} {lies : List ByteArray} {txs : List (List Put)} (h4 : 4 ≤ n) (h63 : n ≤ 63) (hb : n ≤ lies.length) (hl : lies.length ≤ 65536) (hh : lies.getD 0 str0 = hdB p s) (hp : p < n - 1) (hs1 : 1 ≤ s) (hs : s ≤ 549755813888)
    (hc : Chain ((regL lies 0 n).drop 1) p s txs) (hu : usedT txs ≤ n - 1) (hP : ∀ q ∈ txs.flatten, PutOk lies.length q) (h1 : txs.length ≤ 900) (h2 : txs.flatten.length ≤ 800) :
    ∃ st, redo_Open 1000 (0, (n : Int), true, false, left, steps, vgl_check_table, lies, []) = some (.inr (0, true, false, left, st, 0, (n : Int), ((endP (n - 1) p txs : Nat) : Int), ((s + txs.length : Nat) : Int), 0, false, openD 0 (endP (n - 1) p txs) ((s + txs.length : Nat) : Int) lies txs, [])) := by
  have hsc := scan_ok (R := regL lies 0 n) (by rw [regL_len]; exact h4) (by rw [regL_len]; exact h63) (by rw [regL_at _ _ _ _ (by omega)]; exact hh) (by rw [regL_len]; exact hp) hs1 hs hc (by rw [regL_len]; exact hu) h1
  rw [regL_len] at hsc
  exact open_txs (b := 0) h4 (by omega) (by omega) hl hsc (endP_lt (by omega) _ _ hp) h1 h2 hP
end Go.Proofs.YtlidgpepppjeiaaDoor
/- What a transaction leaves of a journal's slots. No condition. -/
set_option linter.unusedVariables false
set_option linter.unusedSimpArgs false
namespace Go.Proofs.YtlidgpepppjeiaaDoor
open Go
theorem amod {p i m : Nat} (hp : p < m) (hi : i < m) : (p + i) % m = if p + i < m then p + i else p + i - m := by
  split
  · rename_i h; exact Nat.mod_eq_of_lt h
  · rename_i h
    rw [Nat.mod_eq_sub_mod (by omega), Nat.mod_eq_of_lt (by omega)]
theorem mod_inj {p i j m : Nat} (hp : p < m) (hi : i < m) (hj : j < m) (h : (p + i) % m = (p + j) % m) : i = j := by
  rw [amod hp hi, amod hp hj] at h
  split at h <;> split at h <;> omega
theorem endP_eq {m : Nat} (hm : 0 < m) : ∀ (txs : List (List Put)) (p : Nat), p < m → endP m p txs = (p + usedT txs) % m
  | [], p, h => by simp only [endP, usedT, Nat.add_zero]; rw [Nat.mod_eq_of_lt h]
  | tx :: r, p, h => by
    simp only [endP, usedT]
    rw [endP_eq hm r _ (Nat.mod_lt _ hm), Nat.mod_add_mod, Nat.add_assoc]
theorem usedT_app : ∀ (a b : List (List Put)), usedT (a ++ b) = usedT a + usedT b
  | [], b => by simp [usedT]
  | x :: a, b => by simp only [List.cons_append, usedT, usedT_app a b]; omega
theorem endP_app (m : Nat) : ∀ (a b : List (List Put)) (p : Nat), endP m p (a ++ b) = endP m (endP m p a) b
  | [], _, _ => rfl
  | x :: a, b, p => by simp only [List.cons_append, endP]; exact endP_app m a b _
theorem usedT_len : ∀ (txs : List (List Put)), usedT txs = txs.flatten.length + 2 * txs.length
  | [] => rfl
  | x :: r => by
    have := usedT_len r
    simp only [usedT, List.flatten_cons, List.length_append, List.length_cons]; omega
/-- A chain without its end. -/
def Chn (l : List ByteArray) : Nat → Nat → List (List Put) → Prop
  | _, _, [] => True
  | p, s, tx :: r => TxAt l p s tx ∧ Chn l ((p + (tx.length + 2)) % l.length) (s + 1) r
theorem chain_iff (l : List ByteArray) : ∀ (txs : List (List Put)) (p s : Nat), Chain l p s txs ↔ Chn l p s txs ∧ redo_slots_found 1000 (((endP l.length p txs : Nat) : Int), ((s + txs.length : Nat) : Int), l, vgl_check_table) = some []
  | [], p, s => by simp [Chain, Chn, endP]
  | tx :: r, p, s => by
    simp only [Chain, Chn, endP, List.length_cons]
    rw [chain_iff l r, show s + 1 + r.length = s + (r.length + 1) by omega, and_assoc]
theorem chn_app (l : List ByteArray) : ∀ (a b : List (List Put)) (p s : Nat), Chn l p s (a ++ b) ↔ Chn l p s a ∧ Chn l (endP l.length p a) (s + a.length) b
  | [], b, p, s => by simp [Chn, endP]
  | tx :: a, b, p, s => by
    simp only [List.cons_append, Chn, endP, List.length_cons]
    rw [chn_app l a b, show s + 1 + a.length = s + (a.length + 1) by omega, and_assoc]
theorem txat_congr {l l' : List ByteArray} (hl : l'.length = l.length) {p s : Nat} {tx : List Put} (hp : p < l.length) (h : ∀ o < tx.length + 2, l'.getD ((p + o) % l.length) str0 = l.getD ((p + o) % l.length) str0) (t : TxAt l p s tx) : TxAt l' p s tx := by
  have h0 := h 0 (by omega)
  rw [Nat.add_zero, Nat.mod_eq_of_lt hp] at h0
  refine ⟨t.len1, by rw [hl]; exact t.len, t.rng, by rw [h0]; exact t.first, fun j hj => ?_, ?_⟩
  · have := h (1 + j) (by omega)
    rw [hl, show p + 1 + j = p + (1 + j) by omega, this, show p + (1 + j) = p + 1 + j by omega]
    exact t.rows j hj
  · have := h (tx.length + 1) (by omega)
    rw [hl, show p + tx.length + 1 = p + (tx.length + 1) by omega, this]
    exact t.last
theorem chn_congr {l l' : List ByteArray} (hl : l'.length = l.length) (h0 : 0 < l.length) : ∀ (txs : List (List Put)) (p s : Nat), p < l.length → (∀ o < usedT txs, l'.getD ((p + o) % l.length) str0 = l.getD ((p + o) % l.length) str0) → Chn l p s txs → Chn l' p s txs
  | [], _, _, _, _, _ => trivial
  | tx :: r, p, s, hp, h, ⟨t, c⟩ => by
    simp only [usedT] at h
    refine ⟨txat_congr hl hp (fun o ho => h o (by omega)) t, ?_⟩
    rw [hl]
    refine chn_congr hl h0 r _ _ (Nat.mod_lt _ h0) (fun o ho => ?_) c
    have := h (tx.length + 2 + o) (by omega)
    rw [Nat.mod_add_mod, show p + (tx.length + 2) + o = p + (tx.length + 2 + o) by omega]
    exact this
/-! ### what a transaction leaves -/
theorem settle_cons (D : List ByteArray) (q : Put) (c : List Put) : settle D (q :: c) = settle (setD D q) c := rfl
theorem setD_at {D : List ByteArray} {i a : Nat} {x : ByteArray} (h : i < D.length) : (setD D ((i : Int), x)).getD a str0 = if i = a then x else D.getD a str0 := by
  unfold setD
  simp only [Int.toNat_natCast]
  exact getD_set h
theorem rows_at {m p : Nat} {E : List ByteArray} {puts : List Put} (hp : p < m) (hk : puts.length + 3 ≤ m) (hE : m < E.length) : ∀ i ≤ puts.length, ∀ j < m, (settle E (rowsL 0 m p (puts.take i))).getD (0 + 1 + (p + j) % m) str0 = if h : 1 ≤ j ∧ j ≤ i ∧ j ≤ puts.length then (puts[j - 1]'(by omega)).2 else E.getD (0 + 1 + (p + j) % m) str0 := by
  intro i
  induction i with
  | zero =>
    intro _ j hj
    rw [dif_neg (by omega)]; rfl
  | succ i ih =>
    intro hi j hj
    have hs : settle (settle E (rowsL 0 m p (puts.take i))) [(((slotA 0 m p (1 + i) : Nat) : Int), puts[i].2)] = setD (settle E (rowsL 0 m p (puts.take i))) (((slotA 0 m p (1 + i) : Nat) : Int), puts[i].2) := rfl
    have hb : slotA 0 m p (1 + i) < (settle E (rowsL 0 m p (puts.take i))).length := by
      rw [settle_len]
      have := slotA_lt (b := 0) (p := p) (i := 1 + i) (show 0 < m by omega)
      omega
    rw [rowsL_take 0 m p puts i (by omega), settle_app, hs, setD_at hb, ih (by omega) j hj]
    by_cases hji : j = 1 + i
    · subst hji
      rw [if_pos (show slotA 0 m p (1 + i) = 0 + 1 + (p + (1 + i)) % m from rfl), dif_pos (by omega)]
      simp only [show 1 + i - 1 = i by omega]
    · rw [if_neg (fun h => hji (mod_inj hp hj (by omega) (by unfold slotA at h; omega)))]
      by_cases h : 1 ≤ j ∧ j ≤ i ∧ j ≤ puts.length
      · rw [dif_pos h, dif_pos (by omega)]
      · rw [dif_neg h, dif_neg (by omega)]
theorem commitD_at {m p : Nat} {s : Int} {D : List ByteArray} {puts : List Put} (hp : p < m) (hk1 : 1 ≤ puts.length) (hk : puts.length + 3 ≤ m) (hD : m < D.length) {j : Nat} (hj : j < m) :
    (commitD 0 m p s D puts).getD (0 + 1 + (p + j) % m) str0 = if j = 0 then lineB (firstT s (atsL puts)) else if h : 1 ≤ j ∧ j ≤ puts.length then (puts[j - 1]'(by omega)).2 else if j = puts.length + 1 then lineB (lastT s puts.length) else if j = puts.length + 2 then noneS else D.getD (0 + 1 + (p + j) % m) str0 := by
  have hb : ∀ i, slotA 0 m p i < D.length := fun i => by
    have := slotA_lt (b := 0) (p := p) (i := i) (show 0 < m by omega)
    omega
  have hne : ∀ i, i < m → i ≠ j → slotA 0 m p i ≠ 0 + 1 + (p + j) % m := fun i hi hij h => hij (mod_inj hp hi hj (by unfold slotA at h; omega))
  have heq : slotA 0 m p j = 0 + 1 + (p + j) % m := rfl
  unfold commitD
  have e1 : ∀ (E : List ByteArray) (x : ByteArray), settle E [(((slotA 0 m p (puts.length + 1) : Nat) : Int), x)] = setD E (((slotA 0 m p (puts.length + 1) : Nat) : Int), x) := fun _ _ => rfl
  rw [e1, settle_cons, setD_at (by rw [settle_len, setD_len, settle_len]; exact hb _)]
  have e2 : rowsL 0 m p puts = rowsL 0 m p (puts.take puts.length) := by rw [List.take_length]
  rw [e2, rows_at hp hk (by rw [setD_len, settle_len]; exact hD) puts.length (Nat.le_refl _) j hj, setD_at (by rw [settle_len]; exact hb _)]
  have e3 : settle D (blanks 0 m p puts.length) = setD (setD D (((slotA 0 m p (puts.length + 1) : Nat) : Int), noneS)) (((slotA 0 m p (puts.length + 2) : Nat) : Int), noneS) := rfl
  rw [e3, setD_at (by rw [setD_len]; exact hb _), setD_at (hb _)]
  by_cases h1 : j = puts.length + 1
  · subst h1
    rw [if_pos heq, if_neg (by omega), dif_neg (by omega), if_pos rfl]
  · rw [if_neg (hne _ (by omega) (Ne.symm h1))]
    by_cases h0 : j = 0
    · subst h0
      rw [dif_neg (by omega), if_pos heq, if_pos rfl]
    · rw [if_neg h0]
      by_cases h2 : 1 ≤ j ∧ j ≤ puts.length
      · rw [dif_pos (by omega), dif_pos h2]
      · rw [dif_neg (by omega), dif_neg h2, if_neg (hne 0 (by omega) (Ne.symm h0)), if_neg h1]
        by_cases h3 : j = puts.length + 2
        · subst h3; rw [if_pos heq, if_pos rfl]
        · rw [if_neg (hne _ (by omega) (Ne.symm h3)), if_neg h3, if_neg (hne _ (by omega) (Ne.symm h1))]
end Go.Proofs.YtlidgpepppjeiaaDoor
/- A journal on a disk: what Checkpoint and Commit keep true. No condition. -/
set_option linter.unusedVariables false
set_option linter.unusedSimpArgs false
namespace Go.Proofs.YtlidgpepppjeiaaDoor
open Go
def slL (n : Nat) (D : List ByteArray) : List ByteArray := (regL D 0 n).drop 1
theorem slL_len (n : Nat) (D : List ByteArray) : (slL n D).length = n - 1 := by unfold slL; rw [List.length_drop, regL_len]
theorem slL_at {n : Nat} {D : List ByteArray} {i : Nat} (h : i < n - 1) : (slL n D).getD i str0 = D.getD (0 + 1 + i) str0 := by
  unfold slL
  have e : ((regL D 0 n).drop 1).getD i str0 = (regL D 0 n).getD (1 + i) str0 := by simp [List.getD_eq_getElem?_getD, Nat.add_comm]
  rw [e, regL_at _ _ _ _ (by omega), show 0 + (1 + i) = 0 + 1 + i by omega]
structure Jn (n : Nat) (D : List ByteArray) (p0 s0 : Nat) (txs : List (List Put)) : Prop where
  len : D.length = 40
  hd : D.getD 0 str0 = hdB p0 s0
  hp : p0 < n - 1
  hs1 : 1 ≤ s0
  hs : s0 + txs.length ≤ 100000
  chn : Chn (slL n D) p0 s0 txs
  used : usedT txs + 1 ≤ n - 1
  blank : (slL n D).getD (endP (n - 1) p0 txs) str0 = noneS
  puts : ∀ q ∈ txs.flatten, PutOk 40 q ∧ (n : Int) ≤ q.1
theorem Jn.congr {n : Nat} {D D' : List ByteArray} {p0 s0 : Nat} {txs : List (List Put)} (h4 : 4 ≤ n) (j : Jn n D p0 s0 txs) (hl : D'.length = 40) (h : ∀ a < n, D'.getD a str0 = D.getD a str0) : Jn n D' p0 s0 txs := by
  have hsl : ∀ i < n - 1, (slL n D').getD i str0 = (slL n D).getD i str0 := fun i hi => by
    rw [slL_at hi, slL_at hi]; exact h _ (by omega)
  refine ⟨hl, by rw [h 0 (by omega)]; exact j.hd, j.hp, j.hs1, j.hs, ?_, j.used, ?_, j.puts⟩
  · refine chn_congr (by rw [slL_len, slL_len]) (by rw [slL_len]; omega) txs p0 s0 (by rw [slL_len]; exact j.hp) (fun o ho => ?_) j.chn
    rw [slL_len]
    exact hsl _ (Nat.mod_lt _ (by omega))
  · rw [hsl _ (endP_lt (by omega) _ _ j.hp)]; exact j.blank
/-- The data of a disk behind some writes behind the journal. -/
theorem settle_in {n : Nat} {D : List ByteArray} {c : List Put} (hc : ∀ q ∈ c, (0 ≤ q.1 ∧ q.1 < D.length) ∧ (n : Int) ≤ q.1) {a : Nat} (ha : a < n) : (settle D c).getD a str0 = D.getD a str0 := by
  induction c generalizing D with
  | nil => rfl
  | cons q c ih =>
    have hq := hc q (List.mem_cons_self ..)
    rw [settle_cons, ih (fun r hr => by rw [setD_len]; exact hc r (List.mem_cons_of_mem _ hr))]
    unfold setD
    rw [getD_set (by omega), if_neg (by omega)]
theorem Jn.settle {n : Nat} {D : List ByteArray} {p0 s0 : Nat} {txs : List (List Put)} {c : List Put} (h4 : 4 ≤ n) (j : Jn n D p0 s0 txs) (hc : ∀ q ∈ c, PutOk 40 q ∧ (n : Int) ≤ q.1) : Jn n (settle D c) p0 s0 txs :=
  j.congr h4 (by rw [settle_len]; exact j.len) (fun a ha => settle_in (fun q hq => ⟨⟨(hc q hq).1.lo, by rw [j.len]; exact (hc q hq).1.hi⟩, (hc q hq).2⟩) ha)
theorem Jn.check {n : Nat} {D : List ByteArray} {p0 s0 : Nat} {txs : List (List Put)} (h4 : 4 ≤ n) (h40 : n ≤ 40) (j : Jn n D p0 s0 txs) : Jn n (D.set 0 (hdB (endP (n - 1) p0 txs : Nat) ((s0 + txs.length : Nat) : Int))) (endP (n - 1) p0 txs) (s0 + txs.length) [] := by
  have hl := j.len
  have hs := j.hs
  have h1 := j.hs1
  refine ⟨by rw [List.length_set]; exact j.len, ?_, endP_lt (by omega) _ _ j.hp, by omega, by simpa using hs, trivial, by simp only [usedT]; omega, ?_, fun q hq => by cases hq⟩
  · rw [getD_set (by omega), if_pos rfl]
  · have hp := endP_lt (show 0 < n - 1 by omega) txs p0 j.hp
    simp only [endP]
    rw [slL_at hp, getD_set (by omega), if_neg (by omega), ← slL_at hp]
    exact j.blank
theorem commitD_out {m p : Nat} {s : Int} {D : List ByteArray} {puts : List Put} (hm : 0 < m) {a : Nat} (hD : m < D.length) (ha : a = 0 ∨ m < a) : (commitD 0 m p s D puts).getD a str0 = D.getD a str0 := by
  have hr : ∀ i, 1 ≤ slotA 0 m p i ∧ slotA 0 m p i ≤ m := fun i => by
    have := slotA_lt (b := 0) (p := p) (i := i) hm
    unfold slotA at this ⊢
    omega
  have key : ∀ (c : List Put) (E : List ByteArray), m < E.length → (∀ q ∈ c, 1 ≤ q.1 ∧ q.1 ≤ m) → (settle E c).getD a str0 = E.getD a str0 := by
    intro c
    induction c with
    | nil => intro E _ _; rfl
    | cons q c ih =>
      intro E hE hc
      have hq := hc q (List.mem_cons_self ..)
      rw [settle_cons, ih _ (by rw [setD_len]; exact hE) (fun r hr => hc r (List.mem_cons_of_mem _ hr))]
      unfold setD
      rw [getD_set (by omega), if_neg (by omega)]
  have hone : ∀ (i : Nat) (x : ByteArray), 1 ≤ ((((slotA 0 m p i : Nat) : Int), x) : Put).1 ∧ ((((slotA 0 m p i : Nat) : Int), x) : Put).1 ≤ m := fun i x => by
    have := hr i
    simp only; omega
  unfold commitD
  rw [key _ _ (by rw [settle_len, settle_len]; exact hD), key _ _ (by rw [settle_len]; exact hD), key _ _ hD]
  · intro q hq
    simp only [blanks, List.mem_cons, List.not_mem_nil, or_false] at hq
    rcases hq with rfl | rfl <;> exact hone _ _
  · intro q hq
    rcases List.mem_cons.1 hq with rfl | hq
    · exact hone _ _
    · unfold rowsL at hq
      obtain ⟨j, hj, rfl⟩ := List.mem_mapIdx.1 hq
      exact hone _ _
  · intro q hq
    obtain rfl := List.mem_singleton.1 hq
    exact hone _ _
theorem Jn.commit {n : Nat} {D : List ByteArray} {p0 s0 : Nat} {txs : List (List Put)} {puts : List Put} (h4 : 4 ≤ n) (h40 : n ≤ 40) (j : Jn n D p0 s0 txs) (hk1 : 1 ≤ puts.length) (hk : usedT txs + (puts.length + 2) + 1 ≤ n - 1) (hs : s0 + txs.length + 1 ≤ 100000)
    (hP : ∀ q ∈ puts, PutOk 40 q ∧ (n : Int) ≤ q.1) : Jn n (commitD 0 (n - 1) (endP (n - 1) p0 txs) ((s0 + txs.length : Nat) : Int) D puts) p0 s0 (txs ++ [puts]) := by
  have hl := j.len
  have hm : 0 < n - 1 := by omega
  have hp := endP_lt hm txs p0 j.hp
  have he := endP_eq hm txs p0 j.hp
  have hat := fun {i : Nat} (hi : i < n - 1) => commitD_at (m := n - 1) (p := endP (n - 1) p0 txs) (s := ((s0 + txs.length : Nat) : Int)) (D := D) (puts := puts) hp hk1 (by omega) (by omega) hi
  have hsl : ∀ i, i < n - 1 → (slL n (commitD 0 (n - 1) (endP (n - 1) p0 txs) ((s0 + txs.length : Nat) : Int) D puts)).getD ((endP (n - 1) p0 txs + i) % (n - 1)) str0 = _ := fun i hi => by
    rw [slL_at (Nat.mod_lt _ hm)]
  refine ⟨by rw [commitD_len]; exact hl, ?_, j.hp, j.hs1, by rw [List.length_append]; simp only [List.length_cons, List.length_nil]; omega, ?_, by rw [usedT_app]; simp only [usedT]; omega, ?_, ?_⟩
  · rw [commitD_out hm (by omega) (.inl rfl)]; exact j.hd
  · rw [chn_app]
    refine ⟨?_, ?_⟩
    · refine chn_congr (by rw [slL_len, slL_len]) (by rw [slL_len]; exact hm) txs p0 s0 (by rw [slL_len]; exact j.hp) (fun o ho => ?_) j.chn
      rw [slL_len]
      have hi : o + (n - 1) - usedT txs < n - 1 := by omega
      have e : (p0 + o) % (n - 1) = (endP (n - 1) p0 txs + (o + (n - 1) - usedT txs)) % (n - 1) := by
        rw [he, Nat.mod_add_mod, show p0 + usedT txs + (o + (n - 1) - usedT txs) = p0 + o + (n - 1) by omega, Nat.add_mod_right]
      rw [e, hsl _ hi, hat hi, if_neg (by omega), dif_neg (by omega), if_neg (by omega), if_neg (by omega), slL_at (Nat.mod_lt _ hm)]
    · rw [slL_len]
      refine ⟨⟨hk1, by rw [slL_len]; omega, fun q hq => ⟨(hP q hq).1.lo, by have := (hP q hq).1.hi; omega⟩, ?_, fun i hi => ?_, ?_⟩, trivial⟩
      · have := (hsl 0 hm).trans (hat hm)
        rw [Nat.add_zero, Nat.mod_eq_of_lt hp, if_pos rfl] at this
        exact this
      · rw [slL_len, show endP (n - 1) p0 txs + 1 + i = endP (n - 1) p0 txs + (1 + i) by omega, hsl (1 + i) (by omega), hat (show 1 + i < n - 1 by omega), if_neg (by omega), dif_pos (by omega)]
        simp only [show 1 + i - 1 = i by omega]
      · rw [slL_len, show endP (n - 1) p0 txs + puts.length + 1 = endP (n - 1) p0 txs + (puts.length + 1) by omega, hsl (puts.length + 1) (by omega), hat (show puts.length + 1 < n - 1 by omega), if_neg (by omega), dif_neg (by omega), if_pos rfl]
  · rw [endP_app]
    simp only [endP]
    rw [hsl (puts.length + 2) (by omega), hat (show puts.length + 2 < n - 1 by omega), if_neg (by omega), dif_neg (by omega), if_neg (by omega), if_pos rfl]
  · intro q hq
    rw [List.flatten_append, List.flatten_singleton] at hq
    rcases List.mem_append.1 hq with hq | hq
    · exact j.puts q hq
    · exact hP q hq
/-- Such a disk is opened. -/
theorem Jn.openJ {n : Nat} {D : List ByteArray} {p0 s0 : Nat} {txs : List (List Put)} {left steps : Int} (h4 : 4 ≤ n) (h40 : n ≤ 40) (j : Jn n D p0 s0 txs) :
    ∃ st, redo_Open 1000 (0, (n : Int), true, false, left, steps, vgl_check_table, D, []) = some (.inr (0, true, false, left, st, 0, (n : Int), ((endP (n - 1) p0 txs : Nat) : Int), ((s0 + txs.length : Nat) : Int), 0, false, openD 0 (endP (n - 1) p0 txs) ((s0 + txs.length : Nat) : Int) D txs, [])) := by
  have hl := j.len
  have hu := j.used
  have hul := usedT_len txs
  have hs := j.hs
  refine open_chain h4 (by omega) (by omega) (by omega) j.hd j.hp j.hs1 (by omega) ?_ (by omega) (fun q hq => by rw [hl]; exact (j.puts q hq).1) (by omega) (by omega)
  rw [chain_iff]
  refine ⟨j.chn, ?_⟩
  have hle : ((regL D 0 n).drop 1).length = n - 1 := slL_len n D
  rw [hle]
  have hp := endP_lt (show 0 < n - 1 by omega) txs p0 j.hp
  refine found_none (by omega) (by rw [hle]; omega) ?_
  rw [Int.toNat_natCast]
  exact j.blank
end Go.Proofs.YtlidgpepppjeiaaDoor
/- A journal and what is sure: transactions and crashes, with power on. No condition. -/
set_option linter.unusedVariables false
set_option linter.unusedSimpArgs false
namespace Go.Proofs.YtlidgpepppjeiaaDoor
open Go
def aft (S : Nat → ByteArray) (c : List Put) (a : Nat) : ByteArray := match c.reverse.find? (fun q => q.1 == (a : Int)) with
  | some q => q.2
  | none => S a
theorem rd_aft (D : List ByteArray) (c : List Put) (a : Nat) : rd D c (a : Int) = aft (fun i => D.getD i str0) c a := rfl
theorem aft_nil (S : Nat → ByteArray) (a : Nat) : aft S [] a = S a := rfl
theorem aft_app (S : Nat → ByteArray) (c d : List Put) (a : Nat) : aft S (c ++ d) a = aft (aft S c) d a := by
  unfold aft
  rw [List.reverse_append, List.find?_append]
  cases d.reverse.find? (fun q => q.1 == (a : Int)) <;> rfl
theorem aft_congr {S S' : Nat → ByteArray} (c : List Put) {a : Nat} (h : S a = S' a) : aft S c a = aft S' c a := by
  unfold aft
  cases c.reverse.find? (fun q => q.1 == (a : Int)) with
  | none => exact h
  | some q => rfl
theorem aft_mem {S S' : Nat → ByteArray} {c : List Put} {a : Nat} (h : ∃ q ∈ c, q.1 = (a : Int)) : aft S c a = aft S' c a := by
  unfold aft
  cases hf : c.reverse.find? (fun q => q.1 == (a : Int)) with
  | some q => rfl
  | none =>
    obtain ⟨q, hq, he⟩ := h
    have := List.find?_eq_none.1 hf q (List.mem_reverse.2 hq)
    simp [he] at this
theorem aft_not {S : Nat → ByteArray} {c : List Put} {a : Nat} (h : ¬ ∃ q ∈ c, q.1 = (a : Int)) : aft S c a = S a := by
  unfold aft
  cases hf : c.reverse.find? (fun q => q.1 == (a : Int)) with
  | none => rfl
  | some q =>
    have h1 := List.find?_some hf
    have h2 := List.mem_reverse.1 (List.mem_of_find?_eq_some hf)
    exact absurd ⟨q, h2, by simpa using h1⟩ h
structure Sur (n p s u : Nat) (D : List ByteArray) (cache : List Put) (S : Nat → ByteArray) (p0 s0 : Nat) (txs : List (List Put)) : Prop where
  j : Jn n D p0 s0 txs
  hp : p = endP (n - 1) p0 txs
  hs : s = s0 + txs.length
  hu : u = usedT txs
  ck : ∀ q ∈ cache, (PutOk 40 q ∧ (n : Int) ≤ q.1) ∧ ∃ r ∈ txs.flatten, r.1 = q.1
  cl : cache.length ≤ 60
  redo : ∀ a, n ≤ a → a < 40 → rd D txs.flatten (a : Int) = S a
  now : ∀ a, n ≤ a → a < 40 → rd D cache (a : Int) = S a
theorem Sur.pos {n p s u : Nat} {D : List ByteArray} {cache : List Put} {S : Nat → ByteArray} {p0 s0 : Nat} {txs : List (List Put)} (h4 : 4 ≤ n) (x : Sur n p s u D cache S p0 s0 txs) : p < n - 1 ∧ u + 1 ≤ n - 1 := by
  have h1 := endP_lt (show 0 < n - 1 by omega) txs p0 x.j.hp
  have h2 := x.j.used
  have h3 := x.hp
  have h4 := x.hu
  omega
theorem Sur.commit {n p s u : Nat} {D : List ByteArray} {cache : List Put} {S : Nat → ByteArray} {p0 s0 : Nat} {txs : List (List Put)} {puts : List Put} (h4 : 4 ≤ n) (h40 : n ≤ 40) (x : Sur n p s u D cache S p0 s0 txs) (hk1 : 1 ≤ puts.length) (hk : puts.length ≤ n - 4) (hs : s + 1 ≤ 100000) (hP : ∀ q ∈ puts, PutOk 40 q ∧ (n : Int) ≤ q.1) :
    ∃ p0 s0 txs, Sur n ((p + (puts.length + 2)) % (n - 1)) (s + 1) (afterU n u puts.length) (commitD 0 (n - 1) p (s : Int) (beforeD 0 n p (s : Int) u puts.length (settle D cache)) puts) puts (aft S puts) p0 s0 txs := by
  have hl := x.j.len
  have hm : 0 < n - 1 := by omega
  have hcr : ∀ q ∈ cache, 0 ≤ q.1 ∧ q.1 < D.length := fun q hq => ⟨(x.ck q hq).1.1.lo, by rw [hl]; exact (x.ck q hq).1.1.hi⟩
  have jc := x.j.settle h4 (fun q hq => (x.ck q hq).1)
  have hnow : ∀ a, n ≤ a → a < 40 → (settle D cache).getD a str0 = S a := fun a h1 h2 => by
    have := rd_settle D cache hcr (a : Int) (by omega)
    rw [Int.toNat_natCast] at this
    rw [this]; exact x.now a h1 h2
  by_cases h : n - 1 < u + (puts.length + 2) + 1
  · -- room is made first
    have eB : beforeD 0 n p (s : Int) u puts.length (settle D cache) = (settle D cache).set 0 (hdB p s) := by unfold beforeD; rw [if_pos h]
    have jk := jc.check h4 h40
    rw [← x.hp, ← x.hs] at jk
    have jn := jk.commit (puts := puts) h4 h40 hk1 (by simp only [usedT]; omega) (by simpa using hs) hP
    simp only [endP, List.length_nil, Nat.add_zero, List.nil_append] at jn
    rw [eB]
    have hout : ∀ a, n ≤ a → a < 40 → (commitD 0 (n - 1) p (s : Int) ((settle D cache).set 0 (hdB p s)) puts).getD a str0 = S a := fun a h1 h2 => by
      rw [commitD_out hm (by rw [List.length_set, settle_len]; omega) (.inr (by omega)), getD_set (by rw [settle_len]; omega), if_neg (by omega), hnow a h1 h2]
    refine ⟨p, s, [puts], jn, ?_, rfl, ?_, fun q hq => ⟨hP q hq, q, by simpa using hq, rfl⟩, by omega, fun a h1 h2 => ?_, fun a h1 h2 => ?_⟩
    · simp only [endP]
    · unfold afterU; rw [if_pos h]; simp only [usedT]; omega
    · rw [List.flatten_singleton, rd_aft]; exact aft_congr puts (hout a h1 h2)
    · rw [rd_aft]; exact aft_congr puts (hout a h1 h2)
  · have eB : beforeD 0 n p (s : Int) u puts.length (settle D cache) = settle D cache := by unfold beforeD; rw [if_neg h]
    have hu := x.hu
    have hs' := x.hs
    have jn := jc.commit (puts := puts) h4 h40 hk1 (by omega) (by omega) hP
    rw [← x.hp, ← x.hs] at jn
    rw [eB]
    have hout : ∀ a, n ≤ a → a < 40 → (commitD 0 (n - 1) p (s : Int) (settle D cache) puts).getD a str0 = S a := fun a h1 h2 => by
      rw [commitD_out hm (by rw [settle_len]; omega) (.inr (by omega)), hnow a h1 h2]
    refine ⟨p0, s0, txs ++ [puts], jn, ?_, by rw [List.length_append]; simp only [List.length_cons, List.length_nil]; omega, ?_, fun q hq => ⟨hP q hq, q, by rw [List.flatten_append, List.flatten_singleton]; exact List.mem_append_right _ hq, rfl⟩, by omega, fun a h1 h2 => ?_, fun a h1 h2 => ?_⟩
    · rw [endP_app, ← x.hp]; rfl
    · unfold afterU; rw [if_neg h, usedT_app, x.hu]; simp only [usedT, Nat.add_zero]
    · rw [List.flatten_append, List.flatten_singleton, rd_aft, aft_app]
      refine aft_congr puts ?_
      by_cases hin : ∃ q ∈ txs.flatten, q.1 = (a : Int)
      · rw [aft_mem (S' := fun i => D.getD i str0) hin, ← rd_aft]; exact x.redo a h1 h2
      · rw [aft_not hin]; exact hout a h1 h2
    · rw [rd_aft]; exact aft_congr puts (hout a h1 h2)
/-- A crash, and the journal is opened again. -/
theorem Sur.crash {n p s u : Nat} {D : List ByteArray} {cache : List Put} {S : Nat → ByteArray} {p0 s0 : Nat} {txs : List (List Put)} (picks : List Int) (h4 : 4 ≤ n) (h40 : n ≤ 40) (x : Sur n p s u D cache S p0 s0 txs) (left steps : Int) :
    ∃ st D', redo_Open 1000 (0, (n : Int), true, false, left, steps, vgl_check_table, settleP picks D cache, []) = some (.inr (0, true, false, left, st, 0, (n : Int), (p : Int), (s : Int), 0, false, D', [])) ∧ Sur n p s 0 D' [] S p s [] := by
  have hl := x.j.len
  have hm : 0 < n - 1 := by omega
  have hcr : ∀ q ∈ cache, 0 ≤ q.1 ∧ q.1 < D.length := fun q hq => ⟨(x.ck q hq).1.1.lo, by rw [hl]; exact (x.ck q hq).1.1.hi⟩
  have hC : ∀ a, (settleP picks D cache).getD a str0 = D.getD a str0 ∨ ∃ q ∈ cache, q.1 = (a : Int) := fun a => by
    rcases settleP_one picks D cache hcr a with h | ⟨q, hq, h1, _⟩
    · exact .inl h
    · exact .inr ⟨q, hq, h1⟩
  have hCl : (settleP picks D cache).length = 40 := by rw [settleP_len]; exact hl
  have jC : Jn n (settleP picks D cache) p0 s0 txs := x.j.congr h4 hCl (fun a ha => by
    rcases hC a with h | ⟨q, hq, h1⟩
    · exact h
    · have := (x.ck q hq).1.2; omega)
  have hredo : ∀ a, n ≤ a → a < 40 → rd (settleP picks D cache) txs.flatten (a : Int) = S a := fun a h1 h2 => by
    rw [← x.redo a h1 h2, rd_aft, rd_aft]
    by_cases hin : ∃ q ∈ txs.flatten, q.1 = (a : Int)
    · exact aft_mem hin
    · refine aft_congr _ ?_
      rcases hC a with h | ⟨q, hq, h3⟩
      · exact h
      · obtain ⟨r, hr, h5⟩ := (x.ck q hq).2
        exact absurd ⟨r, hr, h5.trans h3⟩ hin
  obtain ⟨st, ho⟩ := jC.openJ (left := left) (steps := steps) h4 h40
  rw [← x.hp, ← x.hs] at ho
  refine ⟨st, _, ho, ?_⟩
  have hp := (x.pos h4).1
  have hs1 := x.j.hs1
  have hss := x.j.hs
  have hxs := x.hs
  have hC2 : ∀ q ∈ txs.flatten, 0 ≤ q.1 ∧ q.1 < (settleP picks D cache).length := fun q hq => ⟨(x.j.puts q hq).1.lo, by rw [hCl]; exact (x.j.puts q hq).1.hi⟩
  have hin : ∀ a, a < n → (settle (settleP picks D cache) txs.flatten).getD a str0 = (settleP picks D cache).getD a str0 := fun a ha => settle_in (fun q hq => ⟨hC2 q hq, (x.j.puts q hq).2⟩) ha
  have hbl : (openD 0 p (s : Int) (settleP picks D cache) txs).getD (0 + 1 + p) str0 = noneS := by
    unfold openD
    split
    · rw [getD_set (by omega), if_pos rfl]
    · have e : settle (settle (settleP picks D cache) txs.flatten) [(((0 : Nat) : Int), hdB p s), (((0 + 1 + p : Nat) : Int), noneS)] = setD (setD (settle (settleP picks D cache) txs.flatten) (((0 : Nat) : Int), hdB p s)) (((0 + 1 + p : Nat) : Int), noneS) := rfl
      rw [e, setD_at (by rw [setD_len, settle_len]; omega), if_pos rfl]
  have hdata : ∀ a, n ≤ a → a < 40 → (openD 0 p (s : Int) (settleP picks D cache) txs).getD a str0 = S a := fun a h1 h2 => by
    have hr := hredo a h1 h2
    unfold openD
    split
    · rename_i h0
      rw [h0] at hr
      rw [getD_set (by omega), if_neg (by omega)]
      exact hr
    · have e : settle (settle (settleP picks D cache) txs.flatten) [(((0 : Nat) : Int), hdB p s), (((0 + 1 + p : Nat) : Int), noneS)] = setD (setD (settle (settleP picks D cache) txs.flatten) (((0 : Nat) : Int), hdB p s)) (((0 + 1 + p : Nat) : Int), noneS) := rfl
      have e2 := rd_settle (settleP picks D cache) txs.flatten hC2 (a : Int) (by omega)
      rw [Int.toNat_natCast] at e2
      rw [e, setD_at (by rw [setD_len, settle_len]; omega), if_neg (by omega), setD_at (by rw [settle_len]; omega), if_neg (by omega), e2]
      exact hr
  have hhd : (openD 0 p (s : Int) (settleP picks D cache) txs).getD 0 str0 = hdB p s := by
    have h0 := jC.hd
    unfold openD
    split
    · rename_i he
      have e1 := x.hp
      have e2 := x.hs
      rw [he] at e1 e2
      simp only [endP, List.length_nil, Nat.add_zero] at e1 e2
      rw [getD_set (by omega), if_neg (by omega), h0, e1, e2]
    · have e : settle (settle (settleP picks D cache) txs.flatten) [(((0 : Nat) : Int), hdB p s), (((0 + 1 + p : Nat) : Int), noneS)] = setD (setD (settle (settleP picks D cache) txs.flatten) (((0 : Nat) : Int), hdB p s)) (((0 + 1 + p : Nat) : Int), noneS) := rfl
      rw [e, setD_at (by rw [setD_len, settle_len]; omega), if_neg (by omega), setD_at (by rw [settle_len]; omega), if_pos rfl]
  exact ⟨⟨by rw [openD_len]; exact hCl, hhd, hp, by omega, by simp only [List.length_nil]; omega, trivial, by simp only [usedT]; omega, by
    simp only [endP]; rw [slL_at hp]; exact hbl, (fun q hq => by cases hq)⟩, rfl, rfl, rfl, (fun q hq => by cases hq), by simp, hdata, hdata⟩
end Go.Proofs.YtlidgpepppjeiaaDoor
/- What the laws of the journal themselves compute. No condition. -/
set_option linter.unusedVariables false
set_option linter.unusedSimpArgs false
namespace Go.Proofs.YtlidgpepppjeiaaDoor
open Go
theorem crash7 (k : Nat) {on armed : Bool} {left steps : Int} {lies : List ByteArray} {cache : List Put} {picks : List Int} (h0 : 0 < lies.length) (hk : cache.length < k) (hl : cache.length < 1000000) (hr : ∀ p ∈ cache, 0 ≤ p.1 ∧ p.1 < lies.length) :
    sector_Disk_Crash k (on, armed, left, steps, picks, lies, cache) = some (.inr (true, false, left, steps, settleP picks lies cache, [])) := by
  have e1 : ieq (llen lies) 0 = false := ieq_f (by unfold llen; omega)
  unfold sector_Disk_Crash
  simp only [e1, condO_false]
  rw [settle1_ok k hk hl hr]
  rfl
def pq (n : Nat) (z : Int × Int) : Put := ((n : Int) + Int.tmod (if z.1 < 0 then -(z.1 + 1) else z.1) (40 - (n : Int)), withS z.2)
theorem pq_ok {n : Nat} {z : Int × Int} (h40 : n < 40) : PutOk 40 (pq n z) ∧ (n : Int) ≤ (pq n z).1 := by
  unfold pq
  have h0 : (0 : Int) ≤ (if z.1 < 0 then -(z.1 + 1) else z.1) := by split <;> omega
  have h1 := Int.tmod_lt_of_pos (if z.1 < 0 then -(z.1 + 1) else z.1) (show (0 : Int) < 40 - (n : Int) by omega)
  have h2 := Int.tmod_nonneg (40 - (n : Int)) h0
  exact ⟨⟨by simp only; omega, by simp only; omega, with_size _⟩, by simp only; omega⟩
theorem puts_ok {n most : Nat} {l : List (Int × Int)} (h40 : n < 40) (hm : most ≤ 900) (hw : ∀ z ∈ l, -9223372036854775808 ≤ z.1 ∧ z.1 ≤ 9223372036854775807) : law07_puts 1000 ((n : Int), (most : Int), l) = some ((l.take (min l.length most)).map (pq n)) := by
  unfold law07_puts
  refine bind_of (a := (l.take (min l.length most)).map (pq n)) ?_ rfl
  refine loopK_run (fun i : Nat => ((i : Int), (l.take i).map (pq n))) (min l.length most) _ 1000 ?_ ?_ (by omega)
  · intro i hi
    have hil : i < l.length := by omega
    have ea : at_ T4 l (i : Int) = l[i] := at_nat hil
    have hz := hw l[i] (List.getElem_mem hil)
    have hlen : ((l.take i).map (pq n)).length ≤ 900 := by simp only [List.length_map, List.length_take]; omega
    have hin : inR (i : Int) (llen l) := ⟨by omega, by unfold llen; omega⟩
    have wn : WK .i64 (40 - (n : Int)) = 40 - (n : Int) := wk_i64 (by omega) (by omega)
    have hnz : nz (40 - (n : Int)) := by unfold nz; omega
    have hap : ∀ q : Put, appOk ((l.take i).map (pq n)) ([q] : List Put) 24 := fun q => by unfold appOk; simp only [List.length_cons, List.length_nil]; omega
    have hq := (pq_ok (z := l[i]) h40).1
    have htk : (l.take (i + 1)).map (pq n) = (l.take i).map (pq n) ++ [pq n l[i]] := by rw [List.take_succ_eq_append_getElem hil, List.map_append]; rfl
    have wi : WK .i64 ((i : Int) + 1) = ((i + 1 : Nat) : Int) := by rw [wk_i64 (by omega) (by omega)]; omega
    simp only [ilt_t (show (i : Int) < llen l by unfold llen; omega), ilt_t (show (i : Int) < (most : Int) by omega), condO_true, ea, wn, wi, htk, guardO_pos hin, guardO_pos hnz]
    have hlo := hq.lo
    have hhi := hq.hi
    unfold pq at hlo hhi ⊢
    by_cases h : l[i].1 < 0
    · simp only [if_pos h] at hlo hhi ⊢
      rw [ilt_t h, condO_true, fill_with]
      simp only [Option.bind_some]
      rw [wk_i64 (x := l[i].1 + 1) (by omega) (by omega), wk_i64 (x := 0 - (l[i].1 + 1)) (by omega) (by omega), show 0 - (l[i].1 + 1) = -(l[i].1 + 1) by omega, wk_i64 (by omega) (by omega)]
      exact guardO_pos (hap _)
    · simp only [if_neg h] at hlo hhi ⊢
      rw [ilt_f (by omega), condO_false, fill_with]
      simp only [Option.bind_some]
      rw [wk_i64 (x := (n : Int) + Int.tmod l[i].1 (40 - (n : Int))) (by omega) (by omega)]
      exact guardO_pos (hap _)
  · by_cases h : l.length ≤ most
    · simp only [ilt_f (show llen l ≤ ((min l.length most : Nat) : Int) by unfold llen; omega), condO_false]
    · simp only [ilt_t (show ((min l.length most : Nat) : Int) < llen l by unfold llen; omega), ilt_f (show (most : Int) ≤ ((min l.length most : Nat) : Int) by omega), condO_false, condO_true]
/-- A state that is read. -/
theorem reads_ok {n : Nat} {W : Vector ByteArray 40} {p s u left steps : Int} {armed : Bool} {D : List ByteArray} {cache : List Put} (h40 : n ≤ 40) (hl : D.length = 40) (h : ∀ a : Nat, n ≤ a → a < 40 → rd D cache (a : Int) = vAt str0 W (a : Int)) :
    law07_state_reads 1000 (W, (n : Int), 0, (n : Int), p, s, u, false, true, armed, left, steps, D, cache) = some true := by
  unfold law07_state_reads
  refine bind_of (a := .inr ()) ?_ rfl
  refine loopK_run (fun i : Nat => ((n + i : Nat) : Int)) (40 - n) _ 1000 ?_ ?_ (by omega)
  · intro i hi
    have hr : redo_Log_Read 1000 (((n + i : Nat) : Int), 0, (n : Int), p, s, u, false, true, armed, left, steps, D, cache) = some (rd D cache ((n + i : Nat) : Int), 0) := by
      unfold redo_Log_Read
      refine bind_of (a := 0) rfl ?_
      simp only [show ine 0 0 = false from rfl, condO_false]
      rw [read_ok 1000 (by omega) (by omega)]
      rfl
    simp only [ilt_t (show ((n + i : Nat) : Int) < 40 by omega), condO_true, hr, Option.bind_some, show ine 0 0 = false from rfl, condO_false, h (n + i) (by omega) (by omega), sEq_self, Bool.not_true]
    rw [guardO_pos ⟨by omega, by omega⟩, wk_i64 (by omega) (by omega)]
    rfl
  · simp only [ilt_f (show (40 : Int) ≤ ((n + (40 - n) : Nat) : Int) by omega), condO_false]
theorem after_one {W : Vector ByteArray 40} {q : Put} (hq : PutOk 40 q) : law07_state_after 1000 (W, [q]) = some (vSet W q.1 q.2) := by
  have h1 := hq.lo
  have h2 : q.1 < 40 := hq.hi
  unfold law07_state_after
  refine bind_of (a := vSet W q.1 q.2) ?_ rfl
  refine loopK_run (fun i : Nat => ((i : Int), if i = 0 then W else vSet W q.1 q.2)) 1 _ 1000 ?_ ?_ (by decide)
  · intro i hi
    obtain rfl : i = 0 := by omega
    have e : at_ T0 [q] ((0 : Nat) : Int) = q := rfl
    have hin : inR ((0 : Nat) : Int) (llen [q]) := ⟨by decide, by simp only [llen, List.length_cons, List.length_nil]; omega⟩
    simp only [e, if_true, guardO_pos hin]
    rw [ilt_t (by simp only [llen, List.length_cons, List.length_nil]; omega), condO_true, ige_t h1, condO_true, ilt_t h2, condO_true, guardO_pos ⟨h1, h2⟩]
    rfl
  · rfl
def vBl : Nat → Vector ByteArray 40
  | 0 => Vector.replicate 40 str0
  | i + 1 => vSet (vBl i) (i : Int) noneS
theorem vBl_at : ∀ (i : Nat), i ≤ 40 → ∀ a : Nat, a < i → vAt str0 (vBl i) (a : Int) = noneS
  | 0, _, a, h => by omega
  | i + 1, hi, a, h => by
    show vAt str0 (vSet (vBl i) (i : Int) noneS) (a : Int) = noneS
    rw [vAt_set str0 _ _ _ _ (by omega) (by omega) (by omega)]
    by_cases e : (i : Int) = (a : Int)
    · rw [if_pos e]
    · rw [if_neg e]; exact vBl_at i (by omega) a (by omega)
end Go.Proofs.YtlidgpepppjeiaaDoor
/- A journal's writes, whether power goes or not. No condition. -/
set_option linter.unusedVariables false
set_option linter.unusedSimpArgs false
namespace Go.Proofs.YtlidgpepppjeiaaDoor
open Go
theorem bind_inv {H E R : Type} {step : H → Option (H ⊕ E)} {f : E → Option R} (I : Nat → H → Prop) (Q : E → Prop) (P : R → Prop) (n : Nat) {h0 : H} {k : Nat} (hk : n < k) (h : I n h0) (hs : ∀ n h, I n h → Goes I Q n (step h)) (hf : ∀ e, Q e → ∃ r, f e = some r ∧ P r) : ∃ r, (loopK k step h0).bind f = some r ∧ P r := by
  obtain ⟨e, he, hq⟩ := loopK_inv (step := step) I Q (fun n h hi => by
    have g := hs n h hi
    generalize step h = o at g ⊢
    cases g with
    | on m lt i => exact .inl ⟨_, m, rfl, lt, i⟩
    | out q => exact .inr ⟨_, rfl, q⟩) n h0 h k hk
  obtain ⟨r, h1, h2⟩ := hf e hq
  exact ⟨r, by rw [he]; exact h1, h2⟩
abbrev WS := Int × Bool × Bool × Int × Int × List ByteArray × List Put
/-- What a row of writes comes to: all done, or power went behind some. -/
def Wr (on fl armed : Bool) (puts : List Put) (lies : List ByteArray) (cache : List Put) (r : WS) : Prop :=
  (∃ left st, r = (0, true, armed, left, st, if fl then settle lies (cache ++ puts) else lies, if fl then [] else cache ++ puts)) ∨ ((on = true → armed = true) ∧ ∃ left st, ∃ i ≤ puts.length, r = (14, false, armed, left, st, lies, cache ++ puts.take i))
theorem may_armed {on on' armed : Bool} {left : Int} (h : ¬ mayD on' armed left = true) (ho : on = true → on' = true) : on = true → armed = true := fun h1 => by
  have := ho h1
  subst this
  cases armed
  · exact absurd rfl h
  · rfl
theorem writes_any (fl : Bool) {on armed : Bool} {left steps : Int} {lies : List ByteArray} {cache puts : List Put} (hne : puts ≠ [] ∨ fl = true) (hp : ∀ p ∈ puts, PutOk lies.length p) (h0 : 0 < lies.length) (hl : cache.length + puts.length < 900) (hr : ∀ p ∈ cache, 0 ≤ p.1 ∧ p.1 < lies.length) :
    ∃ r, redo_write 1000 (fl, on, armed, left, steps, puts, lies, cache) = some r ∧ Wr on fl armed puts lies cache r := by
  have hcp : ∀ p ∈ cache ++ puts, 0 ≤ p.1 ∧ p.1 < lies.length := fun p hm => by
    rcases List.mem_append.1 hm with hm | hm
    · exact hr p hm
    · exact ⟨(hp p hm).lo, (hp p hm).hi⟩
  unfold redo_write
  refine bind_inv (I := fun m (h : WS) => ∃ (i : Nat) (on' : Bool) (left' st : Int), h = ((i : Int), on', armed, left', st, lies, cache ++ puts.take i) ∧ m + i = puts.length ∧ (0 < i → on' = true) ∧ (on = true → on' = true))
    (Q := fun (x : WS ⊕ (Bool × Bool × Int × Int × List ByteArray × List Put)) => ((on = true → armed = true) ∧ ∃ left' st, ∃ i ≤ puts.length, x = .inl (14, false, armed, left', st, lies, cache ++ puts.take i)) ∨ ∃ on' left' st, x = .inr (on', armed, left', st, lies, cache ++ puts) ∧ (puts ≠ [] → on' = true) ∧ (on = true → on' = true))
    (P := Wr on fl armed puts lies cache) puts.length (by omega) ?_ ?_ ?_
  · exact ⟨0, on, left, steps, by simp, by omega, fun h => by omega, id⟩
  · rintro m h ⟨i, on', left', st, rfl, hmi, hon, hoo⟩
    by_cases hi : i < puts.length
    · have hq := hp puts[i] (List.getElem_mem hi)
      have ea : at_ T0 puts (i : Int) = puts[i] := at_nat hi
      simp only [ilt_t (show (i : Int) < llen puts by unfold llen; omega), condO_true, ea]
      rw [guardO_pos ⟨by omega, by unfold llen; omega⟩, write_ok 1000 hq.lo hq.hi hq.sz (by rw [List.length_append, List.length_take]; omega)]
      by_cases hm : mayD on' armed left' = true
      · simp only [if_pos hm, Option.bind_some, show ine 0 0 = false from rfl, condO_false]
        rw [wk_i64 (x := (i : Int) + 1) (by omega) (by omega), List.append_assoc, ← List.take_succ_eq_append_getElem hi]
        exact .on (m - 1) (by omega) ⟨i + 1, true, leftD armed left', _, rfl, by omega, fun _ => rfl, fun _ => rfl⟩
      · simp only [if_neg hm, Option.bind_some, show ine 14 0 = true from rfl, condO_true]
        exact .out (.inl ⟨may_armed hm hoo, left', st, i, by omega, rfl⟩)
    · obtain rfl : i = puts.length := by omega
      simp only [ilt_f (show llen puts ≤ (puts.length : Int) by unfold llen; omega), condO_false, List.take_length]
      exact .out (.inr ⟨on', left', st, rfl, fun h => hon (List.length_pos_iff.2 h), hoo⟩)
  · rintro x (⟨har, left', st, i, hi, rfl⟩ | ⟨on', left', st, rfl, hon, hoo⟩)
    · exact ⟨_, rfl, .inr ⟨har, left', st, i, hi, rfl⟩⟩
    · simp only [caseS_inr]
      cases fl with
      | false =>
        have hon := hon (hne.resolve_right (by decide))
        subst hon
        exact ⟨_, rfl, .inl ⟨left', st, rfl⟩⟩
      | true =>
        simp only [condO_true]
        rw [flush_ok 1000 h0 (by rw [List.length_append]; omega) (by rw [List.length_append]; omega) hcp]
        by_cases hm : mayD on' armed left' = true
        · exact ⟨_, by rw [if_pos hm]; rfl, .inl ⟨_, _, rfl⟩⟩
        · refine ⟨_, by rw [if_neg hm]; rfl, .inr ⟨may_armed hm hoo, left', st, puts.length, Nat.le_refl _, ?_⟩⟩
          rw [List.take_length]
end Go.Proofs.YtlidgpepppjeiaaDoor
/- What a crash may leave of a journal. No condition. -/
set_option linter.unusedVariables false
set_option linter.unusedSimpArgs false
namespace Go.Proofs.YtlidgpepppjeiaaDoor
open Go
theorem none_ne_last (s k : Int) : noneS ≠ lineB (lastT s k) := by
  intro h
  have h1 : redo_text 1000 (noneS, mkB [83, 67, 67], vgl_check_table) = some (.inl ()) := by kernel_rfl
  have hl : (putL (kpn s 1099511627776) ++ putL (kpn k 1099511627776)).length ≤ 240 := by
    have a1 := kput_le s 1099511627776 (by decide)
    have a2 := kput_le k 1099511627776 (by decide)
    rw [List.length_append]; omega
  have h2 := text_line (a := 83) (b := 67) (c := 67) hl
  rw [h, lastT, List.append_assoc, h2] at h1
  cases h1
/-- A transaction whose last line is not there is none. -/
theorem stop_first {p s : Nat} {l : List ByteArray} {ats : List Int} (hm : 3 ≤ l.length) (h62 : l.length ≤ 62) (hp : p < l.length) (hs : s ≤ 1099511627776) (hk1 : 1 ≤ ats.length) (hk : ats.length + 2 ≤ l.length) (ha : ∀ a ∈ ats, 0 ≤ a ∧ a ≤ 65535) (h1 : l.getD p str0 = lineB (firstT s ats)) (h2 : l.getD ((p + ats.length + 1) % l.length) str0 = noneS) :
    redo_slots_found 1000 ((p : Int), (s : Int), l, vgl_check_table) = some [] := by
  rw [found_tx hm h62 hp hs hk1 hk ha h1, h2, if_neg (none_ne_last _ _)]
/-- A disk that a crash may leave. -/
structure Poss (D : List ByteArray) (cache : List Put) (E : List ByteArray) : Prop where
  len : E.length = D.length
  at_ : ∀ a, E.getD a str0 = D.getD a str0 ∨ ∃ q ∈ cache, q.1 = (a : Int) ∧ E.getD a str0 = q.2
theorem poss_crash (picks : List Int) {D : List ByteArray} {cache : List Put} (hr : ∀ q ∈ cache, 0 ≤ q.1 ∧ q.1 < D.length) : Poss D cache (settleP picks D cache) :=
  ⟨settleP_len picks cache D, fun a => settleP_one picks D cache hr a⟩
theorem Poss.nil {D E : List ByteArray} (h : Poss D [] E) : ∀ a, E.getD a str0 = D.getD a str0 := fun a => by
  rcases h.at_ a with h | ⟨q, hq, _⟩
  · exact h
  · cases hq
/-- Fewer writes in the cache leave fewer disks. -/
theorem Poss.mono {D E : List ByteArray} {c d : List Put} (h : Poss D c E) (hs : ∀ q ∈ c, q ∈ d) : Poss D d E :=
  ⟨h.len, fun a => by
    rcases h.at_ a with h | ⟨q, hq, h1⟩
    · exact .inl h
    · exact .inr ⟨q, hs q hq, h1⟩⟩
/-- A journal that opens: a chain of transactions and its stop. -/
structure JW (n : Nat) (D : List ByteArray) (p0 s0 : Nat) (txs : List (List Put)) : Prop where
  len : D.length = 40
  hd : D.getD 0 str0 = hdB p0 s0
  hp : p0 < n - 1
  hs1 : 1 ≤ s0
  hs : s0 + txs.length ≤ 100000
  chn : Chn (slL n D) p0 s0 txs
  used : usedT txs + 1 ≤ n - 1
  stop : redo_slots_found 1000 (((endP (n - 1) p0 txs : Nat) : Int), ((s0 + txs.length : Nat) : Int), slL n D, vgl_check_table) = some []
  puts : ∀ q ∈ txs.flatten, PutOk 40 q ∧ (n : Int) ≤ q.1
theorem Jn.toJW {n : Nat} {D : List ByteArray} {p0 s0 : Nat} {txs : List (List Put)} (h4 : 4 ≤ n) (j : Jn n D p0 s0 txs) : JW n D p0 s0 txs := by
  have hp := endP_lt (show 0 < n - 1 by omega) txs p0 j.hp
  exact ⟨j.len, j.hd, j.hp, j.hs1, j.hs, j.chn, j.used, found_none (by omega) (by rw [slL_len]; omega) (by rw [Int.toNat_natCast]; exact j.blank), j.puts⟩
/-- Such a disk is opened. -/
theorem JW.openJ {n : Nat} {D : List ByteArray} {p0 s0 : Nat} {txs : List (List Put)} {left steps : Int} (h4 : 4 ≤ n) (h40 : n ≤ 40) (j : JW n D p0 s0 txs) :
    ∃ st, redo_Open 1000 (0, (n : Int), true, false, left, steps, vgl_check_table, D, []) = some (.inr (0, true, false, left, st, 0, (n : Int), ((endP (n - 1) p0 txs : Nat) : Int), ((s0 + txs.length : Nat) : Int), 0, false, openD 0 (endP (n - 1) p0 txs) ((s0 + txs.length : Nat) : Int) D txs, [])) := by
  have hl := j.len
  have hu := j.used
  have hul := usedT_len txs
  have hs := j.hs
  refine open_chain h4 (by omega) (by omega) (by omega) j.hd j.hp j.hs1 (by omega) ?_ (by omega) (fun q hq => by rw [hl]; exact (j.puts q hq).1) (by omega) (by omega)
  rw [chain_iff]
  have hle : ((regL D 0 n).drop 1).length = n - 1 := slL_len n D
  exact ⟨j.chn, by rw [hle]; exact j.stop⟩
/-- A disk of which opening makes a state. -/
def GD (n : Nat) (D : List ByteArray) (S : Nat → ByteArray) : Prop := ∃ p0 s0 txs, JW n D p0 s0 txs ∧ ∀ a, n ≤ a → a < 40 → rd D txs.flatten (a : Int) = S a
theorem slL_congr {n : Nat} {D E : List ByteArray} (h : ∀ a < n, E.getD a str0 = D.getD a str0) : slL n E = slL n D := by
  unfold slL regL
  congr 1
  apply List.map_congr_left
  intro i hi
  exact h _ (by rw [Nat.zero_add]; exact List.mem_range.1 hi)
theorem JW.congr {n : Nat} {D E : List ByteArray} {p0 s0 : Nat} {txs : List (List Put)} (h4 : 4 ≤ n) (j : JW n D p0 s0 txs) (hl : E.length = 40) (h : ∀ a < n, E.getD a str0 = D.getD a str0) : JW n E p0 s0 txs := by
  have hs := slL_congr h
  exact ⟨hl, by rw [h 0 (by omega)]; exact j.hd, j.hp, j.hs1, j.hs, by rw [hs]; exact j.chn, j.used, by rw [hs]; exact j.stop, j.puts⟩
/-- Data that the journal writes again may be anything. -/
theorem GD.data {n : Nat} {D E : List ByteArray} {S : Nat → ByteArray} {p0 s0 : Nat} {txs : List (List Put)} (h4 : 4 ≤ n) (j : JW n D p0 s0 txs) (hS : ∀ a, n ≤ a → a < 40 → rd D txs.flatten (a : Int) = S a) (hl : E.length = 40) (h : ∀ a < n, E.getD a str0 = D.getD a str0)
    (hd : ∀ a, n ≤ a → a < 40 → E.getD a str0 = D.getD a str0 ∨ ∃ q ∈ txs.flatten, q.1 = (a : Int)) : GD n E S := by
  refine ⟨p0, s0, txs, j.congr h4 hl h, fun a h1 h2 => ?_⟩
  rw [← hS a h1 h2, rd_aft, rd_aft]
  by_cases hin : ∃ q ∈ txs.flatten, q.1 = (a : Int)
  · exact aft_mem hin
  · exact aft_congr _ ((hd a h1 h2).resolve_right hin)
/-- Slots that no transaction of the chain has may be anything, as long as the chain stops. -/
theorem JW.keep {n : Nat} {D E : List ByteArray} {p0 s0 : Nat} {txs : List (List Put)} (h4 : 4 ≤ n) (j : JW n D p0 s0 txs) (hl : E.length = 40) (h0 : E.getD 0 str0 = D.getD 0 str0) (hu : ∀ o < usedT txs, E.getD (0 + 1 + (p0 + o) % (n - 1)) str0 = D.getD (0 + 1 + (p0 + o) % (n - 1)) str0)
    (hst : redo_slots_found 1000 (((endP (n - 1) p0 txs : Nat) : Int), ((s0 + txs.length : Nat) : Int), slL n E, vgl_check_table) = some []) : JW n E p0 s0 txs := by
  refine ⟨hl, by rw [h0]; exact j.hd, j.hp, j.hs1, j.hs, ?_, j.used, hst, j.puts⟩
  refine chn_congr (by rw [slL_len, slL_len]) (by rw [slL_len]; omega) txs p0 s0 (by rw [slL_len]; exact j.hp) (fun o ho => ?_) j.chn
  rw [slL_len]
  have hlt := Nat.mod_lt (p0 + o) (show 0 < n - 1 by omega)
  rw [slL_at hlt, slL_at hlt]
  exact hu o ho
end Go.Proofs.YtlidgpepppjeiaaDoor
