/- Plain laws of runs: joined, made within the file. No condition. -/
import Derived.Test.YtmpnlafggebaiaaLPa
set_option linter.unusedVariables false
set_option linter.unusedSimpArgs false
namespace Go.Proofs.Ytmpnlafggebaiaa
open Go
def joinF (a b : List S_Run) : List S_Run :=
  match a.getLast?, b with
  | some x, y :: bs => if x.f_At + x.f_N = y.f_At then a.dropLast ++ ⟨x.f_At, x.f_N + y.f_N⟩ :: bs else a ++ y :: bs
  | _, b => a ++ b
theorem joinF_nil (b : List S_Run) : joinF [] b = b := by simp [joinF]
theorem joinF_nil' (a : List S_Run) : joinF a [] = a := by unfold joinF; split <;> simp_all
theorem joinF_cons (a : List S_Run) (x y : S_Run) (bs : List S_Run) : joinF (a ++ [x]) (y :: bs) = if x.f_At + x.f_N = y.f_At then a ++ ⟨x.f_At, x.f_N + y.f_N⟩ :: bs else (a ++ [x]) ++ y :: bs := by
  simp [joinF]
theorem snoc_or (a : List S_Run) : a = [] ∨ ∃ i x, a = i ++ [x] := by
  rcases List.eq_nil_or_concat a with h | ⟨i, x, h⟩
  · exact .inl h
  · exact .inr ⟨i, x, by simpa using h⟩
theorem adr_join (x y : S_Run) (hx : 0 ≤ x.f_N) (hy : 0 ≤ y.f_N) (h : x.f_At + x.f_N = y.f_At) : adr ⟨x.f_At, x.f_N + y.f_N⟩ = adr x ++ adr y := by
  apply List.ext_getElem
  · simp [adr]; omega
  · intro i h1 h2
    simp only [adr, List.getElem_append, List.getElem_map, List.getElem_range, List.length_map, List.length_range]
    split <;> omega
theorem joinF_all (a b : List S_Run) (ha : OkR a) (hb : OkR b) : allR (joinF a b) = allR a ++ allR b := by
  rcases snoc_or a with rfl | ⟨i, x, rfl⟩
  · rw [joinF_nil]; simp [allR]
  · cases b with
    | nil => rw [joinF_nil']; simp [allR]
    | cons y bs =>
      rw [joinF_cons]
      have hx := ha x (by simp); have hy := hb y (by simp); unfold Ok1 at hx hy
      split
      · rename_i h
        rw [allR_app, allR_cons, adr_join x y (by omega) (by omega) h, allR_app, allR_cons, allR_cons]; simp [allR]
      · rw [allR_app]
theorem joinF_ok (a b : List S_Run) (ha : OkR a) (hb : OkR b) : OkR (joinF a b) := by
  rcases snoc_or a with rfl | ⟨i, x, rfl⟩
  · rw [joinF_nil]; exact hb
  · cases b with
    | nil => rw [joinF_nil']; exact ha
    | cons y bs =>
      rw [joinF_cons]
      have hx := ha x (by simp); have hy := hb y (by simp); unfold Ok1 at hx hy
      intro z hz
      split at hz
      · rename_i h
        simp only [List.mem_append, List.mem_cons] at hz
        rcases hz with hz | rfl | hz
        · exact ha z (by simp [hz])
        · unfold Ok1; simp <;> omega
        · exact hb z (by simp [hz])
      · simp only [List.mem_append] at hz
        rcases hz with hz | hz
        · exact ha z (by simpa using hz)
        · exact hb z hz
theorem joinF_len (a b : List S_Run) : (joinF a b).length ≤ a.length + b.length := by
  rcases snoc_or a with rfl | ⟨i, x, rfl⟩
  · rw [joinF_nil]; simp
  · cases b with
    | nil => rw [joinF_nil']; simp
    | cons y bs => rw [joinF_cons]; split <;> simp <;> omega
theorem at_snoc (i : List S_Run) (x : S_Run) : F_Run.at_ (i ++ [x]) (i.length : Int) = x := at_app F_Run i [] x
theorem join_ev (k : Nat) (a b : List S_Run) (hla : a.length + b.length ≤ 1000000000) (ha : OkR a) (hb : OkR b) : extent_Join.f k a b = some (joinF a b) := by
  unfold extent_Join.f slices_Clone_api_Run.f
  rw [if_pos (by simp <;> omega)]
  simp only [List.nil_append, Option.bind_some]
  have j1 : ∀ l1 l2 : List S_Run, l2.length + l1.length ≤ 1000000000 → extent_Join.j1 l1 l2 = some (l2 ++ l1) := by
    intro l1 l2 h
    unfold extent_Join.j1
    rw [if_pos (by omega)]
    simp only [Int.toNat_natCast, List.take_length]
    rw [if_pos (by omega)]
  rcases snoc_or a with rfl | ⟨i, x, rfl⟩
  · rw [if_neg (by simp)]
    unfold extent_Join.j2
    rw [if_neg (by simp), j1 _ _ (by simpa using hla), joinF_nil]; rfl
  · rw [if_pos (by simp <;> omega)]
    cases b with
    | nil =>
      rw [if_neg (by simp)]
      unfold extent_Join.j2
      rw [if_neg (by simp), j1 _ _ (by simpa using hla), joinF_nil']; simp
    | cons y bs =>
      have hx := ha x (by simp); have hy := hb y (by simp); unfold Ok1 at hx hy
      have hl : W64 (((i ++ [x]).length : Int) - 1) = (i.length : Int) := by
        simp only [List.length_append, List.length_cons, List.length_nil] at hla ⊢
        rw [W64_id (by omega) (by omega)]; omega
      have h0 : F_Run.at_ (y :: bs) (0 : Int) = y := at_app F_Run [] bs y
      rw [if_pos (by simp <;> omega), hl, if_pos (by simp <;> omega), if_pos (by simp <;> omega)]
      simp only [at_snoc, h0, extent_end.f, Option.bind_some]
      rw [W64_id (by omega) (by omega), joinF_cons]
      unfold extent_Join.j2
      by_cases e : x.f_At + x.f_N = y.f_At
      · rw [if_pos (by simpa using e), hl, if_pos (by simp <;> omega), if_pos (by simp <;> omega), if_pos (by simp <;> omega), if_pos (by simp <;> omega), if_pos e]
        simp only [at_snoc, h0]
        rw [j1 _ _ (by simp at hla ⊢; omega), W64_id (by omega) (by omega)]
        simp
      · rw [if_neg (by simpa using e), if_neg e, j1 _ _ (by simpa using hla)]

/-- What the laws make of any list: at most 12 runs. -/
def fileF (l : List S_Run) : List S_Run := (l.take 12).map fun x => ⟨andK .i64 x.f_At 1023, 1 + andK .i64 x.f_N 31⟩
theorem fileF_ok (l : List S_Run) : OkR (fileF l) := by
  intro x hx
  simp only [fileF, List.mem_map] at hx
  obtain ⟨y, _, rfl⟩ := hx
  have h1 := andK_mask y.f_At 10 (by omega)
  have h2 := andK_mask y.f_N 5 (by omega)
  simp at h1 h2
  unfold Ok1
  simp
  omega
theorem fileF_len (l : List S_Run) : (fileF l).length ≤ 12 := by simp [fileF]; omega
theorem len_of (l : List S_Run) (h : ∀ x ∈ l, x.f_N ≤ 65536) : (allR l).length ≤ l.length * 65536 := by
  induction l with
  | nil => simp [allR]
  | cons x l ih =>
    have a := h x (by simp)
    have b := ih (fun y hy => h y (by simp [hy]))
    rw [allR_cons, List.length_append, adr_len]
    simp only [List.length_cons]
    omega
theorem OkR.len {l : List S_Run} (h : OkR l) (n : Nat) (hn : l.length ≤ n) : (allR l).length ≤ n * 65536 :=
  Nat.le_trans (len_of l (fun x hx => (h x hx).2.1)) (Nat.mul_le_mul_right _ hn)
theorem file_loop (p0 : List S_Run) (hp : p0.length ≤ 9223372036854775807) : ∀ (post pre : List S_Run) (l : List S_Run), p0 = pre ++ post → l.length = pre.length → pre.length ≤ 12 →
    Ev (fun k => scriniumlaw06_file.l1 p0 k l (pre.length : Int)) (l ++ (post.take (12 - pre.length)).map fun x => ⟨andK .i64 x.f_At 1023, 1 + andK .i64 x.f_N 31⟩)
  | [], pre, l, e, h, h1 => by
    subst e
    refine Ev.succ ?_
    simp only [scriniumlaw06_file.l1, scriniumlaw06_file.j1]
    exact Ev.ff (by simp) (Ev.ff rfl (by simpa using Ev.pure l))
  | x :: post, pre, l, e, h, h1 => by
    refine Ev.succ ?_
    simp only [scriniumlaw06_file.l1, scriniumlaw06_file.j1]
    have hx : F_Run.at_ p0 (pre.length : Int) = x := by rw [e]; exact at_app F_Run pre post x
    have hl : p0.length = pre.length + (post.length + 1) := by rw [e]; simp
    have h1' := andK_mask x.f_At 10 (by omega)
    have h2' := andK_mask x.f_N 5 (by omega)
    simp at h1' h2'
    refine Ev.tt (by simp <;> omega) ?_
    by_cases hlt : pre.length < 12
    · refine Ev.tt (by simp <;> omega) (Ev.pos ⟨by omega, by omega⟩ (Ev.pos ⟨by omega, by omega⟩ (Ev.pos (by simp <;> omega) ?_)))
      rw [hx, idx_next pre x (by omega), W64_id (x := 1 + andK .i64 x.f_N 31) (by omega) (by omega)]
      have ih := file_loop p0 hp post (pre ++ [x]) (l ++ [⟨andK .i64 x.f_At 1023, 1 + andK .i64 x.f_N 31⟩]) (by simp [e]) (by simp [h]) (by simp <;> omega)
      obtain ⟨n, hn⟩ : ∃ n, 12 - pre.length = n + 1 := ⟨12 - pre.length - 1, by omega⟩
      have hn' : 12 - (pre ++ [x]).length = n := by simp <;> omega
      rw [hn'] at ih
      rw [hn, List.take_succ_cons, List.map_cons]
      simpa [List.append_assoc] using ih
    · refine Ev.ff (by simp <;> omega) ?_
      have : 12 - pre.length = 0 := by omega
      rw [this]; simpa using Ev.pure l
theorem file_ev (p0 : List S_Run) (hp : p0.length ≤ 9223372036854775807) : Ev (fun k => scriniumlaw06_file.f k p0) (fileF p0) := by
  have := file_loop p0 hp p0 [] [] rfl rfl (by simp)
  simpa [scriniumlaw06_file.f, fileF] using this
theorem awake_ev : Ev (fun k => scriniumlaw06_awake.f k) true := by
  refine ⟨10, fun k hk => ?_⟩
  obtain ⟨k, rfl⟩ : ∃ n, k = n + 10 := ⟨k - 10, by omega⟩
  rfl
end Go.Proofs.Ytmpnlafggebaiaa
