/- Texts of the proof, put together: part 10. No condition. -/
import Derived.Test.YtlidgpepppjeiaaDoorT9
/- A journal is made and opened: the calls' answers. No condition. -/
set_option linter.unusedVariables false
set_option linter.unusedSimpArgs false
namespace Go.Proofs.YtlidgpepppjeiaaDoor
open Go
theorem blank_ok : strOfNums (lrep 256 (0 : Int)) = noneS := rfl
theorem jopen_arg {b n : Int} {on armed : Bool} {left steps : Int} {lies : List ByteArray} {cache : List Put} (hl : lies.length ≤ 65536) (h : ¬ (0 ≤ b ∧ 4 ≤ n ∧ n ≤ 65536 ∧ b ≤ (lies.length : Int) - n)) :
    redo_Open 1000 (b, n, on, armed, left, steps, vgl_check_table, lies, cache) = some (.inl (1, on, armed, left, steps, lies, cache)) := by
  unfold redo_Open
  simp only
  rw [fits_ok hl, decide_eq_false h]
  rfl
theorem format_arg {b n : Int} {on armed : Bool} {left steps : Int} {lies : List ByteArray} {cache : List Put} (hl : lies.length ≤ 65536) (h : ¬ (0 ≤ b ∧ 4 ≤ n ∧ n ≤ 65536 ∧ b ≤ (lies.length : Int) - n)) :
    redo_Format 1000 (b, n, on, armed, left, steps, vgl_check_table, lies, cache) = some (1, on, armed, left, steps, lies, cache) := by
  unfold redo_Format
  simp only
  rw [fits_ok hl, decide_eq_false h]
  rfl
theorem open_form {b n : Nat} {armed : Bool} {left steps : Int} {lies : List ByteArray} (h4 : 4 ≤ n) (h6 : n ≤ 64) (hb : b + n ≤ lies.length) (hl : lies.length ≤ 65536)
    {p s : Int} {all : List (List Put)} (hs : redo_Scan 1000 (regL lies b n, vgl_check_table) = some (p, s, false, all)) :
    redo_Open 1000 (b, n, true, armed, left, steps, vgl_check_table, lies, []) = some (.inl (10, true, armed, left, steps, lies, [])) := by
  unfold redo_Open
  simp only
  rw [fits_ok hl, decide_eq_true ⟨by omega, by omega, by omega, by omega⟩]
  simp only [Option.bind_some, Bool.not_true, condO_false]
  refine bind_of (a := .inr (regL lies b n)) (open_read h4 h6 hb hl (fun i h => rfl)) ?_
  simp only [caseS_inr]
  refine bind_of hs ?_
  simp only [Bool.not_false, condO_true]
theorem open_none {b n p : Nat} {left steps : Int} {lies : List ByteArray} (h4 : 4 ≤ n) (h6 : n ≤ 64) (hb : b + n ≤ lies.length) (hl : lies.length ≤ 65536)
    {s : Int} (hs : redo_Scan 1000 (regL lies b n, vgl_check_table) = some ((p : Int), s, true, [])) (hp : p < n - 1) :
    ∃ st, redo_Open 1000 (b, n, true, false, left, steps, vgl_check_table, lies, []) = some (.inr (0, true, false, left, st, (b : Int), (n : Int), (p : Int), s, 0, false, lies.set (b + 1 + p) noneS, [])) := by
  obtain ⟨st, hw⟩ := writes_on (left := left) (steps := steps) (lies := lies) (cache := []) (puts := [(((b + 1 + p : Nat) : Int), noneS)]) true (fun q hq => by
    obtain rfl := List.mem_singleton.1 hq
    exact ⟨by simp only; omega, by simp only; omega, none_size⟩) (by omega) (by simp) (fun q hq => by cases hq)
  refine ⟨st, ?_⟩
  unfold redo_Open
  simp only
  rw [fits_ok hl, decide_eq_true ⟨by omega, by omega, by omega, by omega⟩]
  simp only [Option.bind_some, Bool.not_true, condO_false]
  refine bind_of (a := .inr (regL lies b n)) (open_read h4 h6 hb hl (fun i h => rfl)) ?_
  simp only [caseS_inr]
  refine bind_of hs ?_
  simp only [Bool.not_true, condO_false, show igt (llen ([] : List (List Put))) 0 = false from rfl, Option.bind_some, caseS_inr, blank_ok]
  rw [guardO_pos (by decide), wk_i64 (x := (b : Int) + 1) (by omega) (by omega), wk_i64 (x := (b : Int) + 1 + p) (by omega) (by omega), show (b : Int) + 1 + p = ((b + 1 + p : Nat) : Int) by omega]
  refine bind_of hw ?_
  simp only [show ine 0 0 = false from rfl, condO_false, if_true, List.nil_append, settle, List.foldl_cons, List.foldl_nil, setD, Int.toNat_natCast]
def hdB (p s : Int) : ByteArray := lineB (headT p s)
theorem secL_le {l : List UInt8} (hl : l.length ≤ 254) (h2 : (putL l.length ++ l).length ≤ 256) : (secL l).length = 256 := by
  simp only [secL, List.length_append, List.length_replicate] at h2 ⊢; omega
theorem line_size {t : List UInt8} (h : t.length ≤ 240) : (lineB t).size = 256 := by
  have h2 : (putL (sealL t).length ++ sealL t).length ≤ 256 := by
    rw [List.length_append]
    have := putL_le (x := (sealL t).length) (by rw [sealL_len]; omega)
    rw [sealL_len] at this ⊢
    omega
  unfold lineB secB
  rw [if_neg (by omega)]
  show (mkB (secL (sealL t))).size = 256
  rw [mkB_size, secL_le (by rw [sealL_len]; omega) h2]
theorem format_ok {b n : Nat} {left steps : Int} {lies : List ByteArray} (h4 : 4 ≤ n) (hb : b + n ≤ lies.length) (hl : lies.length ≤ 65536) :
    ∃ st, redo_Format 1000 (b, n, true, false, left, steps, vgl_check_table, lies, []) = some (0, true, false, left, st, (lies.set b (hdB 0 1)).set (b + 1) noneS, []) := by
  have hsz : (hdB 0 1).size = 256 := line_size (Nat.le_trans (headT_len 0 1) (by decide))
  obtain ⟨st, hw⟩ := writes_on (left := left) (steps := steps) (lies := lies) (cache := []) (puts := [((b : Int), hdB 0 1), (((b + 1 : Nat) : Int), noneS)]) true (fun q hq => by
    simp only [List.mem_cons, List.not_mem_nil, or_false] at hq
    rcases hq with rfl | rfl
    · exact ⟨by simp only; omega, by simp only; omega, hsz⟩
    · exact ⟨by simp only; omega, by simp only; omega, none_size⟩) (by omega) (by simp) (fun q hq => by cases hq)
  refine ⟨st, ?_⟩
  have h1 := kput_le 0 65535 (by decide)
  have h2 := kput_le 1 1099511627776 (by decide)
  unfold redo_Format
  simp only
  rw [fits_ok hl, decide_eq_true ⟨by omega, by omega, by omega, by omega⟩]
  simp only [Option.bind_some, Bool.not_true, condO_false]
  rw [cput16, cput40]
  simp only [Option.bind_some, kind3]
  rw [guardO_pos (catOk_small (by decide) (by omega))]
  simp only [mkB_app]
  rw [guardO_pos (catOk_small (by simp only [List.length_append, List.length_cons, List.length_nil]; omega) (by omega)), line_ok (t := [83, 67, 72] ++ putL (kpn 0 65535) ++ putL (kpn 1 1099511627776)) (Nat.le_trans (headT_len 0 1) (by decide)), guardO_pos (by decide), wk_i64 (x := (b : Int) + 1) (by omega) (by omega), show (b : Int) + 1 = ((b + 1 : Nat) : Int) by omega, blank_ok]
  refine bind_of hw ?_
  simp only [if_true, List.nil_append, settle, List.foldl_cons, List.foldl_nil, setD, Int.toNat_natCast]
theorem none_head : redo_text 1000 (noneS, ⟨#[83, 67, 72]⟩, vgl_check_table) = some (.inl ()) := by kernel_rfl
theorem none_first : redo_text 1000 (noneS, ⟨#[83, 67, 68]⟩, vgl_check_table) = some (.inl ()) := by kernel_rfl
theorem num_none {n : Int} (h : 0 ≤ n) (h2 : n ≤ 9223372036854775807) : octet_Scan_Num_2 1000 n = some 0 := by
  have e : octet_Scan_Long_2 1000 () = some 0 := by kernel_rfl
  unfold octet_Scan_Num_2
  rw [e]
  simp only [Option.bind_some]
  rw [ilt_f h, condO_false, wk_u64 (by omega) (by omega), igt_f h, condO_false]
  rfl
theorem found_none {p s : Int} {l : List ByteArray} (h0 : 0 ≤ p) (hp : p < l.length) (hn : l.getD p.toNat str0 = noneS) : redo_slots_found 1000 (p, s, l, vgl_check_table) = some [] := by
  unfold redo_slots_found
  have ht : Int.tmod p (llen l) = p := by rw [Int.tmod_eq_emod_of_nonneg h0]; exact Int.emod_eq_of_lt h0 hp
  have ha : at_ .str l p = noneS := hn
  simp only [ht, ha]
  rw [guardO_pos (by unfold nz llen; omega), guardO_pos ⟨h0, hp⟩, none_first]
  simp only [Option.bind_some, caseS_inl]
  rw [num_none (by decide) (by decide)]
  simp only [Option.bind_some]
  rw [num_none (by decide) (by decide)]
  rfl
theorem scan_none {l : List ByteArray} (h : 4 ≤ l.length) (hn : l.getD 0 str0 = noneS) : redo_Scan 1000 (l, vgl_check_table) = some (0, 0, false, []) := by
  unfold redo_Scan
  have ha : at_ .str l 0 = noneS := hn
  simp only [ha]
  rw [ilt_f (by unfold llen; omega), condO_false, guardO_pos ⟨by decide, by unfold llen; omega, Int.le_refl _, rfl⟩, guardO_pos ⟨by decide, by unfold llen; omega⟩, none_head]
  simp only [Option.bind_some, caseS_inl]
  rw [num_none (by decide) (by decide)]
  simp only [Option.bind_some]
  rw [num_none (by decide) (by decide)]
  rfl
theorem scan_new {l : List ByteArray} (h : 4 ≤ l.length) (hh : l.getD 0 str0 = hdB 0 1) (hn : l.getD 1 str0 = noneS) : redo_Scan 1000 (l, vgl_check_table) = some (0, 1, true, []) := by
  have e1 : redo_text 1000 (hdB 0 1, ⟨#[83, 67, 72]⟩, vgl_check_table) = some (.inr (⟨#[0, 1, 1]⟩, false)) := by kernel_rfl
  have e2 : octet_Scan_Num 1000 (65535, ⟨#[0, 1, 1]⟩, false) = some (0, ⟨#[1, 1]⟩, false) := by kernel_rfl
  have e3 : octet_Scan_Num 1000 (549755813888, ⟨#[1, 1]⟩, false) = some (1, ⟨#[]⟩, false) := by kernel_rfl
  unfold redo_Scan
  have ha : at_ .str l 0 = hdB 0 1 := hh
  simp only [ha]
  rw [ilt_f (by unfold llen; omega), condO_false, guardO_pos ⟨by decide, by unfold llen; omega, Int.le_refl _, rfl⟩, guardO_pos ⟨by decide, by unfold llen; omega⟩, e1]
  simp only [Option.bind_some, caseS_inr, e2, e3]
  have hd : (ldrop 1 l).length = l.length - 1 := by unfold ldrop; rw [List.length_drop]; rfl
  have hf : redo_slots_found 1000 (0, 1, ldrop 1 l, vgl_check_table) = some [] := by
    refine found_none (by decide) (by omega) ?_
    show (l.drop (1 : Int).toNat).getD 0 str0 = noneS
    rw [← hn]
    simp [List.getD_eq_getElem?_getD]
  have hs : sEq (⟨#[]⟩ : ByteArray) str0 = true := rfl
  simp only [Bool.not_false, Bool.not_true, condO_false, hs, show ine 0 0 = false from rfl]
  rw [ige_f (by unfold llen; omega), condO_false, ilt_f (by decide), condO_false]
  simp only [Option.bind_some, caseS_inr]
  refine bind_of (a := (0, 1, [])) ?_ rfl
  refine loopK_run (fun _ : Nat => ((0 : Int), (1 : Int), (0 : Int), ([] : List (List Put)))) 0 _ 1000 (fun i hi => by omega) ?_ (by decide)
  simp only [hf, Option.bind_some]
  rfl
end Go.Proofs.YtlidgpepppjeiaaDoor
/- The plain law of RedoMakes. No condition. -/
set_option linter.unusedVariables false
set_option linter.unusedSimpArgs false
namespace Go.Proofs.YtlidgpepppjeiaaDoor
open Go
def RedoMakesPure : Prop := ∀ (z0 : Ty.den (.int .i64)) (z1 : Ty.den (.int .i64)), wfT (.int .i64) z0 → wfT (.int .i64) z1 → ∃ k, law07_RedoMakes k (z0, z1, vgl_check_table) = some true
theorem redoMakes_law : RedoMakesPure := by
  intro b n _ _
  refine ⟨1000, ?_⟩
  have aw : law07_awake 1000 vgl_check_table = some true := by kernel_rfl
  obtain ⟨b, rfl⟩ : ∃ b' : Int, b' = b := ⟨b, rfl⟩
  obtain ⟨n, rfl⟩ : ∃ n' : Int, n' = n := ⟨n, rfl⟩
  have hl : (List.replicate 20 noneS).length ≤ 65536 := by simp
  have er : slices_Repeat 1000 (mnI (mxI 20 1) 65536, [noneS]) = some (List.replicate 20 noneS) := rep_lies 20 (by decide) (by decide) noneS
  unfold law07_RedoMakes
  refine bind_of aw ?_
  refine bind_of rep256 ?_
  refine bind_of er ?_
  by_cases hf : 0 ≤ b ∧ 4 ≤ n ∧ n ≤ 65536 ∧ b ≤ (((List.replicate 20 noneS).length : Nat) : Int) - n
  · have hf' := hf
    rw [List.length_replicate] at hf'
    obtain ⟨h1, h2, _, h4⟩ := hf'
    obtain ⟨B, rfl⟩ := Int.eq_ofNat_of_zero_le h1
    obtain ⟨N, rfl⟩ : ∃ m : Nat, n = (m : Int) := ⟨n.toNat, by omega⟩
    have hN : 4 ≤ N := by omega
    have hb : B + N ≤ (List.replicate 20 noneS).length := by rw [List.length_replicate]; omega
    have hb20 : B + N ≤ 20 := by omega
    have hrep : ∀ i, i < 20 → (List.replicate 20 noneS).getD i str0 = noneS := fun i hi => by
      rw [List.getD_eq_getElem?_getD, List.getElem?_replicate, if_pos hi]; rfl
    have o1 := fun (left steps : Int) => open_form (b := B) (n := N) (armed := false) (left := left) (steps := steps) hN (by omega) hb hl (scan_none (by rw [regL_len]; exact hN) (by rw [regL_at _ _ _ _ (by omega)]; exact hrep _ (by omega)))
    rw [ige_t h1, condO_true, ile_t (show ((B : Nat) : Int) ≤ 16 by omega), condO_true, ige_t h2, condO_true, o1 0 0]
    simp only [Option.bind_some, caseS_inl]
    obtain ⟨st, o2⟩ := format_ok (b := B) (n := N) (left := 0) (steps := 0) hN hb hl
    rw [o2]
    simp only [Option.bind_some]
    have hl2 : ((List.replicate 20 noneS).set B (hdB 0 1)).set (B + 1) noneS = (List.replicate 20 noneS).set B (hdB 0 1) := by
      apply List.ext_getElem?
      intro i
      simp only [List.getElem?_set, List.length_set, List.length_replicate, List.getElem?_replicate]
      by_cases h : B + 1 = i
      · subst h; rw [if_pos rfl, if_pos (by omega), if_neg (by omega)]
      · rw [if_neg h]
    obtain ⟨st2, o3⟩ := open_none (b := B) (n := N) (p := 0) (left := 0) (steps := st) (lies := ((List.replicate 20 noneS).set B (hdB 0 1)).set (B + 1) noneS) (s := 1) hN (by omega) (by simpa using hb20) (by simp) (scan_new (by rw [regL_len]; exact hN)
      (by rw [regL_at _ _ _ _ (by omega), hl2, getD_set (by rw [List.length_replicate]; omega), if_pos (by omega)])
      (by rw [regL_at _ _ _ _ (by omega), getD_set (by rw [List.length_set, List.length_replicate]; omega), if_pos rfl])) (by omega)
    rw [o3]
    simp only [Option.bind_some, caseS_inr]
    rw [wk_i64 (by omega) (by omega), ile_t (show ((N : Nat) : Int) ≤ 20 - (B : Int) by omega)]
    rfl
  · have a1 := fun (left steps : Int) => jopen_arg (on := true) (armed := false) (left := left) (steps := steps) (cache := []) hl hf
    have a2 := fun (left steps : Int) => format_arg (on := true) (armed := false) (left := left) (steps := steps) (cache := []) hl hf
    rw [a1 0 0]
    simp only [Option.bind_some, caseS_inl]
    rw [a2 0 0]
    simp only [Option.bind_some]
    rw [a1 0 0]
    simp only [Option.bind_some, caseS_inl, condO_true, show ieq 1 1 = true from rfl]
    rw [List.length_replicate] at hf
    by_cases g1 : 0 ≤ b
    · rw [ige_t g1, condO_true]
      by_cases g2 : b ≤ 16
      · rw [ile_t g2, condO_true]
        by_cases g3 : 4 ≤ n
        · rw [ige_t g3, condO_true, wk_i64 (by omega) (by omega), ile_f (show 20 - b < n by omega)]
          rfl
        · rw [ige_f (by omega), condO_false]
      · rw [ile_f (by omega), condO_false]
    · rw [ige_f (by omega), condO_false]
end Go.Proofs.YtlidgpepppjeiaaDoor
