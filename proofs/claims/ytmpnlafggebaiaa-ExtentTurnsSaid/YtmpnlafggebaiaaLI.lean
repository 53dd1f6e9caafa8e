/- Arguments that came in: values without addresses, and slices of them, read as lists. No condition. -/
import Derived.Test.YtmpnlafggebaiaaLH
import Derived.Test.YtmpnlafggebaiaaRows
import Derived.WalkKit
import Derived.ProofKit
import Derived.OpenShut
import Derived.ShutString
import Derived.ChangeOld
import Derived.SizedLaws
import Derived.Deep.Slices
set_option linter.unusedVariables false
set_option linter.unusedSimpArgs false
namespace Go.Proofs.Ytmpnlafggebaiaa
open Go Go.WideShapes Go.ChangeShapes

inductive LK where
  | int (k : IntKind)
  | bool
  | str
def okL : List LK → List Value → Prop
  | [], cs => cs = []
  | .int k :: ks, .int k' n :: cs => k' = k ∧ (Lit.int k n).wf = true ∧ okL ks cs
  | .bool :: ks, .bool _ :: cs => okL ks cs
  | .str :: ks, .string s :: cs => s.size ≤ maxLen ∧ okL ks cs
  | _ :: _, _ => False
theorem okL_append : ∀ (ks ls : List LK) (cs ds : List Value), okL ks cs → okL ls ds → okL (ks ++ ls) (cs ++ ds)
  | [], ls, cs, ds, h, h' => by simp only [okL] at h; subst h; simpa using h'
  | .int k :: ks, ls, c :: cs, ds, h, h' => by
    cases c <;> simp only [okL] at h
    exact ⟨h.1, h.2.1, okL_append ks ls cs ds h.2.2 h'⟩
  | .bool :: ks, ls, c :: cs, ds, h, h' => by
    cases c <;> simp only [okL] at h
    exact okL_append ks ls cs ds h h'
  | .str :: ks, ls, c :: cs, ds, h, h' => by
    cases c <;> simp only [okL] at h
    exact ⟨h.1, okL_append ks ls cs ds h.2 h'⟩
  | .int _ :: _, _, [], _, h, _ => by simp [okL] at h
  | .bool :: _, _, [], _, h, _ => by simp [okL] at h
  | .str :: _, _, [], _, h, _ => by simp [okL] at h
mutual
def flatSh (P : Program) : Nat → TypeId → Option (List LK)
  | 0, _ => none
  | d + 1, t => match P.underlying t with
    | some .bool => some [.bool]
    | some (.int k) => some [.int k]
    | some .string => some [.str]
    | some (.struct fs) => match flatFs P d 0 fs.toList with
      | some (ks, n) => if n = P.cellsOf t then some ks else none
      | none => none
    | some (.array n e) => match flatSh P d e with
      | some ks => if n * P.cellsOf e = P.cellsOf t ∧ 0 < P.cellsOf e then some (List.replicate n ks).flatten else none
      | none => none
    | _ => none
def flatFs (P : Program) : Nat → Nat → List Field → Option (List LK × Nat)
  | 0, _, _ => none
  | _ + 1, off, [] => some ([], off)
  | d + 1, off, f :: fs => if f.offset = off then
      match flatSh P d f.type, flatFs P d (off + P.cellsOf f.type) fs with
      | some ks, some (ls, n) => some (ks ++ ls, n)
      | _, _ => none
    else none
end
section
variable {H : Type} {enc : TypeId × Value → H} {P : Program} {w : World} {base : Nat} {spare : Nat → Bool} {held : Bool}
mutual
theorem open_flat : ∀ (d fuel : Nat) (t : TypeId) (ks : List LK) (cs : List Value) (x : DataW H × List MemPlace), flatSh P d t = some ks → DataW.trod enc P w base spare held fuel t cs = some x → okL ks cs
  | 0, _, _, _, _, _, h, _ => by simp [flatSh] at h
  | d + 1, fuel, t, ks, cs, x, h, hx => by
    simp only [flatSh] at h
    split at h
    · rename_i hu
      cases h
      cases fuel with
      | zero => simp [DataW.trod] at hx
      | succ fuel =>
      simp only [DataW.trod, hu] at hx
      split at hx <;> (try (cases hx; done))
      all_goals first | rfl | (rename_i he; cases he; simp [okL]) | simp_all [okL]
    · rename_i k hu
      cases h
      obtain ⟨n, rfl, _, hw⟩ := DataW.trod_int hu hx
      exact ⟨rfl, hw, rfl⟩
    · rename_i hu
      cases h
      cases fuel with
      | zero => simp [DataW.trod] at hx
      | succ fuel =>
      simp only [DataW.trod, hu] at hx
      split at hx <;> simp_all [okL]
    · rename_i fs hu
      split at h
      · rename_i ls n hf
        split at h
        · rename_i hn
          cases h
          obtain ⟨xs, m, rfl, _, hl, hlen, hm⟩ := DataW.trod_struct hu hx
          refine open_flatFs d m 0 fs.toList ks n cs hf (by omega) (fun i f hi => ?_)
          have hi' : fs[i]? = some f := by simpa using hi
          have hlt : i < xs.length := by rw [hlen]; exact (Array.getElem?_eq_some_iff.1 hi').1
          exact ⟨xs[i], by rw [hm i f hi', List.getElem?_eq_getElem hlt]⟩
        · cases h
      · cases h
    · rename_i n e hu
      split at h
      · rename_i ls hf
        split at h
        · rename_i hn
          cases h
          obtain ⟨xs, m, rfl, _, hl, hlen, hm⟩ := DataW.trod_array hu hx
          have step : ∀ k, k ≤ n → okL (List.replicate k ls).flatten (cs.take (k * P.cellsOf e)) := by
            intro k
            induction k with
            | zero => intro _; simp [okL]
            | succ k ih =>
              intro hk
              have a1 := ih (by omega)
              have hlt : k < xs.length := by omega
              have a2 := open_flat d m e ls _ xs[k] hf (by rw [hm k (by omega), List.getElem?_eq_getElem hlt])
              have e1 : cs.take ((k + 1) * P.cellsOf e) = cs.take (k * P.cellsOf e) ++ (cs.drop (k * P.cellsOf e)).take (P.cellsOf e) := by
                rw [Nat.add_mul, Nat.one_mul, List.take_add]
              rw [e1, List.replicate_succ', List.flatten_append]
              simpa using okL_append _ _ _ _ a1 a2
          have := step n (Nat.le_refl _)
          rwa [hn.1, ← hl, List.take_length] at this
        · cases h
      · cases h
    · cases h
theorem open_flatFs : ∀ (d fuel off : Nat) (fs : List Field) (ks : List LK) (n : Nat) (cs : List Value), flatFs P d off fs = some (ks, n) → cs.length = n →
    (∀ (i : Nat) f, fs[i]? = some f → ∃ y, DataW.trod enc P w base spare held fuel f.type ((cs.drop f.offset).take (P.cellsOf f.type)) = some y) → okL ks (cs.drop off)
  | 0, _, _, _, _, _, _, h, _, _ => by simp [flatFs] at h
  | d + 1, fuel, off, [], ks, n, cs, h, hl, _ => by
    simp only [flatFs, Option.some.injEq, Prod.mk.injEq] at h
    obtain ⟨rfl, rfl⟩ := h
    simp [okL, ← hl]
  | d + 1, fuel, off, f :: fs, ks, n, cs, h, hl, hm => by
    simp only [flatFs] at h
    split at h
    · rename_i ho
      split at h
      · rename_i k1 k2 n2 h1 h2
        cases h
        obtain ⟨y, hy⟩ := hm 0 f rfl
        have a1 := open_flat d fuel f.type _ _ y h1 hy
        have a2 := open_flatFs d fuel _ fs _ _ cs h2 hl (fun i g hi => hm (i + 1) g hi)
        rw [ho] at a1
        have e : cs.drop off = (cs.drop off).take (P.cellsOf f.type) ++ cs.drop (off + P.cellsOf f.type) := by
          rw [← List.drop_drop, List.take_append_drop]
        rw [e]
        exact okL_append _ _ _ _ a1 a2
      · cases h
    · cases h
end
/-- A slice of flat elements that came in: the list it holds. -/
theorem open_list {α : Type} (F : Flat α) (wf : α → Prop) {t e : TypeId} {d : Nat} {ks : List LK} (hF : ∀ cs, okL ks cs → ∃ x, cs = F.cells x ∧ wf x)
    (ht : P.underlying t = some (.slice e)) (hk : flatSh P d e = some ks) (hc : P.cellsOf e = F.sz) {fuel : Nat} {v : Value} {x : DataW H × List MemPlace}
    (hv : ∃ a len cap, v = .slice a len cap) (h : DataW.trod enc P w base (fun _ => true) held fuel t v.cells.toList = some x) :
    ∃ l : List α, Rds v l.length F.sz (l.flatMap F.cells) w ∧ l.length ≤ 9223372036854775807 ∧ ∀ x ∈ l, wf x := by
  obtain ⟨a0, n0, c0, rfl⟩ := hv
  rcases Go.Deep.open_slice ht h with ⟨h0, _⟩ | ⟨a, len, cap, m, n, D, Pl, hcs, hb, hl, hm, hmm, _, hel⟩
  · simp [Value.cells] at h0
    obtain ⟨rfl, rfl, rfl⟩ := h0
    exact ⟨[], ⟨by simp, none, 0, rfl, Nat.le_refl _, by omega, fun _ => rfl, by simp⟩, by simp, by simp⟩
  · simp [Value.cells] at hcs
    obtain ⟨rfl, rfl, rfl⟩ := hcs
    have hm' : n0 ≤ m := by rw [hmm]; split <;> omega
    have one : ∀ i, i < n0 → ∃ y : α, w.cells? base (a.add (i * F.sz)) F.sz = some (F.cells y) ∧ wf y := by
      intro i hi
      obtain ⟨cs', h1, h2⟩ := hel i (by omega)
      rw [hc] at h1
      obtain ⟨y, rfl, hy⟩ := hF cs' (open_flat d n e ks cs' _ hk h2)
      exact ⟨y, h1, hy⟩
    haveI : Inhabited α := ⟨F.dflt⟩
    obtain ⟨f, hf⟩ := Go.Deep.choose_lt one
    have hlen : ∀ k, ((List.range k).map f).length = k := by simp
    have hfm : ∀ k, (((List.range k).map f).flatMap F.cells).length = k * F.sz := by
      intro k
      induction k with
      | zero => simp
      | succ k ih => rw [List.range_succ, List.map_append, List.flatMap_append, List.length_append, ih]; simp [F.len, Nat.add_mul]
    refine ⟨(List.range n0).map f, ⟨by rw [hfm, hlen], some a, c0, by rw [hlen], by rw [hlen]; exact hl, by unfold maxLen at hm; omega, by simp, ?_⟩, by rw [hlen]; unfold maxLen at hm; omega, ?_⟩
    · have walk : ∀ k, k ≤ n0 → ∀ j u, (((List.range k).map f).flatMap F.cells)[j]? = some u → w.cell? (a.add j) = some u := by
        intro k
        induction k with
        | zero => intro _ j u hu; simp at hu
        | succ k ih =>
          intro hk j u hu
          rw [List.range_succ, List.map_append, List.flatMap_append] at hu
          by_cases hj : j < k * F.sz
          · rw [List.getElem?_append_left (by rw [hfm]; exact hj)] at hu
            exact ih (by omega) j u hu
          · rw [List.getElem?_append_right (by rw [hfm]; omega), hfm] at hu
            simp only [List.map_cons, List.map_nil, List.flatMap_cons, List.flatMap_nil, List.append_nil] at hu
            obtain ⟨hc1, _⟩ := hf k (by omega)
            obtain ⟨_, hcl, hce⟩ := World.cells?_some hc1
            have hlt := (List.getElem?_eq_some_iff.1 hu).1
            rw [F.len] at hlt
            have := hce (j - k * F.sz) hlt
            rw [hu, Go.Deep.add_add] at this
            rw [← this]; congr 2; omega
      intro j u hu
      exact ⟨a, rfl, walk n0 (Nat.le_refl _) j u hu⟩
    · intro y hy
      simp only [List.mem_map, List.mem_range] at hy
      obtain ⟨i, hi, rfl⟩ := hy
      exact (hf i hi).2
end
theorem okWide_agg {P : Program} {w : World} {r : Reach} {base : Nat} {t : TypeId} {v : Value} (ht : (match P.underlying t with | some (.struct _) => true | some (.array _ _) => true | _ => false) = true) (h : Value.okWide P w r base t v) : ∃ cs, v = .agg cs := by
  unfold Value.okWide at h
  split at h
  · obtain ⟨cs, h1, _⟩ := h; exact ⟨cs, h1⟩
  · obtain ⟨cs, h1, _⟩ := h; exact ⟨cs, h1⟩
  · rename_i h1 h2
    split at ht
    · rename_i fs e; exact absurd e (h1 fs)
    · rename_i a b e; exact absurd e (h2 a b)
    · cases ht
theorem agg_of_list {cs : Array Value} {l : List Value} (h : (Value.agg cs).cells.toList = l) : Value.agg cs = .agg l.toArray := by
  subst h; simp [Value.cells]
abbrev I64 (n : Int) : Prop := -9223372036854775808 ≤ n ∧ n ≤ 9223372036854775807
theorem of_wf {n : Int} (h : (Lit.int .i64 n).wf = true) : I64 n := Go.bounds_i64 h
theorem okL_i64 (cs : List Value) (h : okL [.int .i64] cs) : ∃ x, cs = FI.cells x ∧ I64 x := by
  match cs, h with
  | .int k n :: cs, h => obtain ⟨rfl, h2, h3⟩ := h; simp only [okL] at h3; subst h3; exact ⟨n, rfl, of_wf h2⟩
theorem okL_u8 (cs : List Value) (h : okL [.int .u8] cs) : ∃ x, cs = FU8.cells x ∧ 0 ≤ x ∧ x ≤ 255 := by
  match cs, h with
  | .int k n :: cs, h => obtain ⟨rfl, h2, h3⟩ := h; simp only [okL] at h3; subst h3; exact ⟨n, rfl, Go.bounds_u8 h2⟩
theorem okL_bool (cs : List Value) (h : okL [.bool] cs) : ∃ x, cs = FB.cells x ∧ True := by
  match cs, h with
  | .bool b :: cs, h => simp only [okL] at h; subst h; exact ⟨b, rfl, trivial⟩
theorem okL_str (cs : List Value) (h : okL [.str] cs) : ∃ x, cs = FS.cells x ∧ x.size ≤ 9223372036854775807 := by
  match cs, h with
  | .string b :: cs, h => obtain ⟨h2, h3⟩ := h; simp only [okL] at h3; subst h3; exact ⟨b, rfl, h2⟩
end Go.Proofs.Ytmpnlafggebaiaa
