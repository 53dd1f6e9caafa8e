/- Plain laws of free lists: runs in order, apart from one another; one given into them. No condition. -/
import Derived.Test.YtmpnlafggebaiaaLPc
set_option linter.unusedVariables false
set_option linter.unusedSimpArgs false
namespace Go.Proofs.Ytmpnlafggebaiaa
open Go
instance (x : S_Run) : Decidable (Ok1 x) := by unfold Ok1; infer_instance
abbrev endR (x : S_Run) : Int := x.f_At + x.f_N
/-- Runs in order, each behind lo, no two that touch. -/
def Fre : Int → List S_Run → Prop
  | _, [] => True
  | lo, x :: r => Ok1 x ∧ lo < x.f_At ∧ Fre (endR x) r
def freB : Int → List S_Run → Bool
  | _, [] => true
  | lo, x :: r => decide (Ok1 x) && (decide (lo < x.f_At) && freB (endR x) r)
theorem freB_iff : ∀ (lo : Int) (l : List S_Run), freB lo l = true ↔ Fre lo l
  | _, [] => by simp [freB, Fre]
  | lo, x :: r => by simp [freB, Fre, freB_iff (endR x) r]
def endOf : Int → List S_Run → Int
  | lo, [] => lo
  | _, x :: r => endOf (endR x) r
theorem Fre_app : ∀ (lo : Int) (a b : List S_Run), Fre lo (a ++ b) ↔ Fre lo a ∧ Fre (endOf lo a) b
  | lo, [], b => by simp [Fre, endOf]
  | lo, x :: a, b => by simp [Fre, endOf, Fre_app (endR x) a b, and_assoc]
theorem endOf_snoc : ∀ (lo : Int) (a : List S_Run) (x : S_Run), endOf lo (a ++ [x]) = endR x
  | _, [], _ => rfl
  | _, y :: a, x => by simp only [List.cons_append, endOf]; exact endOf_snoc _ a x
theorem Fre.mono {lo lo' : Int} {l : List S_Run} (h : Fre lo l) (hl : lo' ≤ lo) : Fre lo' l := by
  cases l with
  | nil => trivial
  | cons x r => exact ⟨h.1, by have := h.2.1; omega, h.2.2⟩
theorem Fre.ok : ∀ {lo : Int} {l : List S_Run}, Fre lo l → OkR l
  | _, [], _ => by intro x hx; simp at hx
  | _, x :: r, h => by
    intro y hy
    rcases List.mem_cons.1 hy with rfl | hy
    · exact h.1
    · exact Fre.ok h.2.2 y hy
theorem Fre.lt : ∀ {lo : Int} {l : List S_Run}, Fre lo l → ∀ x ∈ l, lo < x.f_At
  | _, [], _ => by intro x hx; simp at hx
  | _, x :: r, h => by
    intro y hy
    rcases List.mem_cons.1 hy with rfl | hy
    · exact h.2.1
    · have := Fre.lt h.2.2 y hy; have := h.2.1; have := h.1; unfold Ok1 at this; simp only [endR] at *; omega
/-- z is in one of the runs. -/
def InR (l : List S_Run) (z : Int) : Prop := ∃ x ∈ l, x.f_At ≤ z ∧ z < endR x
theorem InR_cons (x : S_Run) (l : List S_Run) (z : Int) : InR (x :: l) z ↔ (x.f_At ≤ z ∧ z < endR x) ∨ InR l z := by simp [InR]
theorem InR_app (a b : List S_Run) (z : Int) : InR (a ++ b) z ↔ InR a z ∨ InR b z := by
  simp only [InR, List.mem_append]
  constructor
  · rintro ⟨x, h | h, k⟩
    · exact .inl ⟨x, h, k⟩
    · exact .inr ⟨x, h, k⟩
  · rintro (⟨x, h, k⟩ | ⟨x, h, k⟩)
    · exact ⟨x, .inl h, k⟩
    · exact ⟨x, .inr h, k⟩
theorem InR_nil (z : Int) : ¬ InR [] z := by simp [InR]
theorem Fre.in_lt {lo : Int} {l : List S_Run} (h : Fre lo l) {z : Int} (hz : InR l z) : lo < z := by
  obtain ⟨x, hx, h1, _⟩ := hz
  have := h.lt x hx; omega
theorem mem_adr (x : S_Run) (z : Int) : z ∈ adr x ↔ x.f_At ≤ z ∧ z < endR x := by
  simp only [adr, List.mem_map, List.mem_range, endR]
  constructor
  · rintro ⟨i, hi, rfl⟩; omega
  · rintro ⟨h1, h2⟩; exact ⟨(z - x.f_At).toNat, by omega, by omega⟩
theorem mem_allR (l : List S_Run) (z : Int) : z ∈ allR l ↔ InR l z := by
  simp only [allR, List.mem_flatMap, InR, mem_adr]
/-- A free list is told by the places in it. -/
theorem Fre_eq : ∀ (a b : List S_Run) (lo lo' : Int), Fre lo a → Fre lo' b → (∀ z, InR a z ↔ InR b z) → a = b
  | [], [], _, _, _, _, _ => rfl
  | [], y :: b, lo, lo', _, hb, h => by
    have hy := hb.1; unfold Ok1 at hy
    exact absurd ((h y.f_At).2 ⟨y, by simp, by omega, by simp only [endR]; omega⟩) (InR_nil _)
  | x :: a, [], lo, lo', ha, _, h => by
    have hx := ha.1; unfold Ok1 at hx
    exact absurd ((h x.f_At).1 ⟨x, by simp, by omega, by simp only [endR]; omega⟩) (InR_nil _)
  | x :: a, y :: b, lo, lo', ha, hb, h => by
    have hx := ha.1; have hy := hb.1; unfold Ok1 at hx hy
    have low : ∀ (u v : S_Run) (r : List S_Run), Fre (endR v) r → 0 ≤ v.f_N → InR (v :: r) u.f_At → v.f_At ≤ u.f_At := by
      intro u v r hr hv hi
      rcases (InR_cons _ _ _).1 hi with h1 | h1
      · exact h1.1
      · have := hr.in_lt h1; simp only [endR] at this; omega
    have e1 : x.f_At = y.f_At := by
      have a1 := low x y b hb.2.2 (by omega) ((h x.f_At).1 ⟨x, by simp, by omega, by simp only [endR]; omega⟩)
      have a2 := low y x a ha.2.2 (by omega) ((h y.f_At).2 ⟨y, by simp, by omega, by simp only [endR]; omega⟩)
      omega
    have top : ∀ (u v : S_Run) (r s : List S_Run), Fre (endR u) r → u.f_At = v.f_At → 1 ≤ u.f_N → (∀ z, InR (v :: s) z → InR (u :: r) z) → v.f_N ≤ u.f_N := by
      intro u v r s hr he hu hi
      rcases Int.lt_or_le u.f_N v.f_N with hlt | hle
      · have := hi (endR u) ⟨v, by simp, by simp only [endR]; omega, by simp only [endR]; omega⟩
        rcases (InR_cons _ _ _).1 this with h1 | h1
        · exact absurd h1.2 (by simp only [endR]; omega)
        · have := hr.in_lt h1; omega
      · exact hle
    have e2 : x.f_N = y.f_N := by
      have a1 := top x y a b ha.2.2 e1 (by omega) (fun z => (h z).2)
      have a2 := top y x b a hb.2.2 e1.symm (by omega) (fun z => (h z).1)
      omega
    have e : x = y := by cases x; cases y; simp only [S_Run.mk.injEq] at *; exact ⟨e1, e2⟩
    subst e
    rw [Fre_eq a b _ _ ha.2.2 hb.2.2 (fun z => ?_)]
    constructor
    · intro hz
      have h1 := ha.2.2.in_lt hz
      rcases (InR_cons _ _ _).1 ((h z).1 ((InR_cons _ _ _).2 (.inr hz))) with h2 | h2
      · omega
      · exact h2
    · intro hz
      have h1 := hb.2.2.in_lt hz
      rcases (InR_cons _ _ _).1 ((h z).2 ((InR_cons _ _ _).2 (.inr hz))) with h2 | h2
      · omega
      · exact h2
/-- One run put behind free ones that end before it, or where it begins. -/
theorem put_last {lo : Int} {a : List S_Run} {r : S_Run} (ha : Fre lo a) (hr : Ok1 r) (hlo : lo < r.f_At) (hend : endOf lo a ≤ r.f_At) :
    ∃ i q, joinF a [r] = i ++ [q] ∧ Fre lo (i ++ [q]) ∧ endR q = endR r ∧ (∀ z, InR (i ++ [q]) z ↔ InR a z ∨ InR [r] z) ∧ (i ++ [q]).length ≤ a.length + 1 := by
  have hr' := hr; unfold Ok1 at hr'
  rcases snoc_or a with rfl | ⟨i, x, rfl⟩
  · exact ⟨[], r, joinF_nil _, ⟨hr, hlo, trivial⟩, rfl, fun z => by simp [InR], by simp⟩
  · rw [endOf_snoc] at hend
    obtain ⟨h1, h2⟩ := (Fre_app _ _ _).1 ha
    have hx := h2.1; unfold Ok1 at hx
    rw [joinF_cons]
    by_cases e : x.f_At + x.f_N = r.f_At
    · rw [if_pos e]
      refine ⟨i, ⟨x.f_At, x.f_N + r.f_N⟩, rfl, (Fre_app _ _ _).2 ⟨h1, by unfold Ok1; simp only; omega, h2.2.1, trivial⟩, by simp only [endR]; omega, fun z => ?_, by simp⟩
      rw [InR_app, InR_app, or_assoc, InR_cons, InR_cons, InR_cons]
      simp only [InR_nil, or_false, endR]
      refine or_congr Iff.rfl ?_
      omega
    · rw [if_neg e]
      refine ⟨i ++ [x], r, rfl, (Fre_app _ _ _).2 ⟨ha, hr, by rw [endOf_snoc]; simp only [endR] at hend ⊢; omega, trivial⟩, rfl, fun z => InR_app _ _ _, by simp⟩
theorem put_mid {lo : Int} {i b : List S_Run} {q : S_Run} (hi : Fre lo (i ++ [q])) (hb : Fre lo b) (hf : ∀ y ∈ b, endR q ≤ y.f_At) :
    Fre lo (joinF (i ++ [q]) b) ∧ ∀ z, InR (joinF (i ++ [q]) b) z ↔ InR (i ++ [q]) z ∨ InR b z := by
  obtain ⟨h1, h2⟩ := (Fre_app _ _ _).1 hi
  have hq := h2.1; unfold Ok1 at hq
  cases b with
  | nil => rw [joinF_nil']; exact ⟨hi, fun z => by simp [InR_nil]⟩
  | cons y bs =>
    have hy := hb.1; unfold Ok1 at hy
    have hqy := hf y (by simp)
    rw [joinF_cons]
    by_cases e : q.f_At + q.f_N = y.f_At
    · rw [if_pos e]
      refine ⟨(Fre_app _ _ _).2 ⟨h1, by unfold Ok1; simp only; omega, h2.2.1, hb.2.2.mono (by simp only [endR]; omega)⟩, fun z => ?_⟩
      rw [InR_app, InR_app, or_assoc, InR_cons, InR_cons, InR_cons]
      simp only [InR_nil, or_false, endR]
      refine or_congr Iff.rfl ?_
      rw [← or_assoc]
      refine or_congr ?_ Iff.rfl
      omega
    · rw [if_neg e]
      refine ⟨(Fre_app _ _ _).2 ⟨hi, hb.1, by rw [endOf_snoc]; simp only [endR] at hqy ⊢; omega, hb.2.2⟩, fun z => InR_app _ _ _⟩
/-- Where a run belongs: those that begin before it. -/
def preR (r : S_Run) (l : List S_Run) : List S_Run := l.takeWhile fun x => decide (x.f_At < r.f_At)
def postR (r : S_Run) (l : List S_Run) : List S_Run := l.dropWhile fun x => decide (x.f_At < r.f_At)
theorem pre_post (r : S_Run) (l : List S_Run) : preR r l ++ postR r l = l := List.takeWhile_append_dropWhile
/-- It lies over one of them. -/
def over (r : S_Run) (l : List S_Run) : Bool := l.any fun x => decide (x.f_At < endR r) && decide (r.f_At < endR x)
def giveF (l : List S_Run) (r : S_Run) : List S_Run × Bool :=
  if freB (-1) l && decide (Ok1 r) then (if over r l then (l, false) else (joinF (joinF (preR r l) [r]) (postR r l), true)) else (l, false)
theorem post_ge : ∀ (r : S_Run) (l : List S_Run) (lo : Int), Fre lo l → ∀ x ∈ postR r l, r.f_At ≤ x.f_At
  | r, [], _, _ => by simp [postR]
  | r, y :: l, lo, h => by
    intro x hx
    unfold postR at hx
    rw [List.dropWhile_cons] at hx
    split at hx
    · exact post_ge r l _ h.2.2 x hx
    · rename_i hc
      have hc : ¬ y.f_At < r.f_At := by simpa using hc
      rcases List.mem_cons.1 hx with rfl | hx
      · omega
      · have := h.2.2.lt x hx; have := h.1; unfold Ok1 at this; simp only [endR] at *; omega
theorem pre_lt (r : S_Run) : ∀ (l : List S_Run), ∀ x ∈ preR r l, x.f_At < r.f_At
  | [], x, hx => by simp [preR] at hx
  | y :: l, x, hx => by
    unfold preR at hx
    rw [List.takeWhile_cons] at hx
    split at hx
    · rename_i hy
      rcases List.mem_cons.1 hx with rfl | hx
      · simpa using hy
      · exact pre_lt r l x hx
    · simp at hx
theorem over_iff (r : S_Run) (l : List S_Run) (hr : Ok1 r) (hl : OkR l) : over r l = true ↔ ∃ z, InR l z ∧ r.f_At ≤ z ∧ z < endR r := by
  unfold Ok1 at hr
  simp only [over, List.any_eq_true, Bool.and_eq_true, decide_eq_true_eq]
  constructor
  · rintro ⟨x, hx, h1, h2⟩
    have hx' := hl x hx; unfold Ok1 at hx'
    exact ⟨max x.f_At r.f_At, ⟨x, hx, by omega, by simp only [endR] at *; omega⟩, by omega, by simp only [endR] at *; omega⟩
  · rintro ⟨z, ⟨x, hx, h1, h2⟩, h3, h4⟩
    exact ⟨x, hx, by omega, by omega⟩
theorem giveF_ok {l : List S_Run} {r : S_Run} (hl : Fre (-1) l) (hr : Ok1 r) (ho : over r l = false) :
    (giveF l r).2 = true ∧ Fre (-1) (giveF l r).1 ∧ (∀ z, InR (giveF l r).1 z ↔ InR l z ∨ (r.f_At ≤ z ∧ z < endR r)) ∧ (giveF l r).1.length ≤ l.length + 1 := by
  have hr' := hr; unfold Ok1 at hr'
  have e : giveF l r = (joinF (joinF (preR r l) [r]) (postR r l), true) := by
    unfold giveF; rw [(freB_iff _ _).2 hl, ho]; simp [hr]
  have hsplit := pre_post r l
  have hl2 := hl
  rw [← hsplit] at hl2
  obtain ⟨h1, h2⟩ := (Fre_app _ _ _).1 hl2
  have hno : ∀ x ∈ l, ¬ (x.f_At < endR r ∧ r.f_At < endR x) := by
    intro x hx hh
    have : over r l = true := by
      simp only [over, List.any_eq_true, Bool.and_eq_true, decide_eq_true_eq]; exact ⟨x, hx, hh.1, hh.2⟩
    rw [ho] at this; cases this
  have hend : endOf (-1) (preR r l) ≤ r.f_At := by
    rcases snoc_or (preR r l) with e0 | ⟨i, x, e0⟩
    · rw [e0]; simp only [endOf]; omega
    · have hxm : x ∈ preR r l := by rw [e0]; simp
      have hxl : x ∈ l := by rw [← hsplit]; exact List.mem_append_left _ hxm
      have := pre_lt r l x hxm
      have := hno x hxl
      rw [e0, endOf_snoc]
      simp only [endR] at *; omega
  obtain ⟨i, q, e1, f1, f2, f3, f4⟩ := put_last h1 hr (by omega) hend
  have hb : Fre (-1) (postR r l) := h2.mono (by
    rcases snoc_or (preR r l) with e0 | ⟨i, x, e0⟩
    · rw [e0]; simp [endOf]
    · have := hl.ok x (by rw [← hsplit, e0]; simp)
      unfold Ok1 at this; rw [e0, endOf_snoc]; simp only [endR]; omega)
  have hq : ∀ y ∈ postR r l, endR q ≤ y.f_At := by
    intro y hy
    have a1 := post_ge r l _ hl y hy
    have a2 := hno y (by rw [← hsplit]; exact List.mem_append_right _ hy)
    have a3 := hb.ok y hy; unfold Ok1 at a3
    rw [f2]; simp only [endR] at *; omega
  obtain ⟨g1, g2⟩ := put_mid f1 hb hq
  rw [e]
  refine ⟨rfl, ?_, ?_, ?_⟩
  · show Fre (-1) (joinF (joinF (preR r l) [r]) (postR r l)); rw [e1]; exact g1
  · intro z
    show InR (joinF (joinF (preR r l) [r]) (postR r l)) z ↔ _
    rw [e1, g2, f3]
    conv => rhs; rw [← hsplit]
    rw [InR_app, InR_cons]
    simp only [InR_nil, or_false]
    constructor
    · rintro ((h | h) | h)
      · exact .inl (.inl h)
      · exact .inr h
      · exact .inl (.inr h)
    · rintro ((h | h) | h)
      · exact .inl (.inl h)
      · exact .inr h
      · exact .inl (.inr h)
  · show (joinF (joinF (preR r l) [r]) (postR r l)).length ≤ _
    have := joinF_len (joinF (preR r l) [r]) (postR r l)
    have := joinF_len (preR r l) [r]
    have hh : (preR r l).length + (postR r l).length = l.length := by rw [← List.length_append, hsplit]
    simp at *; omega
theorem giveF_no {l : List S_Run} {r : S_Run} (ho : over r l = true) : giveF l r = (l, false) := by
  unfold giveF; rw [ho]; simp
theorem giveF_bad {l : List S_Run} {r : S_Run} (h : ¬ (Fre (-1) l ∧ Ok1 r)) : giveF l r = (l, false) := by
  unfold giveF
  have : (freB (-1) l && decide (Ok1 r)) = false := by
    rw [Bool.eq_false_iff]
    intro hh
    simp only [Bool.and_eq_true, decide_eq_true_eq, freB_iff] at hh
    exact h hh
  rw [this]; simp
end Go.Proofs.Ytmpnlafggebaiaa
