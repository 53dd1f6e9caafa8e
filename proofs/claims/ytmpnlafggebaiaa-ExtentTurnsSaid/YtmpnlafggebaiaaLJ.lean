/- Rounds enough: a value function that tells from some number of rounds on; whole numbers within 64 bits; lists read by index. No condition. -/
import Derived.Test.YtmpnlafggebaiaaLH
set_option linter.unusedVariables false
set_option linter.unusedSimpArgs false
namespace Go.Proofs.Ytmpnlafggebaiaa
open Go
/-- From some number of rounds on, g tells x. -/
def Ev {α : Type} (g : Nat → Option α) (x : α) : Prop := ∃ K, ∀ k, K ≤ k → g k = some x
/-- From some number of rounds on, both tell the same. -/
def Eq2 {α : Type} (g h : Nat → Option α) : Prop := ∃ K, ∀ k, K ≤ k → g k = h k
section
variable {α β γ : Type} {g h : Nat → Option α}
theorem Ev.pure (x : α) : Ev (fun _ => some x) x := ⟨0, fun _ _ => rfl⟩
theorem Ev.all {x : α} (e : ∀ k, g k = some x) : Ev g x := ⟨0, fun k _ => e k⟩
theorem Ev.of (e : Eq2 g h) {x : α} (k : Ev h x) : Ev g x := by
  obtain ⟨K, hK⟩ := e; obtain ⟨L, hL⟩ := k
  exact ⟨max K L, fun n hn => (hK n (by omega)).trans (hL n (by omega))⟩
theorem Ev.congr (e : ∀ k, g k = h k) {x : α} (k : Ev h x) : Ev g x := Ev.of ⟨0, fun n _ => e n⟩ k
theorem Ev.bind {A : Nat → Option α} {B : Nat → α → Option β} {a : α} {b : β} (hA : Ev A a) (hB : Ev (fun k => B k a) b) : Ev (fun k => (A k).bind (B k)) b := by
  obtain ⟨K, hK⟩ := hA; obtain ⟨L, hL⟩ := hB
  exact ⟨max K L, fun n hn => by show (A n).bind (B n) = some b; rw [hK n (by omega)]; exact hL n (by omega)⟩
theorem Ev.succ {x : α} (e : Ev (fun k => g (k + 1)) x) : Ev g x := by
  obtain ⟨K, hK⟩ := e
  refine ⟨K + 1, fun n hn => ?_⟩
  obtain ⟨m, rfl⟩ : ∃ m, n = m + 1 := ⟨n - 1, by omega⟩
  exact hK m (by omega)
theorem Ev.get {x : α} (e : Ev g x) : ∃ k, g k = some x := by obtain ⟨K, hK⟩ := e; exact ⟨K, hK K (Nat.le_refl _)⟩
theorem Ev.ite {c : Prop} [Decidable c] {x : α} (ht : c → Ev g x) (hf : ¬ c → Ev h x) : Ev (fun k => if c then g k else h k) x := by
  by_cases hc : c
  · simpa only [hc, if_true] using ht hc
  · simpa only [hc, if_false] using hf hc
theorem Ev.pos {c : Prop} [Decidable c] {x : α} (hc : c) (ht : Ev g x) : Ev (fun k => if c then g k else h k) x := by simpa only [hc, if_true] using ht
theorem Ev.neg {c : Prop} [Decidable c] {x : α} (hc : ¬ c) (ht : Ev h x) : Ev (fun k => if c then g k else h k) x := by simpa only [hc, if_false] using ht
theorem Ev.tt {c : Bool} {x : α} (hc : c = true) (ht : Ev g x) : Ev (fun k => if c = true then g k else h k) x := Ev.pos hc ht
theorem Ev.ff {c : Bool} {x : α} (hc : c = false) (ht : Ev h x) : Ev (fun k => if c = true then g k else h k) x := Ev.neg (by simp [hc]) ht
theorem Ev.uniq {x y : α} (a : Ev g x) (b : Ev g y) : x = y := by
  obtain ⟨K, hK⟩ := a; obtain ⟨L, hL⟩ := b
  have := (hK (max K L) (by omega)).symm.trans (hL (max K L) (by omega))
  exact Option.some.inj this
end
/-- The same, whatever goes on behind (c), so long as it is as H says. -/
def EvU {γ β : Type} (H : γ → Prop) (g : γ → Nat → Option β) (x : β) : Prop := ∃ K, ∀ c, H c → ∀ k, K ≤ k → g c k = some x
section
variable {α β γ : Type} {H : γ → Prop} {g h : γ → Nat → Option β}
theorem EvU.bind {A : Nat → Option α} {B : γ → Nat → α → Option β} {a : α} {b : β} (hA : Ev A a) (hB : EvU H (fun c k => B c k a) b) : EvU H (fun c k => (A k).bind (B c k)) b := by
  obtain ⟨K, hK⟩ := hA; obtain ⟨L, hL⟩ := hB
  exact ⟨max K L, fun c hc n hn => by show (A n).bind (B c n) = some b; rw [hK n (by omega)]; exact hL c hc n (by omega)⟩
theorem EvU.succ {x : β} (e : EvU H (fun c k => g c (k + 1)) x) : EvU H g x := by
  obtain ⟨K, hK⟩ := e
  refine ⟨K + 1, fun c hc n hn => ?_⟩
  obtain ⟨m, rfl⟩ : ∃ m, n = m + 1 := ⟨n - 1, by omega⟩
  exact hK c hc m (by omega)
theorem EvU.pos {c : Prop} [Decidable c] {x : β} (hc : c) (ht : EvU H g x) : EvU H (fun d k => if c then g d k else h d k) x := by simpa only [hc, if_true] using ht
theorem EvU.neg {c : Prop} [Decidable c] {x : β} (hc : ¬ c) (ht : EvU H h x) : EvU H (fun d k => if c then g d k else h d k) x := by simpa only [hc, if_false] using ht
theorem EvU.tt {c : Bool} {x : β} (hc : c = true) (ht : EvU H g x) : EvU H (fun d k => if c = true then g d k else h d k) x := EvU.pos hc ht
theorem EvU.ff {c : Bool} {x : β} (hc : c = false) (ht : EvU H h x) : EvU H (fun d k => if c = true then g d k else h d k) x := EvU.neg (by simp [hc]) ht
theorem EvU.pure (x : β) : EvU H (fun _ _ => some x) x := ⟨0, fun _ _ _ _ => rfl⟩
theorem EvU.of {x : β} (e : ∀ c, H c → ∀ k, g c k = some x) : EvU H g x := ⟨0, fun c hc k _ => e c hc k⟩
theorem EvU.use {x : β} {L : Nat → γ} (e : EvU H g x) (hL : ∃ K, ∀ k, K ≤ k → H (L k)) : Ev (fun k => g (L k) k) x := by
  obtain ⟨K, hK⟩ := e; obtain ⟨M, hM⟩ := hL
  exact ⟨max K M, fun k hk => hK (L k) (hM k (by omega)) k (by omega)⟩
end
theorem W64_id {x : Int} (a : -9223372036854775808 ≤ x) (b : x ≤ 9223372036854775807) : W64 x = x := by
  simp [W64, IntKind.wrap, IntKind.min, IntKind.max, IntKind.signed, IntKind.bits]
  omega
theorem WK_u8 {x : Int} (a : 0 ≤ x) (b : x ≤ 255) : WK .u8 x = x := by
  simp [WK, IntKind.wrap, IntKind.min, IntKind.max, IntKind.signed, IntKind.bits]; omega
theorem WK_u64 (x : Int) : WK .u64 x = x % 18446744073709551616 := by
  simp [WK, IntKind.wrap, IntKind.min, IntKind.max, IntKind.signed, IntKind.bits]
theorem W64_eq (x : Int) : W64 x = (x + 9223372036854775808) % 18446744073709551616 - 9223372036854775808 := by
  simp [W64, IntKind.wrap, IntKind.min, IntKind.max, IntKind.signed, IntKind.bits]
  try omega
theorem W64_range (x : Int) : -9223372036854775808 ≤ W64 x ∧ W64 x ≤ 9223372036854775807 := by rw [W64_eq]; omega
theorem mnI_eq (a b : Int) : mnI a b = min a b := by unfold mnI; split <;> omega
theorem mxI_eq (a b : Int) : mxI a b = max a b := by unfold mxI; split <;> omega
/-- A low mask of n bits. -/
theorem andK_mask (x : Int) (n : Nat) (hn : n ≤ 62) : 0 ≤ andK .i64 x (2 ^ n - 1) ∧ andK .i64 x (2 ^ n - 1) < 2 ^ n := by
  have e : BitVec.ofInt IntKind.i64.bits (2 ^ n - 1 : Int) = BitVec.ofNat IntKind.i64.bits (2 ^ n - 1) := by
    apply BitVec.eq_of_toNat_eq
    have h1 : (2 : Nat) ^ n ≤ 2 ^ 62 := Nat.pow_le_pow_right (by omega) hn
    have h0 : 1 ≤ (2 : Nat) ^ n := Nat.one_le_two_pow
    have : ((2 : Int) ^ n - 1) = ((2 ^ n - 1 : Nat) : Int) := by push_cast [h0]; omega
    rw [this]; simp [BitVec.ofInt_natCast, IntKind.bits]
  unfold andK
  rw [e]
  have h1 : (2 : Nat) ^ n ≤ 2 ^ 62 := Nat.pow_le_pow_right (by omega) hn
  have h0 : 1 ≤ (2 : Nat) ^ n := Nat.one_le_two_pow
  have hb : (BitVec.ofInt IntKind.i64.bits x &&& BitVec.ofNat IntKind.i64.bits (2 ^ n - 1)).toNat < 2 ^ n := by
    rw [BitVec.toNat_and]
    refine Nat.lt_of_le_of_lt Nat.and_le_right ?_
    rw [BitVec.toNat_ofNat]
    exact Nat.lt_of_le_of_lt (Nat.mod_le _ _) (by omega)
  have hw := W64_id (x := ((BitVec.ofInt IntKind.i64.bits x &&& BitVec.ofNat IntKind.i64.bits (2 ^ n - 1)).toNat : Int)) (by omega) (by omega)
  unfold W64 at hw
  rw [hw]
  refine ⟨by omega, ?_⟩
  have : ((2 : Int) ^ n) = ((2 ^ n : Nat) : Int) := by push_cast; rfl
  rw [this]; omega
theorem Ev.within {β : Type} {r : β} {T : Nat} (hT : T ≤ 1000000000) (p : Int) (g : Int → Nat → Option β) (h : ∀ x : Nat, x ≤ T → Ev (g (x : Int)) r) :
    Ev (fun k => if W64 ((T : Int) + 1) ≠ 0 then (if decide (p.tmod (W64 ((T : Int) + 1)) < 0) = true then g (W64 (0 - p.tmod (W64 ((T : Int) + 1)))) k else g (p.tmod (W64 ((T : Int) + 1))) k) else none) r := by
  have e : W64 ((T : Int) + 1) = (T : Int) + 1 := W64_id (by omega) (by omega)
  rw [e]
  have h1 : (p.tmod ((T : Int) + 1)).natAbs ≤ T := by
    rw [Int.natAbs_tmod]
    have := Nat.mod_lt p.natAbs (show 0 < ((T : Int) + 1).natAbs by omega)
    omega
  refine Ev.pos (by omega) (Ev.ite (fun hc => ?_) (fun hc => ?_))
  · have hc : p.tmod ((T : Int) + 1) < 0 := by simpa using hc
    rw [W64_id (by omega) (by omega), show 0 - p.tmod ((T : Int) + 1) = ((p.tmod ((T : Int) + 1)).natAbs : Int) by omega]
    exact h _ h1
  · have hc : ¬ p.tmod ((T : Int) + 1) < 0 := by simpa using hc
    rw [show p.tmod ((T : Int) + 1) = ((p.tmod ((T : Int) + 1)).natAbs : Int) by omega]
    exact h _ h1
section
variable {α : Type} (F : Flat α)
theorem at_app (pre post : List α) (x : α) : F.at_ (pre ++ x :: post) (pre.length : Int) = x := by
  simp [Flat.at_]
theorem at_get (l : List α) (i : Nat) (h : i < l.length) : F.at_ l (i : Int) = l[i] := by
  simp [Flat.at_, h]
end
end Go.Proofs.Ytmpnlafggebaiaa
