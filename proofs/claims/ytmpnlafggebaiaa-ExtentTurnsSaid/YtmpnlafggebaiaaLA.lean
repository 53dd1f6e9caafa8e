/- Frames of worlds, entries (what is owned, what is read), contexts; slots; rules for code and operations: the words of this seat's walks. No condition. -/
import Derived.Below
import Derived.Deep.MidRow
import Derived.Deep.AppendLies
import Derived.OrdersHeld
import Derived.WalkKit
import Derived.KernelRfl
import Derived.Still
import Derived.Laws.Slices
import Derived.Laws.OwnMore
set_option linter.unusedVariables false
set_option linter.unusedSimpArgs false
namespace Go.Proofs.Ytmpnlafggebaiaa
open Go

/-! ### frames -/
abbrev nob : Nat → Prop := fun _ => False
structure Fr (D : Nat → Prop) (w w' : World) : Prop where
  os : w'.os = w.os
  tape : w'.tape = w.tape
  output : w'.output = w.output
  size : w.heap.size ≤ w'.heap.size
  block : ∀ b, b < w.heap.size → ¬ D b → w'.heap[b]? = w.heap[b]?
theorem Fr.refl (D : Nat → Prop) (w : World) : Fr D w w := ⟨rfl, rfl, rfl, Nat.le_refl _, fun _ _ _ => rfl⟩
theorem Fr.trans {D E : Nat → Prop} {a b c : World} (h : Fr D a b) (k : Fr E b c) (hE : ∀ x, E x → D x ∨ a.heap.size ≤ x) : Fr D a c :=
  ⟨k.os.trans h.os, k.tape.trans h.tape, k.output.trans h.output, Nat.le_trans h.size k.size,
   fun x hx hD => (k.block x (Nat.lt_of_lt_of_le hx h.size) (fun e => (hE x e).elim hD (by omega))).trans (h.block x hx hD)⟩
theorem Fr.then {D : Nat → Prop} {a b c : World} (h : Fr D a b) (k : Fr nob b c) : Fr D a c := h.trans k (fun _ h => h.elim)
theorem Fr.mono {D E : Nat → Prop} {a b : World} (h : Fr D a b) (hD : ∀ x, D x → E x) : Fr E a b :=
  ⟨h.os, h.tape, h.output, h.size, fun x hx hE => h.block x hx (fun d => hE (hD x d))⟩
theorem Fr.alloc (w : World) (o : Obj) : Fr nob w (w.alloc o) := ⟨rfl, rfl, rfl, by simp, fun b hb _ => Go.RowKit.Below.heap_alloc w o b hb⟩
theorem Fr.drawn (w : World) (n : Nat) : Fr nob w { w with drawn := n } := ⟨rfl, rfl, rfl, Nat.le_refl _, fun _ _ _ => rfl⟩
theorem Fr.below {w w' : World} (h : Fr nob w w') : Go.RowKit.Below w.heap.size w w' := ⟨h.os, h.tape, h.output, h.size, fun k hk => h.block k hk id⟩
theorem Fr.of_grown {w w' : World} {row : Option Nat} (h : w.grownBy w' row) : Fr (fun b => row = some b) w w' :=
  ⟨h.os, h.tape, h.output, h.size, fun b hb hn => h.block b hb (fun e => hn e.symm)⟩
theorem Fr.cell {D : Nat → Prop} {w w' : World} (h : Fr D w w') {a : Addr} {v : Value} (hc : w.cell? a = some v) (hD : ¬ D a.block) : w'.cell? a = some v :=
  (World.cell?_of_block (h.block a.block (block_lt_of_cell hc) hD)).trans hc

/-! ### entries -/
structure Ent where
  dom : Nat → Prop
  ok : World → Prop
  lt : ∀ w, ok w → ∀ b, dom b → b < w.heap.size
  loc : ∀ w w', ok w → (∀ b, dom b → w'.heap[b]? = w.heap[b]?) → ok w'
def Ent.nil : Ent := ⟨nob, fun _ => True, fun _ _ _ h => h.elim, fun _ _ _ _ => trivial⟩
theorem Ent.keep (E : Ent) {D : Nat → Prop} {w w' : World} (h : E.ok w) (f : Fr D w w') (hd : ∀ b, E.dom b → ¬ D b) : E.ok w' :=
  E.loc w w' h (fun b hb => f.block b (E.lt w h b hb) (hd b hb))
/-- A block of known cells, the call's own. -/
def boxE (b : Nat) (T : TypeId) (cs : List Value) : Ent :=
  ⟨fun x => x = b, fun w => w.heap[b]? = some (.cells cs.toArray T (0, 0)), fun w h x e => by subst e; exact (Array.getElem?_eq_some_iff.1 h).1,
   fun w w' h f => (f b rfl).trans h⟩
/-- A row of the call's own. -/
def rowE (v : Value) (e sz n : Nat) (xs : List Value) : Ent :=
  ⟨fun x => v.ownBlock = some x, fun w => w.ownsRow 0 e sz v n xs, fun w h x hx => (h.lt x hx).2,
   fun w w' h f => by
     refine ⟨h.1, ?_⟩
     rcases h.2 with hn | ⟨g, cap, cur, rfl, hb, hgg, rest⟩
     · exact .inl hn
     · exact .inr ⟨g, cap, cur, rfl, hb, (f g (by simp [Value.ownBlock])).trans hgg, rest⟩⟩
/-- A slice that is read: n elements of sz cells: the cells. -/
def Rds (v : Value) (n sz : Nat) (cs : List Value) (w : World) : Prop :=
  cs.length = n * sz ∧ ∃ ao c, v = .slice ao n c ∧ n ≤ c ∧ c ≤ 9223372036854775807 ∧ (ao = none → c = 0) ∧ ∀ j u, cs[j]? = some u → ∃ ad, ao = some ad ∧ w.cell? (ad.add j) = some u
def addrOf : Value → Option Nat
  | .slice (some a) _ _ => some a.block
  | .pointer (some a) => some a.block
  | _ => none
theorem add_block (a : Addr) (j : Nat) : (a.add j).block = a.block := by unfold Addr.add; split <;> rfl
def rdE (v : Value) (n sz : Nat) (cs : List Value) : Ent :=
  ⟨fun x => cs ≠ [] ∧ addrOf v = some x, Rds v n sz cs,
   fun w h x hx => by
     obtain ⟨h1, ao, c, rfl, _, _, _, h2⟩ := h
     obtain ⟨hne, hx⟩ := hx
     obtain ⟨u, us, rfl⟩ := List.exists_cons_of_ne_nil hne
     obtain ⟨ad, rfl, hc⟩ := h2 0 u rfl
     have := block_lt_of_cell hc
     rw [add_block] at this
     have e : ad.block = x := by simpa [addrOf] using hx
     omega,
   fun w w' h f => by
     obtain ⟨h1, ao, c, rfl, h3, h4, h5, h2⟩ := h
     refine ⟨h1, ao, c, rfl, h3, h4, h5, fun j u hu => ?_⟩
     obtain ⟨ad, rfl, hc⟩ := h2 j u hu
     exact ⟨ad, rfl, (World.cell?_of_block (f _ ⟨by rintro rfl; simp at hu, by simp [addrOf, add_block]⟩)).trans hc⟩⟩

/-! ### contexts -/
structure Ctx (w0 : World) (D A : Nat → Prop) (L R : List Ent) (w : World) : Prop where
  fr : Fr D w0 w
  okL : ∀ (i : Nat) (E : Ent), L[i]? = some E → E.ok w
  okR : ∀ (i : Nat) (E : Ent), R[i]? = some E → E.ok w
  mine : ∀ (i : Nat) (E : Ent), L[i]? = some E → ∀ b, E.dom b → D b ∨ w0.heap.size ≤ b
  sepL : ∀ (i j : Nat) (E F : Ent), i ≠ j → L[i]? = some E → L[j]? = some F → ∀ b, E.dom b → ¬ F.dom b
  sepR : ∀ (i j : Nat) (E F : Ent), L[i]? = some E → R[j]? = some F → ∀ b, E.dom b → ¬ F.dom b
  src : ∀ (i : Nat) (E : Ent), R[i]? = some E → ∀ b, E.dom b → A b ∨ D b ∨ w0.heap.size ≤ b
section ctx
variable {w0 w w' : World} {D A : Nat → Prop} {L R : List Ent}
def allDom (R : List Ent) : Nat → Prop := fun b => ∃ j : Nat, ∃ G : Ent, R[j]? = some G ∧ G.dom b
theorem ctx_start (w : World) (R : List Ent) (h : ∀ (i : Nat) (E : Ent), R[i]? = some E → E.ok w) : Ctx w nob (allDom R) [] R w :=
  ⟨Fr.refl _ _, by simp, h, by simp, by simp, by simp, fun i E hi b hb => .inl ⟨i, E, hi, hb⟩⟩
theorem ctx_still (C : Ctx w0 D A L R w) (h : Fr nob w w') : Ctx w0 D A L R w' :=
  ⟨C.fr.then h, fun i E hi => E.keep (C.okL i E hi) h (fun _ _ => id), fun i E hi => E.keep (C.okR i E hi) h (fun _ _ => id), C.mine, C.sepL, C.sepR, C.src⟩
theorem ctx_set {i : Nat} {E E' : Ent} (C : Ctx w0 D A L R w) (hi : L[i]? = some E) (h : Fr E.dom w w') (ok' : E'.ok w')
    (hd : ∀ b, E'.dom b → E.dom b ∨ w.heap.size ≤ b) : Ctx w0 D A (L.set i E') R w' := by
  have hlt := (List.getElem?_eq_some_iff.1 hi).1
  have get : ∀ j F, (L.set i E')[j]? = some F → (j = i ∧ F = E') ∨ (j ≠ i ∧ L[j]? = some F) := fun j F hj => by
    by_cases e : j = i
    · subst e; rw [List.getElem?_set_self hlt] at hj; exact .inl ⟨rfl, (Option.some.inj hj).symm⟩
    · rw [List.getElem?_set_ne (Ne.symm e)] at hj; exact .inr ⟨e, hj⟩
  refine ⟨C.fr.trans h (fun x hx => C.mine i E hi x hx), ?_, ?_, ?_, ?_, ?_, C.src⟩
  · intro j F hj
    rcases get j F hj with ⟨rfl, rfl⟩ | ⟨hne, hj⟩
    · exact ok'
    · exact F.keep (C.okL j F hj) h (C.sepL j i F E hne hj hi)
  · intro j F hj
    exact F.keep (C.okR j F hj) h (fun b hF hE => C.sepR i j E F hi hj b hE hF)
  · intro j F hj b hb
    rcases get j F hj with ⟨rfl, rfl⟩ | ⟨hne, hj⟩
    · rcases hd b hb with h1 | h1
      · exact C.mine _ E hi b h1
      · exact .inr (Nat.le_trans C.fr.size h1)
    · exact C.mine j F hj b hb
  · intro j k F G hjk hj hk b hb hb'
    rcases get j F hj with ⟨rfl, rfl⟩ | ⟨hne, hj1⟩
    · rcases get k G hk with ⟨rfl, rfl⟩ | ⟨hne', hk⟩
      · exact hjk rfl
      · rcases hd b hb with h1 | h1
        · exact C.sepL _ _ E G hjk hi hk b h1 hb'
        · have := G.lt w (C.okL k G hk) b hb'; omega
    · rcases get k G hk with ⟨rfl, rfl⟩ | ⟨hne', hk⟩
      · rcases hd b hb' with h1 | h1
        · exact C.sepL _ _ F E hjk hj1 hi b hb h1
        · have := F.lt w (C.okL j F hj1) b hb; omega
      · exact C.sepL j k F G hjk hj1 hk b hb hb'
  · intro j k F G hj hk b hb hb'
    rcases get j F hj with ⟨rfl, rfl⟩ | ⟨hne, hj⟩
    · rcases hd b hb with h1 | h1
      · exact C.sepR _ k E G hi hk b h1 hb'
      · have := G.lt w (C.okR k G hk) b hb'; omega
    · exact C.sepR j k F G hj hk b hb hb'
theorem ctx_new {E' : Ent} (C : Ctx w0 D A L R w) (h : Fr nob w w') (ok' : E'.ok w') (hd : ∀ b, E'.dom b → w.heap.size ≤ b) : Ctx w0 D A (L ++ [E']) R w' := by
  have C' := ctx_still C h
  have get : ∀ j F, (L ++ [E'])[j]? = some F → (j = L.length ∧ F = E') ∨ L[j]? = some F := fun j F hj => by
    rcases Nat.lt_trichotomy j L.length with h1 | h1 | h1
    · rw [List.getElem?_append_left h1] at hj; exact .inr hj
    · subst h1; simp at hj; exact .inl ⟨rfl, hj.symm⟩
    · rw [List.getElem?_eq_none (by simp; omega)] at hj; cases hj
  refine ⟨C'.fr, ?_, C'.okR, ?_, ?_, ?_, C.src⟩
  · intro j F hj
    rcases get j F hj with ⟨_, rfl⟩ | hj
    · exact ok'
    · exact C'.okL j F hj
  · intro j F hj b hb
    rcases get j F hj with ⟨_, rfl⟩ | hj
    · exact .inr (Nat.le_trans C.fr.size (hd b hb))
    · exact C.mine j F hj b hb
  · intro j k F G hjk hj hk b hb hb'
    rcases get j F hj with ⟨rfl, rfl⟩ | hj1
    · rcases get k G hk with ⟨rfl, rfl⟩ | hk
      · exact hjk rfl
      · have := G.lt w (C.okL k G hk) b hb'; have := hd b hb; omega
    · rcases get k G hk with ⟨rfl, rfl⟩ | hk
      · have := F.lt w (C.okL j F hj1) b hb; have := hd b hb'; omega
      · exact C.sepL j k F G hjk hj1 hk b hb hb'
  · intro j k F G hj hk b hb hb'
    rcases get j F hj with ⟨_, rfl⟩ | hj
    · have := G.lt w (C.okR k G hk) b hb'; have := hd b hb; omega
    · exact C.sepR j k F G hj hk b hb hb'
/-- One more that is read. -/
theorem ctx_rd {F : Ent} (C : Ctx w0 D A L R w) (ok : F.ok w) (hs : ∀ (i : Nat) (E : Ent), L[i]? = some E → ∀ b, E.dom b → ¬ F.dom b) (hsrc : ∀ b, F.dom b → A b ∨ D b ∨ w0.heap.size ≤ b) : Ctx w0 D A L (R ++ [F]) w := by
  have get : ∀ j G, (R ++ [F])[j]? = some G → G = F ∨ R[j]? = some G := fun j G hj => by
    rcases Nat.lt_trichotomy j R.length with h1 | h1 | h1
    · rw [List.getElem?_append_left h1] at hj; exact .inr hj
    · subst h1; simp at hj; exact .inl hj.symm
    · rw [List.getElem?_eq_none (by simp; omega)] at hj; cases hj
  refine ⟨C.fr, C.okL, ?_, C.mine, C.sepL, ?_, ?_⟩
  · intro j G hj
    rcases get j G hj with rfl | hj
    · exact ok
    · exact C.okR j G hj
  · intro i j E G hi hj b hb
    rcases get j G hj with rfl | hj
    · exact hs i E hi b hb
    · exact C.sepR i j E G hi hj b hb
  · intro j G hj b hb
    rcases get j G hj with rfl | hj
    · exact hsrc b hb
    · exact C.src j G hj b hb
/-- What is read lies in what is read, or is new. -/
theorem ctx_rdnew {F : Ent} (C : Ctx w0 D A L R w) (h : Fr nob w w') (ok : F.ok w') (hs : ∀ b, F.dom b → (∃ j : Nat, ∃ G : Ent, R[j]? = some G ∧ G.dom b) ∨ w.heap.size ≤ b) : Ctx w0 D A L (R ++ [F]) w' :=
  ctx_rd (ctx_still C h) ok (fun i E hi b hb hF => by
    rcases hs b hF with ⟨j, G, hj, hG⟩ | h1
    · exact C.sepR i j E G hi hj b hb hG
    · have := E.lt w (C.okL i E hi) b hb; omega) (fun b hb => by
    rcases hs b hb with ⟨j, G, hj, hG⟩ | h1
    · exact C.src j G hj b hG
    · exact .inr (.inr (Nat.le_trans C.fr.size h1)))
/-- What was owned is read from now on. -/
theorem ctx_share {i : Nat} {E F : Ent} (C : Ctx w0 D A L R w) (hi : L[i]? = some E) (ok : F.ok w) (hd : ∀ b, F.dom b → E.dom b) : Ctx w0 D A (L.set i Ent.nil) (R ++ [F]) w := by
  have C' : Ctx w0 D A (L.set i Ent.nil) R w := ctx_set C hi (Fr.refl _ _) (E' := Ent.nil) trivial (fun b h => h.elim)
  refine ctx_rd C' ok (fun j G hj b hb hF => ?_) (fun b hb => .inr (C.mine i E hi b (hd b hb)))
  by_cases e : j = i
  · subst e
    rw [List.getElem?_set_self (List.getElem?_eq_some_iff.1 hi).1] at hj
    cases hj; exact hb
  · rw [List.getElem?_set_ne (Ne.symm e)] at hj
    exact C.sepL j i G E e hj hi b hb (hd b hF)
def pick (is : List Nat) (L : List Ent) : List Ent := is.map fun i => L.getD i Ent.nil
def nodupN : List Nat → Bool
  | [] => true
  | i :: is => !(is.elem i) && nodupN is
theorem nodupN_spec : ∀ (is : List Nat), nodupN is = true → ∀ (j k a : Nat), j ≠ k → is[j]? = some a → is[k]? = some a → False
  | [], _, _, _, _, _, h, _ => by simp at h
  | i :: is, hn, j, k, a, hjk, hj, hk => by
    simp only [nodupN, Bool.and_eq_true, Bool.not_eq_true', List.elem_eq_mem, decide_eq_false_iff_not] at hn
    match j, k with
    | 0, 0 => exact hjk rfl
    | 0, k + 1 => simp at hj hk; subst hj; exact hn.1 (List.mem_of_getElem? hk)
    | j + 1, 0 => simp at hj hk; subst hk; exact hn.1 (List.mem_of_getElem? hj)
    | j + 1, k + 1 => exact nodupN_spec is hn.2 j k a (by omega) (by simpa using hj) (by simpa using hk)
theorem pick_get {is : List Nat} {L : List Ent} {j : Nat} {E : Ent} (h : (pick is L)[j]? = some E) : E = Ent.nil ∨ ∃ i, is[j]? = some i ∧ L[i]? = some E := by
  simp only [pick, List.getElem?_map, Option.map_eq_some_iff] at h
  obtain ⟨i, hi, he⟩ := h
  cases hL : L[i]? with
  | none => left; rw [← he]; simp [List.getD, hL]
  | some F => right; refine ⟨i, hi, ?_⟩; rw [← he]; simp [List.getD, hL]
/-- Some of them, in some order. -/
theorem ctx_pick (is js : List Nat) {L' R' : List Ent} (C : Ctx w0 D A L R w) (hn : nodupN is = true) (hL : pick is L = L') (hR : pick js R = R') : Ctx w0 D A L' R' w := by
  subst hL; subst hR
  refine ⟨C.fr, ?_, ?_, ?_, ?_, ?_, ?_⟩
  · intro j E hj
    rcases pick_get hj with rfl | ⟨i, _, hi⟩
    · trivial
    · exact C.okL i E hi
  · intro j E hj
    rcases pick_get hj with rfl | ⟨i, _, hi⟩
    · trivial
    · exact C.okR i E hi
  · intro j E hj b hb
    rcases pick_get hj with rfl | ⟨i, _, hi⟩
    · exact hb.elim
    · exact C.mine i E hi b hb
  · intro j k E F hjk hj hk b hb hb'
    rcases pick_get hj with rfl | ⟨i, hi', hi⟩
    · exact hb
    · rcases pick_get hk with rfl | ⟨i', hk', hk⟩
      · exact hb'
      · exact C.sepL i i' E F (fun e => nodupN_spec is hn j k i hjk hi' (e ▸ hk')) hi hk b hb hb'
  · intro j k E F hj hk b hb hb'
    rcases pick_get hj with rfl | ⟨i, hi', hi⟩
    · exact hb
    · rcases pick_get hk with rfl | ⟨i', hk', hk⟩
      · exact hb'
      · exact C.sepR i i' E F hi hk b hb hb'
  · intro j E hj b hb
    rcases pick_get hj with rfl | ⟨i, _, hi⟩
    · exact hb.elim
    · exact C.src i E hi b hb
end ctx
end Go.Proofs.Ytmpnlafggebaiaa
