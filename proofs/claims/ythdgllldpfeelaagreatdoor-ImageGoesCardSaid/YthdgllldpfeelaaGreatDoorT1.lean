/- Texts of the proof, put together: part 1. No condition. -/
import Derived.Below
import Derived.Deep.MidRow
import Derived.Deep.AppendLies
import Derived.OrdersHeld
import Derived.WalkKit
import Derived.KernelRfl
import Derived.Still
import Derived.Laws.Slices
import Derived.Laws.OwnMore
/- Frames of worlds, entries (what is owned, what is read), contexts; slots; rules for code and operations: the words of this seat's walks. No condition. -/
set_option linter.unusedVariables false
set_option linter.unusedSimpArgs false
namespace Go.Proofs.YthdgllldpfeelaaGreatDoor
open Go

/-! ### frames -/
abbrev nob : Nat → Prop := fun _ => False
structure Fr (D : Nat → Prop) (w w' : World) : Prop where
  os : w'.os = w.os
  tape : w'.tape = w.tape
  output : w'.output = w.output
  size : w.heap.size ≤ w'.heap.size
  block : ∀ b, b < w.heap.size → ¬ D b → w'.heap[b]? = w.heap[b]?
theorem Fr.refl (D : Nat → Prop) (w : World) : Fr D w w := ⟨rfl, rfl, rfl, Nat.le_refl _, fun _ _ _ => rfl⟩
theorem Fr.trans {D E : Nat → Prop} {a b c : World} (h : Fr D a b) (k : Fr E b c) (hE : ∀ x, E x → D x ∨ a.heap.size ≤ x) : Fr D a c :=
  ⟨k.os.trans h.os, k.tape.trans h.tape, k.output.trans h.output, Nat.le_trans h.size k.size,
   fun x hx hD => (k.block x (Nat.lt_of_lt_of_le hx h.size) (fun e => (hE x e).elim hD (by omega))).trans (h.block x hx hD)⟩
theorem Fr.then {D : Nat → Prop} {a b c : World} (h : Fr D a b) (k : Fr nob b c) : Fr D a c := h.trans k (fun _ h => h.elim)
theorem Fr.mono {D E : Nat → Prop} {a b : World} (h : Fr D a b) (hD : ∀ x, D x → E x) : Fr E a b :=
  ⟨h.os, h.tape, h.output, h.size, fun x hx hE => h.block x hx (fun d => hE (hD x d))⟩
theorem Fr.alloc (w : World) (o : Obj) : Fr nob w (w.alloc o) := ⟨rfl, rfl, rfl, by simp, fun b hb _ => Go.RowKit.Below.heap_alloc w o b hb⟩
theorem Fr.drawn (w : World) (n : Nat) : Fr nob w { w with drawn := n } := ⟨rfl, rfl, rfl, Nat.le_refl _, fun _ _ _ => rfl⟩
theorem Fr.below {w w' : World} (h : Fr nob w w') : Go.RowKit.Below w.heap.size w w' := ⟨h.os, h.tape, h.output, h.size, fun k hk => h.block k hk id⟩
theorem Fr.of_grown {w w' : World} {row : Option Nat} (h : w.grownBy w' row) : Fr (fun b => row = some b) w w' :=
  ⟨h.os, h.tape, h.output, h.size, fun b hb hn => h.block b hb (fun e => hn e.symm)⟩
theorem Fr.cell {D : Nat → Prop} {w w' : World} (h : Fr D w w') {a : Addr} {v : Value} (hc : w.cell? a = some v) (hD : ¬ D a.block) : w'.cell? a = some v :=
  (World.cell?_of_block (h.block a.block (block_lt_of_cell hc) hD)).trans hc

/-! ### entries -/
structure Ent where
  dom : Nat → Prop
  ok : World → Prop
  lt : ∀ w, ok w → ∀ b, dom b → b < w.heap.size
  loc : ∀ w w', ok w → (∀ b, dom b → w'.heap[b]? = w.heap[b]?) → ok w'
  lent : Bool
def Ent.nil : Ent := ⟨nob, fun _ => True, fun _ _ _ h => h.elim, fun _ _ _ _ => trivial, false⟩
theorem Ent.keep (E : Ent) {D : Nat → Prop} {w w' : World} (h : E.ok w) (f : Fr D w w') (hd : ∀ b, E.dom b → ¬ D b) : E.ok w' :=
  E.loc w w' h (fun b hb => f.block b (E.lt w h b hb) (hd b hb))
/-- A block of known cells, the call's own. -/
def boxE (l : Bool) (b : Nat) (T : TypeId) (cs : List Value) : Ent :=
  ⟨fun x => x = b, fun w => w.heap[b]? = some (.cells cs.toArray T (0, 0)), fun w h x e => by subst e; exact (Array.getElem?_eq_some_iff.1 h).1,
   fun w w' h f => (f b rfl).trans h, l⟩
/-- A row of the call's own. -/
def rowE (v : Value) (e sz n : Nat) (xs : List Value) : Ent :=
  ⟨fun x => v.ownBlock = some x, fun w => w.ownsRow 0 e sz v n xs, fun w h x hx => (h.lt x hx).2,
   fun w w' h f => by
     refine ⟨h.1, ?_⟩
     rcases h.2 with hn | ⟨g, cap, cur, rfl, hb, hgg, rest⟩
     · exact .inl hn
     · exact .inr ⟨g, cap, cur, rfl, hb, (f g (by simp [Value.ownBlock])).trans hgg, rest⟩, false⟩
/-- A slice that is read: n elements of sz cells: the cells. -/
def Rds (v : Value) (n sz : Nat) (cs : List Value) (w : World) : Prop :=
  cs.length = n * sz ∧ ∃ ao c, v = .slice ao n c ∧ n ≤ c ∧ c ≤ 9223372036854775807 ∧ (ao = none → c = 0) ∧ ∀ j u, cs[j]? = some u → ∃ ad, ao = some ad ∧ w.cell? (ad.add j) = some u
def addrOf : Value → Option Nat
  | .slice (some a) _ _ => some a.block
  | .pointer (some a) => some a.block
  | _ => none
theorem add_block (a : Addr) (j : Nat) : (a.add j).block = a.block := by unfold Addr.add; split <;> rfl
def rdE (l : Bool) (v : Value) (n sz : Nat) (cs : List Value) : Ent :=
  ⟨fun x => cs ≠ [] ∧ addrOf v = some x, Rds v n sz cs,
   fun w h x hx => by
     obtain ⟨h1, ao, c, rfl, _, _, _, h2⟩ := h
     obtain ⟨hne, hx⟩ := hx
     obtain ⟨u, us, rfl⟩ := List.exists_cons_of_ne_nil hne
     obtain ⟨ad, rfl, hc⟩ := h2 0 u rfl
     have := block_lt_of_cell hc
     rw [add_block] at this
     have e : ad.block = x := by simpa [addrOf] using hx
     omega,
   fun w w' h f => by
     obtain ⟨h1, ao, c, rfl, h3, h4, h5, h2⟩ := h
     refine ⟨h1, ao, c, rfl, h3, h4, h5, fun j u hu => ?_⟩
     obtain ⟨ad, rfl, hc⟩ := h2 j u hu
     exact ⟨ad, rfl, (World.cell?_of_block (f _ ⟨by rintro rfl; simp at hu, by simp [addrOf, add_block]⟩)).trans hc⟩, l⟩

/-! ### contexts -/
structure Ctx (w0 : World) (D A : Nat → Prop) (L R : List Ent) (w : World) : Prop where
  fr : Fr D w0 w
  okL : ∀ (i : Nat) (E : Ent), L[i]? = some E → E.ok w
  okR : ∀ (i : Nat) (E : Ent), R[i]? = some E → E.ok w
  mine : ∀ (i : Nat) (E : Ent), L[i]? = some E → ∀ b, E.dom b → D b ∨ w0.heap.size ≤ b
  sepL : ∀ (i j : Nat) (E F : Ent), i ≠ j → L[i]? = some E → L[j]? = some F → ∀ b, E.dom b → ¬ F.dom b
  sepR : ∀ (i j : Nat) (E F : Ent), L[i]? = some E → R[j]? = some F → ∀ b, E.dom b → ¬ F.dom b
  src : ∀ (i : Nat) (E : Ent), R[i]? = some E → E.lent = false → ∀ b, E.dom b → A b ∨ D b ∨ w0.heap.size ≤ b
section ctx
variable {w0 w w' : World} {D A : Nat → Prop} {L R : List Ent}
def allDom (R : List Ent) : Nat → Prop := fun b => ∃ j : Nat, ∃ G : Ent, R[j]? = some G ∧ G.dom b
theorem ctx_start (w : World) (R : List Ent) (h : ∀ (i : Nat) (E : Ent), R[i]? = some E → E.ok w) : Ctx w nob (allDom R) [] R w :=
  ⟨Fr.refl _ _, by simp, h, by simp, by simp, by simp, fun i E hi _ b hb => .inl ⟨i, E, hi, hb⟩⟩
theorem ctx_still (C : Ctx w0 D A L R w) (h : Fr nob w w') : Ctx w0 D A L R w' :=
  ⟨C.fr.then h, fun i E hi => E.keep (C.okL i E hi) h (fun _ _ => id), fun i E hi => E.keep (C.okR i E hi) h (fun _ _ => id), C.mine, C.sepL, C.sepR, C.src⟩
theorem ctx_set {i : Nat} {E E' : Ent} (C : Ctx w0 D A L R w) (hi : L[i]? = some E) (h : Fr E.dom w w') (ok' : E'.ok w')
    (hd : ∀ b, E'.dom b → E.dom b ∨ w.heap.size ≤ b) : Ctx w0 D A (L.set i E') R w' := by
  have hlt := (List.getElem?_eq_some_iff.1 hi).1
  have get : ∀ j F, (L.set i E')[j]? = some F → (j = i ∧ F = E') ∨ (j ≠ i ∧ L[j]? = some F) := fun j F hj => by
    by_cases e : j = i
    · subst e; rw [List.getElem?_set_self hlt] at hj; exact .inl ⟨rfl, (Option.some.inj hj).symm⟩
    · rw [List.getElem?_set_ne (Ne.symm e)] at hj; exact .inr ⟨e, hj⟩
  refine ⟨C.fr.trans h (fun x hx => C.mine i E hi x hx), ?_, ?_, ?_, ?_, ?_, C.src⟩
  · intro j F hj
    rcases get j F hj with ⟨rfl, rfl⟩ | ⟨hne, hj⟩
    · exact ok'
    · exact F.keep (C.okL j F hj) h (C.sepL j i F E hne hj hi)
  · intro j F hj
    exact F.keep (C.okR j F hj) h (fun b hF hE => C.sepR i j E F hi hj b hE hF)
  · intro j F hj b hb
    rcases get j F hj with ⟨rfl, rfl⟩ | ⟨hne, hj⟩
    · rcases hd b hb with h1 | h1
      · exact C.mine _ E hi b h1
      · exact .inr (Nat.le_trans C.fr.size h1)
    · exact C.mine j F hj b hb
  · intro j k F G hjk hj hk b hb hb'
    rcases get j F hj with ⟨rfl, rfl⟩ | ⟨hne, hj1⟩
    · rcases get k G hk with ⟨rfl, rfl⟩ | ⟨hne', hk⟩
      · exact hjk rfl
      · rcases hd b hb with h1 | h1
        · exact C.sepL _ _ E G hjk hi hk b h1 hb'
        · have := G.lt w (C.okL k G hk) b hb'; omega
    · rcases get k G hk with ⟨rfl, rfl⟩ | ⟨hne', hk⟩
      · rcases hd b hb' with h1 | h1
        · exact C.sepL _ _ F E hjk hj1 hi b hb h1
        · have := F.lt w (C.okL j F hj1) b hb; omega
      · exact C.sepL j k F G hjk hj1 hk b hb hb'
  · intro j k F G hj hk b hb hb'
    rcases get j F hj with ⟨rfl, rfl⟩ | ⟨hne, hj⟩
    · rcases hd b hb with h1 | h1
      · exact C.sepR _ k E G hi hk b h1 hb'
      · have := G.lt w (C.okR k G hk) b hb'; omega
    · exact C.sepR j k F G hj hk b hb hb'
theorem ctx_new {E' : Ent} (C : Ctx w0 D A L R w) (h : Fr nob w w') (ok' : E'.ok w') (hd : ∀ b, E'.dom b → w.heap.size ≤ b) : Ctx w0 D A (L ++ [E']) R w' := by
  have C' := ctx_still C h
  have get : ∀ j F, (L ++ [E'])[j]? = some F → (j = L.length ∧ F = E') ∨ L[j]? = some F := fun j F hj => by
    rcases Nat.lt_trichotomy j L.length with h1 | h1 | h1
    · rw [List.getElem?_append_left h1] at hj; exact .inr hj
    · subst h1; simp at hj; exact .inl ⟨rfl, hj.symm⟩
    · rw [List.getElem?_eq_none (by simp; omega)] at hj; cases hj
  refine ⟨C'.fr, ?_, C'.okR, ?_, ?_, ?_, C.src⟩
  · intro j F hj
    rcases get j F hj with ⟨_, rfl⟩ | hj
    · exact ok'
    · exact C'.okL j F hj
  · intro j F hj b hb
    rcases get j F hj with ⟨_, rfl⟩ | hj
    · exact .inr (Nat.le_trans C.fr.size (hd b hb))
    · exact C.mine j F hj b hb
  · intro j k F G hjk hj hk b hb hb'
    rcases get j F hj with ⟨rfl, rfl⟩ | hj1
    · rcases get k G hk with ⟨rfl, rfl⟩ | hk
      · exact hjk rfl
      · have := G.lt w (C.okL k G hk) b hb'; have := hd b hb; omega
    · rcases get k G hk with ⟨rfl, rfl⟩ | hk
      · have := F.lt w (C.okL j F hj1) b hb; have := hd b hb'; omega
      · exact C.sepL j k F G hjk hj1 hk b hb hb'
  · intro j k F G hj hk b hb hb'
    rcases get j F hj with ⟨_, rfl⟩ | hj
    · have := G.lt w (C.okR k G hk) b hb'; have := hd b hb; omega
    · exact C.sepR j k F G hj hk b hb hb'
/-- One more that is read. -/
theorem ctx_rd {F : Ent} (C : Ctx w0 D A L R w) (ok : F.ok w) (hs : ∀ (i : Nat) (E : Ent), L[i]? = some E → ∀ b, E.dom b → ¬ F.dom b) (hsrc : F.lent = false → ∀ b, F.dom b → A b ∨ D b ∨ w0.heap.size ≤ b) : Ctx w0 D A L (R ++ [F]) w := by
  have get : ∀ j G, (R ++ [F])[j]? = some G → G = F ∨ R[j]? = some G := fun j G hj => by
    rcases Nat.lt_trichotomy j R.length with h1 | h1 | h1
    · rw [List.getElem?_append_left h1] at hj; exact .inr hj
    · subst h1; simp at hj; exact .inl hj.symm
    · rw [List.getElem?_eq_none (by simp; omega)] at hj; cases hj
  refine ⟨C.fr, C.okL, ?_, C.mine, C.sepL, ?_, ?_⟩
  · intro j G hj
    rcases get j G hj with rfl | hj
    · exact ok
    · exact C.okR j G hj
  · intro i j E G hi hj b hb
    rcases get j G hj with rfl | hj
    · exact hs i E hi b hb
    · exact C.sepR i j E G hi hj b hb
  · intro j G hj hl b hb
    rcases get j G hj with rfl | hj
    · exact hsrc hl b hb
    · exact C.src j G hj hl b hb
/-- What is read lies in what is read, or is new. -/
theorem ctx_rdnew {F : Ent} (C : Ctx w0 D A L R w) (h : Fr nob w w') (ok : F.ok w') (hs : ∀ b, F.dom b → (∃ j : Nat, ∃ G : Ent, R[j]? = some G ∧ G.dom b ∧ (F.lent = false → G.lent = false)) ∨ w.heap.size ≤ b) : Ctx w0 D A L (R ++ [F]) w' :=
  ctx_rd (ctx_still C h) ok (fun i E hi b hb hF => by
    rcases hs b hF with ⟨j, G, hj, hG, _⟩ | h1
    · exact C.sepR i j E G hi hj b hb hG
    · have := E.lt w (C.okL i E hi) b hb; omega) (fun hl b hb => by
    rcases hs b hb with ⟨j, G, hj, hG, hf⟩ | h1
    · exact C.src j G hj (hf hl) b hG
    · exact .inr (.inr (Nat.le_trans C.fr.size h1)))
/-- What was owned is read from now on. -/
theorem ctx_share {i : Nat} {E F : Ent} (C : Ctx w0 D A L R w) (hi : L[i]? = some E) (ok : F.ok w) (hd : ∀ b, F.dom b → E.dom b) : Ctx w0 D A (L.set i Ent.nil) (R ++ [F]) w := by
  have C' : Ctx w0 D A (L.set i Ent.nil) R w := ctx_set C hi (Fr.refl _ _) (E' := Ent.nil) trivial (fun b h => h.elim)
  refine ctx_rd C' ok (fun j G hj b hb hF => ?_) (fun _ b hb => .inr (C.mine i E hi b (hd b hb)))
  by_cases e : j = i
  · subst e
    rw [List.getElem?_set_self (List.getElem?_eq_some_iff.1 hi).1] at hj
    cases hj; exact hb
  · rw [List.getElem?_set_ne (Ne.symm e)] at hj
    exact C.sepL j i G E e hj hi b hb (hd b hF)
def pick (is : List Nat) (L : List Ent) : List Ent := is.map fun i => L.getD i Ent.nil
def nodupN : List Nat → Bool
  | [] => true
  | i :: is => !(is.elem i) && nodupN is
theorem nodupN_spec : ∀ (is : List Nat), nodupN is = true → ∀ (j k a : Nat), j ≠ k → is[j]? = some a → is[k]? = some a → False
  | [], _, _, _, _, _, h, _ => by simp at h
  | i :: is, hn, j, k, a, hjk, hj, hk => by
    simp only [nodupN, Bool.and_eq_true, Bool.not_eq_true', List.elem_eq_mem, decide_eq_false_iff_not] at hn
    match j, k with
    | 0, 0 => exact hjk rfl
    | 0, k + 1 => simp at hj hk; subst hj; exact hn.1 (List.mem_of_getElem? hk)
    | j + 1, 0 => simp at hj hk; subst hk; exact hn.1 (List.mem_of_getElem? hj)
    | j + 1, k + 1 => exact nodupN_spec is hn.2 j k a (by omega) (by simpa using hj) (by simpa using hk)
theorem pick_get {is : List Nat} {L : List Ent} {j : Nat} {E : Ent} (h : (pick is L)[j]? = some E) : E = Ent.nil ∨ ∃ i, is[j]? = some i ∧ L[i]? = some E := by
  simp only [pick, List.getElem?_map, Option.map_eq_some_iff] at h
  obtain ⟨i, hi, he⟩ := h
  cases hL : L[i]? with
  | none => left; rw [← he]; simp [List.getD, hL]
  | some F => right; refine ⟨i, hi, ?_⟩; rw [← he]; simp [List.getD, hL]
/-- Some of them, in some order. -/
theorem ctx_pick (is js : List Nat) {L' R' : List Ent} (C : Ctx w0 D A L R w) (hn : nodupN is = true) (hL : pick is L = L') (hR : pick js R = R') : Ctx w0 D A L' R' w := by
  subst hL; subst hR
  refine ⟨C.fr, ?_, ?_, ?_, ?_, ?_, ?_⟩
  · intro j E hj
    rcases pick_get hj with rfl | ⟨i, _, hi⟩
    · trivial
    · exact C.okL i E hi
  · intro j E hj
    rcases pick_get hj with rfl | ⟨i, _, hi⟩
    · trivial
    · exact C.okR i E hi
  · intro j E hj b hb
    rcases pick_get hj with rfl | ⟨i, _, hi⟩
    · exact hb.elim
    · exact C.mine i E hi b hb
  · intro j k E F hjk hj hk b hb hb'
    rcases pick_get hj with rfl | ⟨i, hi', hi⟩
    · exact hb
    · rcases pick_get hk with rfl | ⟨i', hk', hk⟩
      · exact hb'
      · exact C.sepL i i' E F (fun e => nodupN_spec is hn j k i hjk hi' (e ▸ hk')) hi hk b hb hb'
  · intro j k E F hj hk b hb hb'
    rcases pick_get hj with rfl | ⟨i, hi', hi⟩
    · exact hb
    · rcases pick_get hk with rfl | ⟨i', hk', hk⟩
      · exact hb'
      · exact C.sepR i i' E F hi hk b hb hb'
  · intro j E hj hl b hb
    rcases pick_get hj with rfl | ⟨i, _, hi⟩
    · exact hb.elim
    · exact C.src i E hi hl b hb
/-! ### what a call is given, and what it gives back -/
def freeDom (R : List Ent) : Nat → Prop := fun b => ∃ j : Nat, ∃ G : Ent, R[j]? = some G ∧ G.lent = false ∧ G.dom b
/-- An entry that a call may read: it lies in what is read, or, lent, in what is owned and isn't given to the call. -/
def Sub (w : World) (L R : List Ent) (is : List Nat) (E : Ent) : Prop :=
  E.ok w ∧ ∀ b, E.dom b → (∃ j : Nat, ∃ G : Ent, R[j]? = some G ∧ G.dom b ∧ (E.lent = false → G.lent = false)) ∨ (E.lent = true ∧ ∃ i : Nat, ∃ G : Ent, is.elem i = false ∧ L[i]? = some G ∧ G.dom b)
inductive Subs (w : World) (L R : List Ent) (is : List Nat) : List Ent → Prop where
  | nil : Subs w L R is []
  | cons {E : Ent} {Es : List Ent} : Sub w L R is E → Subs w L R is Es → Subs w L R is (E :: Es)
theorem Subs.get {w : World} {L R : List Ent} {is : List Nat} : ∀ {Es : List Ent}, Subs w L R is Es → ∀ (j : Nat) (E : Ent), Es[j]? = some E → Sub w L R is E
  | _, .nil, _, _, h => by simp at h
  | _, .cons a b, 0, E, h => by simp at h; subst h; exact a
  | _, .cons a b, j + 1, E, h => b.get j E (by simpa using h)
theorem sub_sh {is : List Nat} {j : Nat} {E : Ent} (C : Ctx w0 D A L R w) (h : R[j]? = some E) : Sub w L R is E := ⟨C.okR j E h, fun b hb => .inl ⟨j, E, h, hb, id⟩⟩
theorem sub_rd {is : List Nat} {j : Nat} {l : Bool} {v : Value} {n sz : Nat} {cs : List Value} (C : Ctx w0 D A L R w) (h : R[j]? = some (rdE l v n sz cs)) : Sub w L R is (rdE true v n sz cs) :=
  ⟨(C.okR j _ h : (rdE l v n sz cs).ok w), fun b hb => .inl ⟨j, _, h, hb, fun e => by cases e⟩⟩
theorem sub_box {is : List Nat} {j : Nat} {l : Bool} {b T : Nat} {cs : List Value} (C : Ctx w0 D A L R w) (h : R[j]? = some (boxE l b T cs)) : Sub w L R is (boxE true b T cs) :=
  ⟨(C.okR j _ h : (boxE l b T cs).ok w), fun b hb => .inl ⟨j, _, h, hb, fun e => by cases e⟩⟩
theorem sub_boxL {is : List Nat} {i : Nat} {l : Bool} {b T : Nat} {cs : List Value} (C : Ctx w0 D A L R w) (h : L[i]? = some (boxE l b T cs)) (hi : is.elem i = false) : Sub w L R is (boxE true b T cs) :=
  ⟨(C.okL i _ h : (boxE l b T cs).ok w), fun b hb => .inr ⟨rfl, i, _, hi, h, hb⟩⟩
theorem ctx_sub (is : List Nat) {Lp Rp : List Ent} (C : Ctx w0 D A L R w) (hn : nodupN is = true) (hL : pick is L = Lp) (hR : Subs w L R is Rp) : Ctx w (allDom Lp) (freeDom Rp) Lp Rp w := by
  subst hL
  refine ⟨Fr.refl _ _, ?_, fun j E hj => (hR.get j E hj).1, fun j E hj b hb => .inl ⟨j, E, hj, hb⟩, ?_, ?_, fun j E hj hl b hb => .inl ⟨j, E, hj, hl, hb⟩⟩
  · intro j E hj
    rcases pick_get hj with rfl | ⟨i, _, hi⟩
    · trivial
    · exact C.okL i E hi
  · intro j k E F hjk hj hk b hb hb'
    rcases pick_get hj with rfl | ⟨i, hi', hi⟩
    · exact hb
    · rcases pick_get hk with rfl | ⟨i', hk', hk⟩
      · exact hb'
      · exact C.sepL i i' E F (fun e => nodupN_spec is hn j k i hjk hi' (e ▸ hk')) hi hk b hb hb'
  · intro j k E F hj hk b hb hb'
    rcases pick_get hj with rfl | ⟨i, hi', hi⟩
    · exact hb
    · rcases (hR.get k F hk).2 b hb' with ⟨j', G, hG, hd, _⟩ | ⟨_, i', G, hne, hG, hd⟩
      · exact C.sepR i j' E G hi hG b hb hd
      · refine C.sepL i i' E G (fun e => ?_) hi hG b hb hd
        subst e
        have : is.elem i = true := by simpa using List.mem_of_getElem? hi'
        rw [this] at hne; cases hne
def zap (is : List Nat) (L : List Ent) : List Ent := is.foldl (fun L i => L.set i Ent.nil) L
theorem zap_get : ∀ {is : List Nat} {L : List Ent} {j : Nat} {E : Ent}, (zap is L)[j]? = some E → E = Ent.nil ∨ (j ∉ is ∧ L[j]? = some E)
  | [], L, j, E, h => .inr ⟨by simp, h⟩
  | i :: is, L, j, E, h => by
    have h' : (zap is (L.set i Ent.nil))[j]? = some E := h
    rcases zap_get h' with h1 | ⟨h1, h2⟩
    · exact .inl h1
    · by_cases e : i = j
      · subst e
        by_cases hl : i < L.length
        · rw [List.getElem?_set_self hl] at h2; exact .inl (Option.some.inj h2).symm
        · rw [List.getElem?_eq_none (by simp; omega)] at h2; cases h2
      · rw [List.getElem?_set_ne e] at h2
        exact .inr ⟨by simp only [List.mem_cons, not_or]; exact ⟨fun h => e h.symm, h1⟩, h2⟩
theorem app_get {L M : List Ent} {j : Nat} {E : Ent} (h : (L ++ M)[j]? = some E) : (j < L.length ∧ L[j]? = some E) ∨ (L.length ≤ j ∧ M[j - L.length]? = some E) := by
  rcases Nat.lt_or_ge j L.length with h1 | h1
  · rw [List.getElem?_append_left h1] at h; exact .inl ⟨h1, h⟩
  · rw [List.getElem?_append_right h1] at h; exact .inr ⟨h1, h⟩
/-- Behind a call: what it was given is gone, what it gave back is there. -/
theorem ctx_back (is : List Nat) {Lp Rp Lo Ro L' R' : List Ent} (C : Ctx w0 D A L R w) (CC : Ctx w (allDom Lp) (freeDom Rp) Lo Ro w') (hL : pick is L = Lp) (hR : Subs w L R is Rp) (hf : Ro.all (!·.lent) = true)
    (hl : zap is L ++ Lo = L') (hr : R ++ Ro = R') : Ctx w0 D A L' R' w' := by
  subst hl hr hL
  have own : ∀ b, allDom (pick is L) b → ∃ i, ∃ E : Ent, i ∈ is ∧ L[i]? = some E ∧ E.dom b := by
    rintro b ⟨j, E, hj, hb⟩
    rcases pick_get hj with rfl | ⟨i, hi', hi⟩
    · exact hb.elim
    · exact ⟨i, E, List.mem_of_getElem? hi', hi, hb⟩
  -- an entry that stayed has nothing to do with what the call had
  have away : ∀ (j : Nat) (E : Ent), j ∉ is → L[j]? = some E → ∀ b, E.dom b → ¬ allDom (pick is L) b := by
    intro j E hj hE b hb ha
    obtain ⟨i, F, hi, hF, hFb⟩ := own b ha
    exact C.sepL j i E F (fun e => hj (e ▸ hi)) hE hF b hb hFb
  have lentF : ∀ (j : Nat) (E : Ent), Ro[j]? = some E → E.lent = false := by
    intro j E hj
    have := List.all_eq_true.1 hf E (List.mem_of_getElem? hj)
    simpa using this
  refine ⟨C.fr.trans CC.fr (fun x hx => ?_), ?_, ?_, ?_, ?_, ?_, ?_⟩
  · obtain ⟨i, E, _, hE, hb⟩ := own x hx
    exact C.mine i E hE x hb
  · intro j E hj
    rcases app_get hj with ⟨_, hj⟩ | ⟨_, hj⟩
    · rcases zap_get hj with rfl | ⟨h1, h2⟩
      · trivial
      · exact E.keep (C.okL j E h2) CC.fr (away j E h1 h2)
    · exact CC.okL _ E hj
  · intro j E hj
    rcases app_get hj with ⟨_, hj⟩ | ⟨_, hj⟩
    · refine E.keep (C.okR j E hj) CC.fr (fun b hb ha => ?_)
      obtain ⟨i, F, _, hF, hFb⟩ := own b ha
      exact C.sepR i j F E hF hj b hFb hb
    · exact CC.okR _ E hj
  · intro j E hj b hb
    rcases app_get hj with ⟨_, hj⟩ | ⟨_, hj⟩
    · rcases zap_get hj with rfl | ⟨h1, h2⟩
      · exact hb.elim
      · exact C.mine j E h2 b hb
    · rcases CC.mine _ E hj b hb with h1 | h1
      · obtain ⟨i, F, _, hF, hFb⟩ := own b h1; exact C.mine i F hF b hFb
      · exact .inr (Nat.le_trans C.fr.size h1)
  · have cross : ∀ (j k : Nat) (E F : Ent), (zap is L)[j]? = some E → Lo[k]? = some F → ∀ b, E.dom b → ¬ F.dom b := by
      intro j k E F hj hk b hb hb'
      rcases zap_get hj with rfl | ⟨h1, h2⟩
      · exact hb
      · rcases CC.mine _ F hk b hb' with h3 | h3
        · exact away j E h1 h2 b hb h3
        · have := E.lt w (C.okL j E h2) b hb; omega
    intro j k E F hjk hj hk b hb hb'
    rcases app_get hj with ⟨hj1, hj⟩ | ⟨hj1, hj⟩
    · rcases app_get hk with ⟨hk1, hk⟩ | ⟨hk1, hk⟩
      · rcases zap_get hj with rfl | ⟨h1, h2⟩
        · exact hb
        · rcases zap_get hk with rfl | ⟨h3, h4⟩
          · exact hb'
          · exact C.sepL j k E F hjk h2 h4 b hb hb'
      · exact cross j _ E F hj hk b hb hb'
    · rcases app_get hk with ⟨hk1, hk⟩ | ⟨hk1, hk⟩
      · exact cross k _ F E hk hj b hb' hb
      · exact CC.sepL _ _ E F (by omega) hj hk b hb hb'
  · intro j k E F hj hk b hb hb'
    rcases app_get hj with ⟨hj1, hj⟩ | ⟨hj1, hj⟩
    · rcases zap_get hj with rfl | ⟨h1, h2⟩
      · exact hb
      · rcases app_get hk with ⟨hk1, hk⟩ | ⟨hk1, hk⟩
        · exact C.sepR j k E F h2 hk b hb hb'
        · rcases CC.src _ F hk (lentF _ F hk) b hb' with ⟨q, G, hG, hGl, hGb⟩ | h3 | h3
          · rcases (hR.get q G hG).2 b hGb with ⟨j', G', hG', hd, _⟩ | ⟨hl', _⟩
            · exact C.sepR j j' E G' h2 hG' b hb hd
            · rw [hGl] at hl'; cases hl'
          · exact away j E h1 h2 b hb h3
          · have := E.lt w (C.okL j E h2) b hb; omega
    · rcases app_get hk with ⟨hk1, hk⟩ | ⟨hk1, hk⟩
      · rcases CC.mine _ E hj b hb with h3 | h3
        · obtain ⟨i, G, _, hG, hGb⟩ := own b h3
          exact C.sepR i k G F hG hk b hGb hb'
        · have := F.lt w (C.okR k F hk) b hb'; omega
      · exact CC.sepR _ _ E F hj hk b hb hb'
  · intro j E hj hl b hb
    rcases app_get hj with ⟨hj1, hj⟩ | ⟨hj1, hj⟩
    · exact C.src j E hj hl b hb
    · rcases CC.src _ E hj hl b hb with ⟨q, G, hG, hGl, hGb⟩ | h3 | h3
      · rcases (hR.get q G hG).2 b hGb with ⟨j', G', hG', hd, hf'⟩ | ⟨hl', _⟩
        · exact C.src j' G' hG' (hf' hGl) b hd
        · rw [hGl] at hl'; cases hl'
      · obtain ⟨i, F, _, hF, hFb⟩ := own b h3
        exact .inr (C.mine i F hF b hFb)
      · exact .inr (.inr (Nat.le_trans C.fr.size h3))
end ctx
end Go.Proofs.YthdgllldpfeelaaGreatDoor
/- Slots of a frame, and the rules by which code is walked: sequences, tests, blocks, loops, returns. No condition. -/
set_option linter.unusedVariables false
set_option linter.unusedSimpArgs false
namespace Go.Proofs.YthdgllldpfeelaaGreatDoor
open Go

/-! ### slots -/
def look : List (Nat × Value) → Nat → Option Value
  | [], _ => none
  | (i, v) :: m, t => if i == t then some v else look m t
def ev (m : List (Nat × Value)) : Operand → Value
  | .tmp t => (look m t).getD undef
  | .const v => v
  | .global g => .pointer (some ⟨g, 0, none⟩)
  | .func f => .func (.func f) #[] #[]
def known (m : List (Nat × Value)) : Operand → Bool
  | .tmp t => (look m t).isSome
  | _ => true
def del : List (Nat × Value) → Nat → List (Nat × Value)
  | [], _ => []
  | (i, v) :: m, t => if i == t then del m t else (i, v) :: del m t
def putM (m : List (Nat × Value)) : Option Nat → Value → List (Nat × Value)
  | none, _ => m
  | some d, v => (d, v) :: del m d
def keep (m : List (Nat × Value)) : List Nat → List (Nat × Value)
  | [] => []
  | k :: ks => match look m k with
    | some v => (k, v) :: keep m ks
    | none => keep m ks
structure Sl (n : Nat) (m : List (Nat × Value)) (a : Act) : Prop where
  size : a.tmps.size = n
  defers : a.defers = []
  slots : ∀ t v, look m t = some v → a.tmps[t]? = some v
theorem look_del (m : List (Nat × Value)) (d t : Nat) (h : d ≠ t) : look (del m d) t = look m t := by
  induction m with
  | nil => rfl
  | cons p m ih =>
    obtain ⟨i, v⟩ := p
    simp only [del, look]
    by_cases e : i = d
    · subst e; rw [if_pos (by simp), ih, if_neg (by simpa using h)]
    · rw [if_neg (by simpa using e)]; simp only [look, ih]
theorem look_del_self (m : List (Nat × Value)) (d : Nat) : look (del m d) d = none := by
  induction m with
  | nil => rfl
  | cons p m ih =>
    obtain ⟨i, v⟩ := p
    simp only [del]
    by_cases e : i = d
    · subst e; rw [if_pos (by simp), ih]
    · rw [if_neg (by simpa using e)]; simp only [look]; rw [if_neg (by simpa using e), ih]
def wid (n : Nat) : Option Nat → Bool
  | none => true
  | some d => decide (d < n)
theorem Sl.put {n : Nat} {m : List (Nat × Value)} {a : Act} (h : Sl n m a) (d : Option Nat) (v : Value) (hd : wid n d = true) : Sl n (putM m d v) (a.put d v) := by
  cases d with
  | none => exact h
  | some d =>
    have hd' : d < a.tmps.size := by rw [h.size]; simpa [wid] using hd
    refine ⟨by simpa [Act.put] using h.size, h.defers, fun t u hu => ?_⟩
    simp only [putM, look] at hu
    by_cases e : d = t
    · subst e
      rw [if_pos (by simp)] at hu
      cases hu
      simp [Act.put, hd']
    · rw [if_neg (by simpa using e), look_del _ _ _ e] at hu
      simp only [Act.put]
      rw [Array.getElem?_setIfInBounds_ne e]
      exact h.slots t u hu
theorem look_keep {m : List (Nat × Value)} : ∀ {ks : List Nat} {t : Nat} {v : Value}, look (keep m ks) t = some v → look m t = some v
  | [], _, _, h => by simp [keep, look] at h
  | k :: ks, t, v, h => by
    simp only [keep] at h
    cases hk : look m k with
    | none => rw [hk] at h; exact look_keep h
    | some u =>
      rw [hk] at h
      simp only [look] at h
      by_cases e : k = t
      · subst e; rw [if_pos (by simp)] at h; rw [hk]; exact h
      · rw [if_neg (by simpa using e)] at h; exact look_keep h
theorem Sl.keep {n : Nat} {m m' : List (Nat × Value)} {a : Act} (h : Sl n m a) (ks : List Nat) (e : keep m ks = m') : Sl n m' a := by
  subst e
  exact ⟨h.size, h.defers, fun t v hv => h.slots t v (look_keep hv)⟩
theorem Sl.ev {n : Nat} {m : List (Nat × Value)} {a : Act} (h : Sl n m a) {x : Operand} (hk : known m x = true) : a.eval x = ev m x := by
  cases x with
  | tmp t =>
    simp only [known] at hk
    obtain ⟨v, hv⟩ := Option.isSome_iff_exists.1 hk
    simp [Act.eval, Go.Proofs.YthdgllldpfeelaaGreatDoor.ev, hv, h.slots t v hv]
  | _ => rfl
theorem Sl.start (args : List Value) (k : Nat) (m : List (Nat × Value)) (hm : ∀ t v, look m t = some v → args[t]? = some v) :
    Sl (args.length + k) m { tmps := args.toArray ++ Array.replicate k undef, defers := [] } :=
  ⟨by simp, rfl, fun t v hv => by
    have h1 := hm t v hv
    have hlt := (List.getElem?_eq_some_iff.1 h1).1
    rw [Array.getElem?_append_left (by simpa using hlt)]
    simpa using h1⟩
def args0 : Nat → List Value → List (Nat × Value)
  | _, [] => []
  | i, v :: vs => (i, v) :: args0 (i + 1) vs
theorem look_args0 : ∀ (vs : List Value) (i t : Nat) (v : Value), look (args0 i vs) t = some v → i ≤ t ∧ vs[t - i]? = some v
  | [], _, _, _, h => by simp [args0, look] at h
  | u :: vs, i, t, v, h => by
    simp only [args0, look] at h
    by_cases e : i = t
    · subst e; rw [if_pos (by simp)] at h; exact ⟨Nat.le_refl _, by simpa using h⟩
    · rw [if_neg (by simpa using e)] at h
      obtain ⟨h1, h2⟩ := look_args0 vs (i + 1) t v h
      refine ⟨by omega, ?_⟩
      rw [show t - i = (t - (i + 1)) + 1 by omega]
      simpa using h2

/-! ### code -/
end Go.Proofs.YthdgllldpfeelaaGreatDoor
namespace Go
def Code.fst : Code → Code
  | .seq a _ => a
  | .cond _ t _ => t
  | .block _ b => b
  | .loop b => b
  | .scope b => b
  | c => c
def Code.snd : Code → Code
  | .seq _ b => b
  | .cond _ _ e => e
  | c => c
def Code.ops : Code → Array Oper
  | .region _ o _ => o
  | _ => #[]
def Code.test : Code → Operand
  | .cond c _ _ => c
  | _ => .const undef
/-- Which kind of code: 1 a sequence, 2 a region, 3 one that draws its order, 4 a test, 5 a block, 6 a loop, 7 an exit, 8 a return, 9 skip, 10 a label. -/
def Code.kind : Code → Nat × Nat
  | .seq _ _ => (1, 0)
  | .region i _ false => (2, i)
  | .region i _ true => (3, i)
  | .cond _ _ _ => (4, 0)
  | .block i _ => (5, i)
  | .loop _ => (6, 0)
  | .exit i => (7, i)
  | .ret => (8, 0)
  | .skip => (9, 0)
  | .label _ => (10, 0)
  | .scope _ => (11, 0)
  | _ => (0, 0)
end Go
namespace Go.Proofs.YthdgllldpfeelaaGreatDoor
open Go
/-- Nothing is asked of the calls; in a round of a loop over a function, or in none. -/
def FR (ro : Option Nat) : Fence := { Fence.wide with round := ro }
section code
variable {ro : Option Nat} {P : Program} {Q : Exit → Act → World → Prop} {a : Act} {w : World} {c : Code}
theorem c_seq (h : c.kind = (1, 0)) (hx : c.fst.wpIn (FR ro) 3 P (Exit.then (fun a w => c.snd.wpIn (FR ro) 3 P Q a w) Q) a w) : c.wpIn (FR ro) 3 P Q a w := by
  cases c <;> simp [Code.kind] at h
  case seq x y => exact wpIn_seq hx
  case region i o d => cases d <;> simp at h
theorem c_join (h : c.kind = (1, 0)) (I : Act → World → Prop) (hy : ∀ a w, I a w → c.snd.wpIn (FR ro) 3 P Q a w) (hx : c.fst.wpIn (FR ro) 3 P (Exit.then I Q) a w) : c.wpIn (FR ro) 3 P Q a w :=
  c_seq h (wpIn_mono hx fun e a w q => by cases e <;> first | exact hy a w q | exact q)
theorem c_cond (h : c.kind = (4, 0)) {t : Bool} (hc : a.eval c.test = .bool t) (h1 : t = true → c.fst.wpIn (FR ro) 3 P Q a w) (h2 : t = false → c.snd.wpIn (FR ro) 3 P Q a w) : c.wpIn (FR ro) 3 P Q a w := by
  cases c <;> simp [Code.kind] at h
  case cond x y z => exact wpIn_cond_split hc h1 h2
  case region i o d => cases d <;> simp at h
theorem c_block {i : Nat} (h : c.kind = (5, i)) (hx : c.fst.wpIn (FR ro) 3 P (Exit.inBlock i Q) a w) : c.wpIn (FR ro) 3 P Q a w := by
  cases c <;> simp [Code.kind] at h
  case block j b => subst h; exact wpIn_block hx
  case region i o d => cases d <;> simp at h
theorem c_loop (h : c.kind = (6, 0)) (I : Nat → Act → World → Prop) (k : Nat) (h0 : I k a w)
    (hr : ∀ k a w, I k a w → c.fst.wpIn (FR ro) 3 P (Exit.then (fun a' w' => ∃ j, j < k ∧ I j a' w') Q) a w) : c.wpIn (FR ro) 3 P Q a w := by
  cases c <;> simp [Code.kind] at h
  case loop b =>
    intro bf kk cs hro hb hr'
    have key : ∀ n a w, I n a w → ∃ e a' w', Q e a' w' ∧ ArrivesIn (Machine.fenced P (FR ro)) P (lone (bf.atR a (.code b :: .inLoop b :: kk)) cs w) bf kk cs e a' w' := by
      intro n
      induction n using Nat.strongRecOn with
      | _ n ih =>
        intro a w hI
        obtain ⟨e, a₁, w₁, hq, harr⟩ := hr n a w hI bf (.inLoop b :: kk) cs hro hb hr'
        cases e with
        | normal =>
          obtain ⟨j, hj, hI₁⟩ := hq
          obtain ⟨e₂, a₂, w₂, hq₂, harr₂⟩ := ih j hj a₁ w₁ hI₁
          exact ⟨e₂, a₂, w₂, hq₂, .of_steps (StepsIn.trans harr (.one (fenced_calm hb hr' rfl) stepR_inLoop)) harr₂⟩
        | exit id => exact ⟨_, a₁, w₁, hq, .pass (x := .inLoop b) rfl (fun _ _ => .inl (by simp)) harr⟩
        | goto l => exact ⟨_, a₁, w₁, hq, .pass (x := .inLoop b) rfl (fun _ _ => .inl (by simp)) harr⟩
        | ret => exact ⟨_, a₁, w₁, hq, .pass (x := .inLoop b) rfl (fun _ _ => .inl (by simp)) harr⟩
        | panic ch => exact ⟨_, a₁, w₁, hq, .pass (x := .inLoop b) rfl (fun _ _ => .inl (by simp)) harr⟩
        | outgrown => exact ⟨_, a₁, w₁, hq, .pass (x := .inLoop b) rfl (fun _ _ => .inl (by simp)) harr⟩
    obtain ⟨e, a', w', hq, harr⟩ := key k a w h0
    exact ⟨e, a', w', hq, .of_steps (.one (fenced_calm hb hr' rfl) stepR_loop) harr⟩
  case region i o d => cases d <;> simp at h
theorem c_exit {i : Nat} (h : c.kind = (7, i)) (hq : Q (.exit i) a w) : c.wpIn (FR ro) 3 P Q a w := by
  cases c <;> simp [Code.kind] at h
  case exit j => subst h; exact wpIn_exit hq
  case region i o d => cases d <;> simp at h
theorem c_ret (h : c.kind = (8, 0)) (hq : Q .ret a w) : c.wpIn (FR ro) 3 P Q a w := by
  cases c <;> simp [Code.kind] at h
  case ret => exact wpIn_ret hq
  case region i o d => cases d <;> simp at h
theorem c_skip (h : c.kind = (9, 0)) (hq : Q .normal a w) : c.wpIn (FR ro) 3 P Q a w := by
  cases c <;> simp [Code.kind] at h
  case skip => exact wpIn_skip hq
  case region i o d => cases d <;> simp at h
theorem c_label (h : c.kind = (10, 0)) (hq : Q .normal a w) : c.wpIn (FR ro) 3 P Q a w := by
  cases c <;> simp [Code.kind] at h
  case label => exact wpIn_label hq
  case region i o d => cases d <;> simp at h
theorem wp_scope' {x : Code} (h : x.wpIn (FR ro) 3 P Q a w) (hg : ∀ l a w, ¬ Q (.goto l) a w) : (Code.scope x).wpIn (FR ro) 3 P Q a w := by
  intro b k cs hro hb hr
  have hs : step P (lone (b.atR a (.code (.scope x) :: k)) cs w) = .next (lone (b.atR a (.code x :: .inScope x :: k)) cs w) :=
    step_lone_go (by simp [stepG, stepG.exec, Frame.atR])
  have hi : ∀ a w, step P (lone (b.atR a (.inScope x :: k)) cs w) = .next (lone (b.atR a k) cs w) := fun a w =>
    step_lone_go (by simp [stepG, stepG.exec, Frame.atR])
  have h0 : (lone (b.atR a (.code (.scope x) :: k)) cs w).fenced P (FR ro) := fenced_calm hb hr rfl
  obtain ⟨e, a₁, w₁, hq, harr⟩ := h b (.inScope x :: k) cs hro hb hr
  have hx : ∀ id, exitTo id (.inScope x :: k) = exitTo id k := fun id => by simp [exitTo]
  cases e with
  | normal => exact ⟨.normal, a₁, w₁, hq, .head h0 hs (StepsIn.trans harr (.one (fenced_calm hb hr rfl) (hi _ _)))⟩
  | exit id => exact ⟨_, a₁, w₁, hq, fun k' hk => .head h0 hs (harr.1 k' (by rw [hx]; exact hk)),
        fun hr' hk => let ⟨k₁, h1, h2⟩ := harr.2 hr' (by rw [hx]; exact hk); ⟨k₁, h1, .head h0 hs h2⟩⟩
  | goto l => exact absurd hq (hg l a₁ w₁)
  | ret => exact ⟨_, a₁, w₁, hq, .of_steps (.one h0 hs) harr⟩
  | panic ch => exact ⟨_, a₁, w₁, hq, .of_steps (.one h0 hs) harr⟩
  | outgrown => exact ⟨_, a₁, w₁, hq, .of_steps (.one h0 hs) harr⟩
/-- A post that no goto meets. -/
def noGoto (Q : Exit → Act → World → Prop) : Exit → Act → World → Prop
  | .goto _, _, _ => False
  | e, a, w => Q e a w
theorem c_scope (h : c.kind = (11, 0)) (hx : c.fst.wpIn (FR ro) 3 P (noGoto Q) a w) : c.wpIn (FR ro) 3 P Q a w := by
  cases c <;> simp [Code.kind] at h
  case scope x => exact wpIn_mono (wp_scope' hx (fun _ _ _ h => h)) (fun e a w q => by cases e <;> first | exact q | exact q.elim)
  case region i o d => cases d <;> simp at h
theorem q_sc (h : Q .normal a w) : noGoto Q .normal a w := h
theorem q_scr (h : Q .ret a w) : noGoto Q .ret a w := h
theorem q_scx {i : Nat} (h : Q (.exit i) a w) : noGoto Q (.exit i) a w := h
theorem q_then {K : Act → World → Prop} (h : K a w) : Exit.then K Q .normal a w := h
theorem q_thenx {K : Act → World → Prop} {i : Nat} (h : Q (.exit i) a w) : Exit.then K Q (.exit i) a w := h
theorem q_thenr {K : Act → World → Prop} (h : Q .ret a w) : Exit.then K Q .ret a w := h
theorem q_in {i : Nat} (h : Q .normal a w) : Exit.inBlock i Q .normal a w := h
theorem q_inr {i : Nat} (h : Q .ret a w) : Exit.inBlock i Q .ret a w := h
theorem q_inx {i : Nat} (h : Q .normal a w) : Exit.inBlock i Q (.exit i) a w := by simpa [Exit.inBlock] using h
theorem q_iny {i j : Nat} (hne : j ≠ i) (h : Q (.exit j) a w) : Exit.inBlock i Q (.exit j) a w := by simp only [Exit.inBlock, if_neg hne]; exact h
/-- A post from which nothing panics. -/
def calmQ (Q : Exit → Act → World → Prop) : Exit → Act → World → Prop
  | .panic _, _, _ => False
  | e, a, w => Q e a w
theorem c_calm (h : c.wpIn (FR ro) 3 P (calmQ Q) a w) : c.wpIn (FR ro) 3 P Q a w := wpIn_mono h fun e a w q => by cases e <;> first | exact q | exact q.elim
/-- The end of a function. -/
def resM (m : List (Nat × Value)) : List ResultVar → Option (List Value)
  | [] => some []
  | .tmp t :: rs => match look m t, resM m rs with
    | some v, some vs => some (v :: vs)
    | _, _ => none
  | _ :: _ => none
def one1 : List Value → Value
  | [v] => v
  | vs => .tuple vs.toArray
theorem run_results {P : Program} {m : List (Nat × Value)} (g : ResultVar → Sem Value) (w : World) (hg : ∀ t v, look m t = some v → (g (.tmp t)).run P w = .ok v w) : ∀ (rs : List ResultVar) (vs : List Value), resM m rs = some vs →
    (rs.mapM g).run P w = .ok vs w
  | [], vs, h => by simp [resM] at h; subst h; simp
  | .tmp t :: rs, vs, h => by
    simp only [resM] at h
    cases ht : look m t with
    | none => simp [ht] at h
    | some v =>
      cases hr : resM m rs with
      | none => simp [ht, hr] at h
      | some us =>
        simp [ht, hr] at h
        subst h
        simp [List.mapM_cons, run_results g w hg rs us hr, hg t v ht]
  | .cell _ _ :: _, _, h => by simp [resM] at h
theorem q_ret {n : Nat} {m : List (Nat × Value)} {fn : Func} {R : Ending → World → Prop} {vs : List Value} (hS : Sl n m a) (hr : resM m fn.results.toList = some vs) (hR : R (.returned (one1 vs)) w) :
    bodyPost P fn R .ret a w := by
  refine ⟨hS.defers, one1 vs, ?_, hR⟩
  have e : fn.results = fn.results.toList.toArray := by simp
  unfold results
  rw [e]
  simp only [List.mapM_toArray, Sem.run_bind, Sem.run_map]
  rw [run_results (m := m) _ w (fun t v ht => by simp [hS.slots t v ht]) fn.results.toList vs hr]
  simp only [Result.andThen_ok, Sem.run_pure]
  match vs with
  | [] => rfl
  | [v] => rfl
  | _ :: _ :: _ => simp [one1]
theorem q_end {n : Nat} {m : List (Nat × Value)} {fn : Func} {R : Ending → World → Prop} {vs : List Value} (hS : Sl n m a) (hr : resM m fn.results.toList = some vs) (hR : R (.returned (one1 vs)) w) :
    bodyPost P fn R .normal a w := q_ret (P := P) (fn := fn) (R := R) hS hr hR
def bd (fn : Func) : Code := fn.body.getD .skip
theorem f_enter {f : FuncId} {fn : Func} {args : List Value} {k : Nat} {R : Ending → World → Prop} (hf : P.funcs[f]? = some fn) (hb : fn.body.isSome = true) (hk : fn.ntmps - args.length = k)
    (h : ∀ a, Sl (args.length + k) (args0 0 args) a → (bd fn).wpIn (FR none) 3 P (bodyPost P fn R) a w) : Calls P f args.toArray w R := by
  obtain ⟨c, hc⟩ := Option.isSome_iff_exists.1 hb
  refine calls_of_wp hf hc ?_
  have := h _ (Sl.start args k (args0 0 args) (fun t v hv => by have := (look_args0 args 0 t v hv).2; simpa using this))
  simp only [bd, hc, Option.getD_some] at this
  have this : Code.wpIn Fence.wide 3 P c _ _ w := this
  exact wpIn_wide.1 (by simpa [hk] using this)
end code
end Go.Proofs.YthdgllldpfeelaaGreatDoor
/- What the operations do: those that only compute, at once and by reckoning; those that read and write memory, one by one. No condition. -/
set_option linter.unusedVariables false
set_option linter.unusedSimpArgs false
namespace Go.Proofs.YthdgllldpfeelaaGreatDoor
open Go

/-! ### operations that only compute -/
def isTy (P : Program) (t : TypeId) : Nat :=
  match P.underlying t with
  | some .bool => 1
  | some (.int _) => 2
  | some .string => 3
  | some (.slice _) => 4
  | some (.struct _) => 5
  | some (.array _ _) => 6
  | some (.pointer _) => 7
  | some (.map _ _) => 8
  | some (.func _ _ _) => 9
  | some _ => 10
  | none => 0
def scal (P : Program) (t : TypeId) : Bool := let n := isTy P t; !(n == 0 || n == 5 || n == 6)
theorem agg_no {P : Program} {t : TypeId} (h : scal P t = true) (w : World) : (isAgg t).run P w = .ok false w := by
  unfold scal isTy at h
  unfold isAgg
  cases hu : P.underlying t with
  | none => simp [hu] at h
  | some d => rw [Sem.run_bind, run_underlying hu w]; cases d <;> simp_all
def intV (op : BinOp) (k : IntKind) (a b : Int) : Option Value :=
  match op with
  | .add => some (.int k (k.wrap (a + b)))
  | .sub => some (.int k (k.wrap (a - b)))
  | .mul => some (.int k (k.wrap (a * b)))
  | .quo => if b = 0 then none else some (.int k (k.wrap (a.tdiv b)))
  | .rem => if b = 0 then none else some (.int k (a.tmod b))
  | .and => some (.int k (k.wrap (BitVec.ofInt k.bits a &&& BitVec.ofInt k.bits b).toNat))
  | .or => some (.int k (k.wrap (BitVec.ofInt k.bits a ||| BitVec.ofInt k.bits b).toNat))
  | .xor => some (.int k (k.wrap (BitVec.ofInt k.bits a ^^^ BitVec.ofInt k.bits b).toNat))
  | .andNot => some (.int k (k.wrap (BitVec.ofInt k.bits a &&& ~~~(BitVec.ofInt k.bits b)).toNat))
  | .eql => some (.bool (a == b))
  | .neq => some (.bool (a != b))
  | .lss => some (.bool (decide (a < b)))
  | .leq => some (.bool (decide (a ≤ b)))
  | .gtr => some (.bool (decide (a > b)))
  | .geq => some (.bool (decide (a ≥ b)))
  | _ => none
def binV (P : Program) (op : BinOp) (t : TypeId) : Value → Value → Option Value
  | .int k a, .int k' b =>
    match op with
    | .shl => if b < 0 then none else some (.int k (k.wrap (a * 2 ^ (min b.toNat k.bits))))
    | .shr => if b < 0 then none else some (.int k (a.fdiv (2 ^ (min b.toNat k.bits))))
    | _ => if k = k' then intV op k a b else none
  | .bool a, .bool b =>
    match op with
    | .eql => if isTy P t = 1 then some (.bool (a == b)) else none
    | .neq => if isTy P t = 1 then some (.bool (!(a == b))) else none
    | _ => none
  | .string a, .string b =>
    match op with
    | .eql => some (.bool (a.toList == b.toList))
    | .neq => some (.bool (!(a.toList == b.toList)))
    | .lss => some (.bool (Op.bytesLess a.toList b.toList))
    | .leq => some (.bool (Op.bytesLess a.toList b.toList || a.toList == b.toList))
    | .gtr => some (.bool (!(Op.bytesLess a.toList b.toList || a.toList == b.toList)))
    | .geq => some (.bool (!(Op.bytesLess a.toList b.toList)))
    | _ => none
  | .pointer a, .pointer b =>
    if isTy P t = 7 then match op, a, b with
      | .eql, none, _ => some (.bool b.isNone)
      | .eql, some _, none => some (.bool false)
      | .neq, none, _ => some (.bool (!b.isNone))
      | .neq, some _, none => some (.bool true)
      | _, _, _ => none
    else none
  | .nilFunc, .nilFunc => if isTy P t = 9 then match op with
      | .eql => some (.bool true)
      | .neq => some (.bool false)
      | _ => none
    else none
  | .func _ _ _, .nilFunc => if isTy P t = 9 then match op with
      | .eql => some (.bool false)
      | .neq => some (.bool true)
      | _ => none
    else none
  | _, _ => none
def fieldAt? (P : Program) (s : TypeId) (f : Nat) : Option Nat :=
  match P.underlying s with
  | some (.struct fs) => match fs[f]? with
    | some fd => match P.info? fd.type with
      | some i => if i.size = 0 then none else some fd.offset
      | none => none
    | none => none
  | _ => none
def buildV (P : Program) (t : TypeId) (parts : List (Nat × Value)) : Option Value :=
  match P.info? t, P.underlying t with
  | some i, some (.struct fs) => match i.zero with
    | some z => (Instr.fill (fun j => match fs[j]? with | some f => (P.info? f.type).map fun i => (f.offset, i.size) | none => none) z.cells parts).map .agg
    | none => none
  | _, _ => none
def callV (P : Program) (ρ : Operand → Value) (c : Call) : Option Value :=
  match c.callee with
  | .builtin b => match b, c.args.toList, c.argTypes.toList with
    | .len, [x], [t] => match isTy P t, ρ x with
      | 3, .string s => some (.int .i64 s.size)
      | 4, .slice _ n _ => some (.int .i64 n)
      | _, _ => none
    | .min, [x, y], _ => match ρ x, ρ y with
      | .int k a, .int _ b => some (.int k (if b < a then b else a))
      | _, _ => none
    | .max, [x, y], _ => match ρ x, ρ y with
      | .int k a, .int _ b => some (.int k (if b > a then b else a))
      | _, _ => none
    | .min, [x, y, z], _ => match ρ x, ρ y, ρ z with
      | .int k a, .int _ b, .int _ c => some (.int k (if c < (if b < a then b else a) then c else (if b < a then b else a)))
      | _, _, _ => none
    | .max, [x, y, z], _ => match ρ x, ρ y, ρ z with
      | .int k a, .int _ b, .int _ c => some (.int k (if c > (if b > a then b else a) then c else (if b > a then b else a)))
      | _, _, _ => none
    | _, _, _ => none
  | _ => none
def arrAt? (P : Program) (t : TypeId) : Option (Nat × Nat) :=
  match P.underlying t with
  | some (.array n e) => (P.info? e).map fun i => (n, i.size)
  | _ => none
def pureV (P : Program) (ρ : Operand → Value) : Op → Option Value
  | .move x | .assign x => some (ρ x)
  | .pick c x y => match ρ c with
    | .bool true => some (ρ x)
    | .bool false => some (ρ y)
    | _ => none
  | .binOp op t x y _ => binV P op t (ρ x) (ρ y)
  | .unOp op _ x => match op, ρ x with
    | .not, .bool b => some (.bool (!b))
    | .neg, .int k n => some (.int k (k.wrap (0 - n)))
    | .xor, .int k n => intV .xor k (if k.signed then -1 else k.max) n
    | _, _ => none
  | .nilCheck x => match ρ x with
    | .pointer (some a) => some (.pointer (some a))
    | _ => none
  | .field t x f => match P.underlying t, ρ x with
    | some (.struct fs), .agg cs => match fs[f]? with
      | some fd => if scal P fd.type then cs[fd.offset]? else none
      | none => none
    | _, _ => none
  | .convert src dst x => match P.underlying src, P.underlying dst, ρ x with
    | some _, some (.int k), .int _ n => some (.int k (k.wrap n))
    | _, _, _ => none
  | .extract t ix => match ρ t with
    | .tuple vs => vs[ix]?
    | _ => none
  | .fieldAddr s x f => match ρ x, fieldAt? P s f with
    | .pointer (some a), some off => some (.pointer (some (a.add off)))
    | _, _ => none
  | .indexAddr t x y => match ρ x, ρ y, arrAt? P t with
    | .pointer (some a), .int _ i, some (n, sz) => if 0 ≤ i ∧ i < n then some (.pointer (some (a.add (i.toNat * sz)))) else none
    | _, _, _ => none
  | .makeFunc fn fs cs => some (.func fn (fs.map ρ) (cs.map ρ))
  | .call c => callV P ρ c
  | _ => none
def Runs (P : Program) (ρ : Operand → Value) (op : Op) (w : World) (v : Value) (w' : World) : Prop :=
  ∀ o : Oper, o.op = op → (execOp ρ o).run P w = .ok (.value v) w'
theorem isTy_spec {P : Program} {t : TypeId} {n : Nat} (h : isTy P t = n) (hn : n ≠ 0) : ∃ d, P.underlying t = some d := by
  unfold isTy at h
  cases hu : P.underlying t with
  | none => rw [hu] at h; exact absurd h.symm hn
  | some d => exact ⟨d, rfl⟩
theorem run_eqGuard_int (P : Program) (w : World) (op : BinOp) (t : TypeId) (x y : Operand) (k k' : IntKind) (a b : Int) : (eqGuard op t x y (.int k a) (.int k' b)).run P w = .ok () w := by
  unfold eqGuard; split <;> rfl
theorem run_eqGuard_bool (P : Program) (w : World) (op : BinOp) (t : TypeId) (x y : Operand) (a b : Bool) : (eqGuard op t x y (.bool a) (.bool b)).run P w = .ok () w := by
  unfold eqGuard; split <;> rfl
theorem run_eqGuard_str (P : Program) (w : World) (op : BinOp) (t : TypeId) (x y : Operand) (a b : ByteArray) : (eqGuard op t x y (.string a) (.string b)).run P w = .ok () w := by
  unfold eqGuard; split <;> rfl
theorem run_intV {P : Program} {w : World} {op : BinOp} {t : TypeId} {k : IntKind} {a b : Int} {v : Value} (hs : op ≠ .shl ∧ op ≠ .shr) (h : intV op k a b = some v) :
    (binOp op t (.int k a) (.int k b)).run P w = .ok v w := by
  cases op <;> simp only [intV] at h
  case quo => split at h <;> first | (cases h; done) | (rename_i hb; cases h; simp [binOp, Op.intDiv, hb])
  case rem => split at h <;> first | (cases h; done) | (rename_i hb; cases h; simp [binOp, Op.intDiv, hb])
  case shl => exact absurd rfl hs.1
  case shr => exact absurd rfl hs.2
  all_goals first | (cases h; done) | (cases h; simp [binOp, Op.intArith, Op.intBits, Op.intCmp])
theorem run_eqBool {P : Program} {t : TypeId} (hu : P.underlying t = some .bool) (d : Nat) (a b : Bool) (w : World) : (Op.equalIn (d + 1) t (.bool a) (.bool b)).run P w = .ok (a == b) w := by
  simp [Op.equalIn, run_underlying hu]
theorem run_equalBool {P : Program} {t : TypeId} (hu : P.underlying t = some .bool) (a b : Bool) (w : World) : (Op.equal t (.bool a) (.bool b)).run P w = .ok (a == b) w :=
  run_eqBool hu 9999 a b w
theorem isTy1 {P : Program} {t : TypeId} (h : isTy P t = 1) : P.underlying t = some .bool := by
  unfold isTy at h
  split at h <;> first | assumption | (exfalso; revert h; decide)
theorem isTy7 {P : Program} {t : TypeId} (h : isTy P t = 7) : ∃ e, P.underlying t = some (.pointer e) := by
  unfold isTy at h
  split at h <;> first | exact ⟨_, by assumption⟩ | (exfalso; revert h; decide)
theorem isTy9 {P : Program} {t : TypeId} (h : isTy P t = 9) : ∃ a b c, P.underlying t = some (.func a b c) := by
  unfold isTy at h
  split at h <;> first | exact ⟨_, _, _, by assumption⟩ | (exfalso; revert h; decide)
theorem run_ptr0in {P : Program} {t e : TypeId} (hu : P.underlying t = some (.pointer e)) (d : Nat) (b : Option Addr) (w : World) : (Op.equalIn (d + 1) t (.pointer none) (.pointer b)).run P w = .ok b.isNone w := by
  simp [Op.equalIn, run_underlying hu]
theorem run_ptr0 {P : Program} {t e : TypeId} (hu : P.underlying t = some (.pointer e)) {b : Option Addr} {w : World} : (Op.equal t (.pointer none) (.pointer b)).run P w = .ok b.isNone w := run_ptr0in hu 9999 b w
theorem run_ptr1in {P : Program} {t e : TypeId} (hu : P.underlying t = some (.pointer e)) (d : Nat) (a : Addr) (w : World) : (Op.equalIn (d + 1) t (.pointer (some a)) (.pointer none)).run P w = .ok false w := by
  simp [Op.equalIn, run_underlying hu]
theorem run_ptr1 {P : Program} {t e : TypeId} (hu : P.underlying t = some (.pointer e)) {a : Addr} {w : World} : (Op.equal t (.pointer (some a)) (.pointer none)).run P w = .ok false w := run_ptr1in hu 9999 a w
theorem run_nf0in {P : Program} {t : TypeId} {x y z} (hu : P.underlying t = some (.func x y z)) (d : Nat) (w : World) : (Op.equalIn (d + 1) t .nilFunc .nilFunc).run P w = .ok true w := by
  simp [Op.equalIn, run_underlying hu]
theorem run_nf0 {P : Program} {t : TypeId} {x y z} (hu : P.underlying t = some (.func x y z)) {w : World} : (Op.equal t .nilFunc .nilFunc).run P w = .ok true w := run_nf0in hu 9999 w
theorem run_nf1in {P : Program} {t : TypeId} {x y z} (hu : P.underlying t = some (.func x y z)) (d : Nat) (a : Fn) (b c : Array Value) (w : World) : (Op.equalIn (d + 1) t (.func a b c) .nilFunc).run P w = .ok false w := by
  simp [Op.equalIn, run_underlying hu]
theorem run_nf1 {P : Program} {t : TypeId} {x y z} (hu : P.underlying t = some (.func x y z)) {a : Fn} {b c : Array Value} {w : World} : (Op.equal t (.func a b c) .nilFunc).run P w = .ok false w := run_nf1in hu 9999 a b c w
theorem run_min2 {P : Program} {k k' : IntKind} {a b : Int} {w : World} : (Builtin.min2 (.int k a) (.int k' b)).run P w = .ok (.int k (if b < a then b else a)) w := rfl
theorem run_max2 {P : Program} {k k' : IntKind} {a b : Int} {w : World} : (Builtin.max2 (.int k a) (.int k' b)).run P w = .ok (.int k (if b > a then b else a)) w := rfl
theorem run_eqGuard_ptr (P : Program) (w : World) (op : BinOp) (t : TypeId) (x y : Operand) (a b : Option Addr) : (eqGuard op t x y (.pointer a) (.pointer b)).run P w = .ok () w := by
  unfold eqGuard; split <;> rfl
theorem run_eqGuard_nf (P : Program) (w : World) (op : BinOp) (t : TypeId) (x y : Operand) : (eqGuard op t x y .nilFunc .nilFunc).run P w = .ok () w := by
  unfold eqGuard; split <;> rfl
theorem run_eqGuard_fn (P : Program) (w : World) (op : BinOp) (t : TypeId) (x y : Operand) (a : Fn) (b c : Array Value) : (eqGuard op t x y (.func a b c) .nilFunc).run P w = .ok () w := by
  unfold eqGuard; split <;> rfl
theorem run_binV {P : Program} {w : World} {op : BinOp} {t : TypeId} {x y v : Value} (h : binV P op t x y = some v) : (binOp op t x y).run P w = .ok v w := by
  cases x <;> cases y <;> simp only [binV] at h <;> (try (cases h; done))
  case bool.bool a b =>
    cases op <;> simp only at h <;> (try (cases h; done)) <;> (split at h <;> (try (cases h; done))) <;> (rename_i ht; cases h) <;>
      simp only [binOp, Sem.run_bind, run_equalBool (isTy1 ht), Result.andThen_ok, Sem.run_pure]
  case int.int k a k' b =>
    cases op <;> simp only at h <;> first
      | (split at h <;> first
         | (cases h; done)
         | (rename_i hb; cases h; simp only [binOp, Op.shift, if_neg hb, Sem.run_pure]))
      | (split at h <;> first
         | (cases h; done)
         | (rename_i hk; subst hk; exact run_intV (by simp) h))
  case string.string a b =>
    cases op <;> simp only at h <;> first | (cases h; done) | (cases h; simp only [binOp, Op.stringOp, Sem.run_pure])
  case pointer.pointer a b =>
    split at h
    · rename_i ht
      obtain ⟨e, he⟩ := isTy7 ht
      cases a with
      | none => cases op <;> simp only at h <;> (try (cases h; done)) <;> (cases h; simp only [binOp, Sem.run_bind, run_ptr0 he, Result.andThen_ok, Sem.run_pure])
      | some a => cases b with
        | none => cases op <;> simp only at h <;> (try (cases h; done)) <;> (cases h; simp only [binOp, Sem.run_bind, run_ptr1 he, Result.andThen_ok, Sem.run_pure]; try rfl)
        | some b => cases op <;> simp only at h <;> (try (cases h; done))
    · cases h
  case nilFunc.nilFunc =>
    split at h
    · rename_i ht
      obtain ⟨a, b, c, he⟩ := isTy9 ht
      cases op <;> simp only at h <;> (try (cases h; done)) <;> cases h <;> simp only [binOp, Sem.run_bind, run_nf0 he, Result.andThen_ok, Sem.run_pure] <;> rfl
    · cases h
  case func.nilFunc a b c =>
    split at h
    · rename_i ht
      obtain ⟨a, b, c, he⟩ := isTy9 ht
      cases op <;> simp only at h <;> (try (cases h; done)) <;> cases h <;> simp only [binOp, Sem.run_bind, run_nf1 he, Result.andThen_ok, Sem.run_pure] <;> rfl
    · cases h
theorem isTy3 {P : Program} {t : TypeId} (h : isTy P t = 3) : P.underlying t = some .string := by
  unfold isTy at h
  split at h <;> first | assumption | (exfalso; revert h; decide)
theorem isTy4 {P : Program} {t : TypeId} (h : isTy P t = 4) : ∃ e, P.underlying t = some (.slice e) := by
  unfold isTy at h
  split at h <;> first | exact ⟨_, by assumption⟩ | (exfalso; revert h; decide)
theorem arr_of_list {α : Type} {xs : Array α} {l : List α} (h : xs.toList = l) : xs = l.toArray := by rw [← h]
theorem runs_call {P : Program} {ρ : Operand → Value} {c : Call} {v : Value} (h : callV P ρ c = some v) (w : World) : Runs P ρ (.call c) w v w := by
  intro o ho
  simp only [execOp, ho]
  unfold callV at h
  split at h
  · rename_i b hb
    split at h
    · rename_i x t hx ht
      have hx := arr_of_list hx
      have ht := arr_of_list ht
      split at h
      · rename_i s h3 hs
        cases h
        simp [resolve, hb, invoke, builtin, Builtin.len_, hx, ht, run_underlying (isTy3 h3), hs, goInt]
      · rename_i n cp h4 hs
        cases h
        obtain ⟨e, he⟩ := isTy4 h4
        simp [resolve, hb, invoke, builtin, Builtin.len_, hx, ht, run_underlying he, hs, goInt]
      · cases h
    · rename_i x y _ hx
      have hx := arr_of_list hx
      split at h
      · rename_i k a _ b h1 h2
        cases h
        simp [resolve, hb, invoke, builtin, Builtin.min_, hx, h1, h2, Builtin.min2]
      · cases h
    · rename_i x y _ hx
      have hx := arr_of_list hx
      split at h
      · rename_i k a _ b h1 h2
        cases h
        simp [resolve, hb, invoke, builtin, Builtin.max_, hx, h1, h2, Builtin.max2]
      · cases h
    · rename_i x y z _ hx
      have hx := arr_of_list hx
      split at h
      · rename_i k a _ b _ c h1 h2 h3
        cases h
        simp [resolve, hb, invoke, builtin, Builtin.min_, hx, h1, h2, h3, run_min2]
      · cases h
    · rename_i x y z _ hx
      have hx := arr_of_list hx
      split at h
      · rename_i k a _ b _ c h1 h2 h3
        cases h
        simp [resolve, hb, invoke, builtin, Builtin.max_, hx, h1, h2, h3, run_max2]
      · cases h
    · cases h
  · cases h
theorem runs_pure {P : Program} {ρ : Operand → Value} {op : Op} {v : Value} (h : pureV P ρ op = some v) (w : World) : Runs P ρ op w v w := by
  cases op <;> simp only [pureV] at h <;> (try (cases h; done))
  case call c => exact runs_call h w
  case move x => cases h; intro o ho; simp [execOp, ho]
  case assign x => cases h; intro o ho; simp [execOp, ho]
  case pick c x y =>
    intro o ho
    split at h
    · rename_i hc; cases h; simp [execOp, ho, hc, asBool]
    · rename_i hc; cases h; simp [execOp, ho, hc, asBool]
    · cases h
  case binOp bop t x y t' =>
    intro o ho
    have hg : (eqGuard bop t x y (ρ x) (ρ y)).run P w = .ok () w := by
      revert h
      cases ρ x <;> cases ρ y <;> simp only [binV] <;> intro h <;> first
        | exact run_eqGuard_int ..
        | exact run_eqGuard_bool ..
        | exact run_eqGuard_str ..
        | exact run_eqGuard_ptr ..
        | exact run_eqGuard_nf ..
        | exact run_eqGuard_fn ..
        | (cases h)
    simp [execOp, ho, hg, run_binV h]
  case unOp uop t x =>
    intro o ho
    split at h
    · rename_i hx; cases h; simp [execOp, ho, hx, Op.unary]
    · rename_i hx; cases h; simp [execOp, ho, hx, Op.unary, Op.intArith]
    · rename_i k n hx; simp only [intV] at h; cases h; simp [execOp, ho, hx, Op.unary, Op.intBits]
    · cases h
  case nilCheck x =>
    intro o ho
    split at h
    · rename_i a hx; cases h; simp [execOp, ho, hx]
    · cases h
  case field t x f =>
    intro o ho
    split at h
    · rename_i fs cs hu hx
      split at h
      · rename_i fd hf
        split at h
        · rename_i hs
          simp [execOp, ho, Instr.field, run_underlying hu, hf, hx, asAgg, part, agg_no hs, h]
        · cases h
      · cases h
    · cases h
  case convert src dst x =>
    intro o ho
    split at h
    · rename_i h1 h2 hx; cases h; simp [execOp, ho, convert, run_underlying h1, run_underlying h2, hx, Conv.intToInt]
    · cases h
  case extract t ix =>
    intro o ho
    split at h
    · rename_i vs hx; simp [execOp, ho, Instr.extract, hx, h]
    · cases h
  case indexAddr t x y =>
    intro o ho
    split at h
    · rename_i ad i n sz hx hy hf
      split at h
      · rename_i hi
        cases h
        unfold arrAt? at hf
        split at hf
        · rename_i nn e hu
          obtain ⟨q, hq, hs⟩ := Option.map_eq_some_iff.1 hf
          cases hs
          simp [execOp, ho, Instr.indexAt, hx, hy, asIntOf, run_underlying hu, hi.1, hi.2, sizeOf, typeInfo, hq, Instr.sureAddr]
        · cases hf
      · cases h
    · cases h
  case fieldAddr s x f =>
    intro o ho
    split at h
    · rename_i ad off hx hf
      cases h
      unfold fieldAt? at hf
      split at hf
      · rename_i fs hu
        split at hf
        · rename_i fd hfd
          split at hf
          · rename_i i hi
            split at hf
            · cases hf
            · rename_i hsz
              cases hf
              simp [execOp, ho, Instr.fieldAt, run_underlying hu, hfd, hx, Instr.sureAddr, fieldPlace, sizeOf, typeInfo, hi, hsz]
          · cases hf
        · cases hf
      · cases hf
    · cases h
  case makeFunc fn fs cs => cases h; intro o ho; simp [execOp, ho, Instr.makeFunc]
end Go.Proofs.YthdgllldpfeelaaGreatDoor
/- How a region is walked: operation by operation where its order is fixed; in an order of ours where it is open. No condition. -/
set_option linter.unusedVariables false
set_option linter.unusedSimpArgs false
namespace Go.Proofs.YthdgllldpfeelaaGreatDoor
open Go

def sig (ops : Array Oper) (i : Nat) : Option (Option Tmp × Op × Option (Nat × Bool)) := (ops.toList[i]?).map fun o => (o.dst, o.op, o.guard)
def wantM (ops : Array Oper) (m : List (Nat × Value)) : Option (Nat × Bool) → Option Bool
  | none => some true
  | some (g, want) => match (ops.toList[g]?).bind (·.dst) with
    | some d => match look m d with
      | some (.bool b) => some (b == want)
      | some _ => some false
      | none => none
    | none => none
def noSel : Op → Bool
  | .select _ _ => false
  | _ => true
def opKnown (m : List (Nat × Value)) (op : Op) : Bool := noSel op && op.operands.toList.all (known m)
def wl (ro : Option Nat) (P : Program) (ops : Array Oper) (Q : Exit → Act → World → Prop) (i : Nat) (a : Act) (w : World) : Prop := wpListIn (FR ro) 3 P ops Q (ops.toList.drop i) a w
section
variable {ro : Option Nat} {P : Program} {ops : Array Oper} {Q : Exit → Act → World → Prop} {a : Act} {w : World} {n : Nat} {m : List (Nat × Value)}
theorem sig_spec {i : Nat} {s : Option Tmp × Op × Option (Nat × Bool)} (h : sig ops i = some s) :
    ∃ o, ops[i]? = some o ∧ ops.toList.drop i = o :: ops.toList.drop (i + 1) ∧ o.dst = s.1 ∧ o.op = s.2.1 ∧ o.guard = s.2.2 := by
  unfold sig at h
  obtain ⟨o, ho, he⟩ := Option.map_eq_some_iff.1 h
  obtain ⟨hlt, hg⟩ := List.getElem?_eq_some_iff.1 ho
  refine ⟨o, by simpa using ho, by rw [List.drop_eq_getElem_cons hlt, hg], ?_⟩
  subst he
  exact ⟨rfl, rfl, rfl⟩
theorem want_spec (hS : Sl n m a) {o : Oper} {t : Bool} (h : wantM ops m o.guard = some t) : Region.wanted o (yielded ops a.tmps) = t := by
  unfold wantM at h
  unfold Region.wanted
  split at h
  · rename_i hg; rw [hg]; exact (Option.some.inj h)
  · rename_i g want hg
    rw [hg]
    simp only
    split at h
    · rename_i d hd
      have hd' : (ops[g]?).bind (·.dst) = some d := by simpa using hd
      split at h
      · rename_i b hb
        have := hS.slots d _ hb
        simp only [yielded, hd', Option.bind_some, this]
        cases h
        cases b <;> cases want <;> rfl
      · rename_i v hne hv
        have := hS.slots d _ hv
        simp only [yielded, hd', Option.bind_some, this]
        cases h
        cases v <;> first | rfl | exact absurd rfl (hne _)
      · cases h
    · cases h
theorem known_exec (hS : Sl n m a) {o : Oper} (h : opKnown m o.op = true) : execOp a.eval o = execOp (ev m) o := by
  simp only [opKnown, Bool.and_eq_true, List.all_eq_true] at h
  refine execOp_congr o ?_ (fun x hx => hS.ev (h.2 x (by simpa using hx)))
  intro cs b e
  rw [e] at h
  exact absurd h.1 (by simp [noSel])
theorem c_region {c : Code} (h : c.kind.1 = 2) (hw : wl ro P c.ops Q 0 a w) : c.wpIn (FR ro) 3 P Q a w := by
  cases c <;> simp [Code.kind] at h
  case region i o d =>
    cases d <;> simp at h
    exact wpIn_region_list (by simpa [wl, Code.ops] using hw)
theorem wl_nil {i : Nat} (h : sig ops i = none) (q : Q .normal a w) : wl ro P ops Q i a w := by
  have : ops.toList.drop i = [] := by
    simp only [sig, Option.map_eq_none_iff] at h
    exact List.drop_eq_nil_of_le (List.getElem?_eq_none_iff.1 h)
  unfold wl
  rw [this]
  exact q
/-- What an operation does: whatever comes out meets K. -/
def Eff (P : Program) (ρ : Operand → Value) (op : Op) (w : World) (K : Value → World → Prop) : Prop :=
  ∀ (o : Oper) (a : Act) (next : Act → World → Prop) (Q' : Exit → Act → World → Prop), o.op = op → execOp a.eval o = execOp ρ o →
    (∀ v w', K v w' → next (a.put o.dst v) w') → o.wp P a w next Q' ∧ ∀ ro, o.wpIn (FR ro) 3 P a w next Q'
theorem no_defer {ρ : Operand → Value} {o : Oper} {x : Next} {w' : World} (h : (execOp ρ o).run P w = .ok x w') (hx : ∀ d, x ≠ .defer d) : ∀ c, o.op ≠ .defer c := by
  intro c hc
  unfold execOp at h
  rw [hc] at h
  simp only [Sem.run_bind] at h
  cases hr : (resolve ρ c o.type).run P w with
  | ok d w1 => rw [hr] at h; simp at h; exact hx d h.1.symm
  | halt x w1 => rw [hr] at h; simp [Result.andThen] at h
theorem eff_at {ρ : Operand → Value} {op : Op} {K : Value → World → Prop} (h : ∀ o : Oper, o.op = op → ∃ v w', (execOp ρ o).run P w = .ok (.value v) w' ∧ K v w') : Eff P ρ op w K := by
  intro o a next Q' ho he k
  obtain ⟨v, w', hr, hK⟩ := h o ho
  refine ⟨?_, fun ro => ⟨fun _ _ => trivial, ?_⟩⟩
  · unfold Oper.wp
    rw [he, hr]
    exact k v w' hK
  · have hd := no_defer hr (by simp)
    rw [Oper.semAt_eq _ _ _ hd, he, hr]
    exact k v w' hK
theorem eff_runs {ρ : Operand → Value} {op : Op} {v : Value} {w' : World} (h : Runs P ρ op w v w') {K : Value → World → Prop} (hK : K v w') : Eff P ρ op w K :=
  eff_at fun o ho => ⟨v, w', h o ho, hK⟩
def RunsS (P : Program) (ρ : Operand → Value) (op : Op) (w w' : World) : Prop :=
  ∀ o : Oper, o.op = op → (execOp ρ o).run P w = .ok .skip w'
theorem eff_skip {ρ : Operand → Value} {op : Op} {w' : World} (h : RunsS P ρ op w w') {K : Value → World → Prop} (hK : K undef w') : Eff P ρ op w K := by
  intro o a next Q' ho he k
  have hr := h o ho
  refine ⟨?_, fun ro => ⟨fun _ _ => trivial, ?_⟩⟩
  · unfold Oper.wp
    rw [he, hr]
    exact k _ _ hK
  · have hd := no_defer hr (by simp)
    rw [Oper.semAt_eq _ _ _ hd, he, hr]
    exact k _ _ hK
def Fn (P : Program) (f : FuncId) (args : List Value) (w : World) (K : Value → World → Prop) : Prop :=
  Calls P f args.toArray w fun e w' => ∃ v, e = .returned v ∧ K v w'
def enters (P : Program) (f : FuncId) : Bool :=
  match P.funcs[f]? with
  | some fn => !(fn.name == "runtime.NumGoroutine") && fn.body.isSome
  | none => false
theorem run_callFunc {f : FuncId} (h : enters P f = true) (args : Array Value) (w : World) : (callFunc f args).run P w = .ok (.enter f args) w := by
  unfold enters at h
  split at h
  · rename_i fn hf
    simp only [Bool.and_eq_true, Bool.not_eq_true'] at h
    have hb : fn.body.isNone = false := by cases hq : fn.body <;> simp_all
    have h1 : ¬ fn.name = "runtime.NumGoroutine" := by have := h.1; simpa using this
    have h2 : ¬ fn.body = none := by intro e; rw [e] at hb; cases hb
    simp [callFunc, hf, h1, h2]
  · cases h
def Fv (P : Program) (fv : Value) (args : List Value) (w : World) (K : Value → World → Prop) : Prop :=
  ∃ f caps, fv = .func (.func f) #[] caps ∧ enters P f = true ∧ Fn P f (args ++ caps.toList) w K
theorem eff_fv {ρ : Operand → Value} {x : Operand} {xs : Array Operand} {ts : Array TypeId} {K : Value → World → Prop} {A : List Value} (hA : xs.toList.map ρ = A)
    (hc : Fv P (ρ x) A w K) : Eff P ρ (.call { callee := .value x, args := xs, argTypes := ts }) w K := by
  intro o a next Q' ho he k
  obtain ⟨f, caps, hv, hf, hc⟩ := hc
  have hr : (execOp ρ o).run P w = .ok (.enter f (A ++ caps.toList).toArray) w := by
    subst hA
    simp only [execOp, ho, resolve, hv, Deferred.ofValue, Sem.run_bind, Sem.run_pure, Result.andThen_ok, invoke]
    have e : (#[] ++ xs.map ρ) ++ caps = (xs.toList.map ρ ++ caps.toList).toArray := by
      apply Array.toList_inj.1; simp
    rw [e]
    exact run_callFunc hf _ _
  refine ⟨?_, fun ro => ⟨fun _ _ => trivial, ?_⟩⟩
  · unfold Oper.wp
    rw [he, hr, Oper.upon_enter]
    refine Calls.mono hc ?_
    rintro e w' ⟨v, rfl, hK⟩
    exact k v w' hK
  · rw [Oper.semAt_eq _ _ _ (by intro c; rw [ho]; simp), he, hr, Oper.uponIn_enter]
    refine ⟨fun _ => by decide, callsIn_wide.2 (Calls.mono hc ?_)⟩
    rintro e w' ⟨v, rfl, hK⟩
    exact k v w' hK
theorem eff_fn {ρ : Operand → Value} {f : FuncId} {xs : Array Operand} {ts : Array TypeId} {K : Value → World → Prop} {A : List Value} (hA : xs.toList.map ρ = A)
    (hρ : ρ (.func f) = .func (.func f) #[] #[]) (hf : enters P f = true) (hc : Fn P f A w K) : Eff P ρ (.call { callee := .value (.func f), args := xs, argTypes := ts }) w K :=
  eff_fv hA ⟨f, #[], hρ, hf, by simpa using hc⟩
theorem wl_eff {i : Nat} {d : Option Tmp} {op : Op} {g : Option (Nat × Bool)} {K : Value → World → Prop} (hS : Sl n m a) (hs : sig ops i = some (d, op, g))
    (hw : (wantM ops m g == some true && wid n d && opKnown m op) = true) (he : Eff P (ev m) op w K)
    (k : ∀ v w', K v w' → ∀ a', Sl n (putM m d v) a' → wl ro P ops Q (i + 1) a' w') : wl ro P ops Q i a w := by
  obtain ⟨o, h1, h2, h3, h4, h5⟩ := sig_spec hs
  simp only at h3 h4 h5
  simp only [Bool.and_eq_true, beq_iff_eq] at hw
  obtain ⟨⟨hw, hd⟩, hk⟩ := hw
  subst h3 h4 h5
  unfold wl
  rw [h2]
  unfold wpListIn
  rw [if_pos (want_spec hS hw)]
  exact (he o a _ _ rfl (known_exec hS hk) (fun v w' hK => k v w' hK _ (hS.put _ _ hd))).2 ro
def pures (P : Program) (ops : Array Oper) (n : Nat) : Nat → Nat → List (Nat × Value) → Option (List (Nat × Value))
  | _, 0, m => some m
  | i, c + 1, m => match sig ops i with
    | some (d, op, g) => match wid n d, wantM ops m g with
      | true, some true => match opKnown m op, pureV P (ev m) op with
        | true, some v => pures P ops n (i + 1) c (putM m d v)
        | _, _ => none
      | true, some false => pures P ops n (i + 1) c (putM m d undef)
      | _, _ => none
    | none => none
theorem wl_pures0 : ∀ (c i : Nat) (m m' : List (Nat × Value)) (a : Act), Sl n m a → pures P ops n i c m = some m' → (∀ a', Sl n m' a' → wl ro P ops Q (i + c) a' w) → wl ro P ops Q i a w
  | 0, i, m, m', a, hS, hp, k => by simp [pures] at hp; subst hp; exact k a hS
  | c + 1, i, m, m', a, hS, hp, k => by
    simp only [pures] at hp
    split at hp
    · rename_i d op g hs
      obtain ⟨o, h1, h2, h3, h4, h5⟩ := sig_spec hs
      simp only at h3 h4 h5
      subst h3 h4 h5
      split at hp
      · rename_i hd hw
        split at hp
        · rename_i v hk hv
          unfold wl
          rw [h2]
          unfold wpListIn
          rw [if_pos (want_spec hS hw)]
          refine ((eff_runs (K := fun v' w' => v' = v ∧ w' = w) (runs_pure hv w) ⟨rfl, rfl⟩) o a _ _ rfl (known_exec hS hk) ?_).2 ro
          intro v' w' hvw
          rw [hvw.1, hvw.2]
          exact wl_pures0 c (i + 1) _ m' _ (hS.put _ _ hd) hp (fun a' h' => by have := k a' h'; rwa [show i + 1 + c = i + (c + 1) by omega])
        · cases hp
      · rename_i hd hw
        unfold wl
        rw [h2]
        unfold wpListIn
        rw [if_neg (by rw [want_spec hS hw]; simp)]
        refine ⟨fun _ _ => trivial, ?_⟩
        exact wl_pures0 c (i + 1) _ m' _ (hS.put _ _ hd) hp (fun a' h' => by have := k a' h'; rwa [show i + 1 + c = i + (c + 1) by omega])
      · cases hp
    · cases hp
theorem wl_pures {i j : Nat} {m' : List (Nat × Value)} (hS : Sl n m a) (c : Nat) (ks : List Nat) (hp : (pures P ops n i c m).map (keep · ks) = some m') (hj : i + c = j)
    (k : ∀ a', Sl n m' a' → wl ro P ops Q j a' w) : wl ro P ops Q i a w := by
  obtain ⟨m1, h1, h2⟩ := Option.map_eq_some_iff.1 hp
  subst hj
  exact wl_pures0 c i m m1 a hS h1 (fun a' h' => k a' (h'.keep ks h2))

/-! ### a region that draws its order -/
/-- Whichever order is picked from here on; S holds behind every operation but 'q'. -/
def wpD (P : Program) (ops : Array Oper) (Q : Exit → Act → World → Prop) (S : World → Prop) (q : Nat) : Nat → Array Bool → Act → World → Prop
  | 0, listed, a, w => Region.ready .any ops listed = [] ∧ Q .normal a w
  | fuel + 1, listed, a, w => (Region.ready .any ops listed = [] → Q .normal a w) ∧
    ∀ i ∈ Region.ready .any ops listed, wpOp P ops Q i (fun a' w' => (i = q ∨ S w') ∧ wpD P ops Q S q fuel (listed.setIfInBounds i true) a' w') a w
def onB (ops : Array Oper) (q j : Nat) : Bool := ((ops.toList[q]?).map fun o => o.after.toList.any fun e => Region.binds .any e && e.on == j).getD false
/-- It waits for all the others (or there is none of that number). -/
def lastB (ops : Array Oper) (q : Nat) : Bool :=
  decide (ops.size ≤ q) || (List.range ops.size).all fun j => j == q || onB ops q j || (List.range ops.size).any fun m => onB ops q m && (onB ops m j || (List.range ops.size).any fun m' => onB ops m m' && onB ops m' j)
/-- What has come up has all come up that it waits for. -/
def Closed (ops : Array Oper) (listed : Array Bool) : Prop := ∀ j o, ops[j]? = some o → listed.getD j false = true → ∀ e ∈ o.after, Region.binds .any e = true → listed.getD e.on false = true
theorem closed_on {listed : Array Bool} (hc : Closed ops listed) {q j : Nat} (hq : listed.getD q false = true) (h : onB ops q j = true) : listed.getD j false = true := by
  unfold onB at h
  cases ho : ops.toList[q]? with
  | none => rw [ho] at h; cases h
  | some o =>
    rw [ho] at h
    simp only [Option.map_some, Option.getD_some, List.any_eq_true, Bool.and_eq_true, beq_iff_eq] at h
    obtain ⟨ed, hm, hb, he⟩ := h
    have := hc q o (by simpa using ho) hq ed (by simpa using hm) hb
    rwa [he] at this
theorem closed_set {listed : Array Bool} (hc : Closed ops listed) {i : Nat} (hi : i ∈ Region.ready .any ops listed) : Closed ops (listed.setIfInBounds i true) := by
  obtain ⟨hiu, oi, hoi, hall⟩ := mem_ready.1 hi
  intro j o ho hj e he hb
  by_cases hji : j = i
  · subst hji
    rw [hoi] at ho
    cases ho
    exact getD_set_true (hall e he hb)
  · rw [getD_set_ne false (Ne.symm hji)] at hj
    exact getD_set_true (hc j o ho hj e he hb)
theorem lastB_spec {q : Nat} (h : lastB ops q = true) {listed : Array Bool} (hc : Closed ops listed) (hq : q ∈ Region.ready .any ops listed) {i : Nat} (hi : i ∈ Region.ready .any ops listed) : i = q := by
  obtain ⟨_, oq, hoq, hall⟩ := mem_ready.1 hq
  obtain ⟨hiu, oi, hoi, _⟩ := mem_ready.1 hi
  have hq' : q < ops.size := (Array.getElem?_eq_some_iff.1 hoq).1
  have hi' : i < ops.size := (Array.getElem?_eq_some_iff.1 hoi).1
  have direct : ∀ j, onB ops q j = true → listed.getD j false = true := by
    intro j hj
    unfold onB at hj
    have e : ops.toList[q]? = some oq := by simpa using hoq
    rw [e] at hj
    simp only [Option.map_some, Option.getD_some, List.any_eq_true, Bool.and_eq_true, beq_iff_eq] at hj
    obtain ⟨ed, hm, hb, ho⟩ := hj
    have h1 := hall ed (by simpa using hm) hb
    rwa [ho] at h1
  have key : i = q ∨ listed.getD i false = true := by
    simp only [lastB, Bool.or_eq_true, decide_eq_true_eq, List.all_eq_true, List.mem_range] at h
    rcases h with h | h
    · omega
    · rcases h i hi' with (h | h) | h
      · exact .inl (by simpa using h)
      · exact .inr (direct i h)
      · simp only [List.any_eq_true, List.mem_range, Bool.and_eq_true, Bool.or_eq_true] at h
        obtain ⟨m, _, h1, h2⟩ := h
        have hm := direct m h1
        rcases h2 with h2 | ⟨m', _, h2, h3⟩
        · exact .inr (closed_on hc hm h2)
        · exact .inr (closed_on hc (closed_on hc hm h2) h3)
  rcases key with h | h1
  · exact h
  · have hlt : i < listed.size := by
      rcases Nat.lt_or_ge i listed.size with h' | h'
      · exact h'
      · simp [Array.getElem?_eq_none h'] at h1
    simp [hlt] at h1 hiu
    rw [hiu] at h1
    cases h1
theorem wpD_any {S : World → Prop} {q : Nat} : ∀ (fuel : Nat) (listed : Array Bool) (a : Act) (w : World), wpD P ops Q S q fuel listed a w → wpAny P .any ops Q fuel listed a w
  | 0, _, _, _, h => h
  | fuel + 1, _, _, _, h => ⟨h.1, fun i hi => wpOp_mono (fun a' w' h' => wpD_any fuel _ a' w' h'.2) (h.2 i hi)⟩
theorem wpD_take {S : World → Prop} {q i : Nat} {oi : Oper} {v : Value} (hl : lastB ops q = true) (hi : ops[i]? = some oi) (hs : Region.noSelect ops = true)
    (hQ : ∀ c a w, Q (.panic c) (a.put oi.dst v) w → Q (.panic c) a w) :
    ∀ (fuel : Nat) (listed : Array Bool) (a : Act) (w : World), Closed ops listed →
      (∀ j oj, ops[j]? = some oj → j ≠ i → listed.getD j true = false → (∀ e ∈ oj.after, Region.binds .any e = true → e.on ≠ i) → oi.apart ops oj = true) →
      i ∈ Region.ready .any ops listed → YieldsIf P ops S oi v a → S w →
      wpD P ops Q S q fuel (listed.setIfInBounds i true) (a.put oi.dst v) w → wpD P ops Q S q (fuel + 1) listed a w := by
  have hsel := Region.noSelect_spec hs
  intro fuel
  induction fuel with
  | zero =>
    intro listed a w hcl _ hr hy hS H
    refine ⟨fun h => (by rw [h] at hr; cases hr), fun j hj => ?_⟩
    by_cases hji : j = i
    · subst hji; exact hy.wpOp hi hS ⟨.inr hS, H⟩
    · have := ready_mono hj hji
      rw [H.1] at this
      cases this
  | succ fuel ih =>
    intro listed a w hcl hfree hr hy hS H
    refine ⟨fun h => (by rw [h] at hr; cases hr), fun j hj => ?_⟩
    by_cases hji : j = i
    · subst hji; exact hy.wpOp hi hS ⟨.inr hS, H⟩
    · have h1 := H.2 j (ready_mono hj hji)
      obtain ⟨hjun, oj, hoj, hall⟩ := mem_ready.1 hj
      have hjq : j ≠ q := fun e => hji (by subst e; exact (lastB_spec hl hcl hj hr).symm)
      have hnot : ∀ e ∈ oj.after, Region.binds .any e = true → e.on ≠ i := fun e he hb heq => by
        have h1 := hall e he hb
        have h0 := (mem_ready.1 hr).1
        rw [heq] at h1
        rcases Nat.lt_or_ge i listed.size with h' | h'
        · simp [h'] at h0 h1; rw [h0] at h1; cases h1
        · simp [Array.getElem?_eq_none h'] at h1
      have h2 := wpOp_putIf hoj (hfree j oj hoj hji hjun hnot) (fun cs b => hsel i oi cs b hi) (fun cs b => hsel j oj cs b hoj) hQ hy h1
      have hfree' : ∀ k ok, ops[k]? = some ok → k ≠ i → (listed.setIfInBounds j true).getD k true = false →
          (∀ e ∈ ok.after, Region.binds .any e = true → e.on ≠ i) → oi.apart ops ok = true := fun k ok hk hki hun hno => by
        refine hfree k ok hk hki ?_ hno
        by_cases hjk : j = k
        · subst hjk; exact hjun
        · rw [getD_set_ne true hjk] at hun; exact hun
      refine wpOp_mono (fun a' w' h3 => ?_) h2
      have hS' : S w' := h3.2.1.resolve_left hjq
      refine ⟨.inr hS', ih (listed.setIfInBounds j true) a' w' (closed_set hcl hj) hfree' (ready_mono hr (Ne.symm hji)) h3.1 hS' ?_⟩
      rw [Array.setIfInBounds_comm _ _ hji]
      exact h3.2.2
def mask (n : Nat) : List Nat → Array Bool
  | [] => Array.replicate n false
  | i :: l => (mask n l).setIfInBounds i true
def dr (P : Program) (ops : Array Oper) (Q : Exit → Act → World → Prop) (S : World → Prop) (q fuel : Nat) (l : List Nat) (a : Act) (w : World) : Prop :=
  lastB ops q = true → Region.noSelect ops = true → Closed ops (mask ops.size l) → wpD P ops (calmQ Q) S q fuel (mask ops.size l) a w
theorem calm_put (Q : Exit → Act → World → Prop) (d : Option Tmp) (v : Value) : ∀ c a w, calmQ Q (.panic c) (a.put d v) w → calmQ Q (.panic c) a w := fun _ _ _ h => h
theorem c_draws {c : Code} {N : Nat} (q : Nat) (h : c.kind.1 = 3) (hm : P.follows .mixedOrders = true) (S : World → Prop) (hN : c.ops.size = N) (hl : (lastB c.ops q && Region.noSelect c.ops) = true)
    (hd : ∀ w', Fr nob w w' → dr P c.ops Q S q N [] a w') : c.wpIn (FR none) 3 P Q a w := by
  simp only [Bool.and_eq_true] at hl
  cases c <;> simp [Code.kind] at h
  case region i o d =>
    cases d <;> simp at h
    refine c_calm (wpIn_wide.2 (wp_region_any hm (wpD_any (S := S) (q := q) _ _ _ _ ?_)))
    have := hd _ (Fr.drawn w (w.drawn + 1)) hl.1 hl.2 (fun j o _ hj => by simp [mask, Code.ops, Array.getElem?_replicate] at hj; split at hj <;> simp at hj)
    subst hN
    exact this
def canB (ops : Array Oper) (l : List Nat) (j : Nat) : Bool := Region.free .any ops (mask ops.size l) j && (Region.ready .any ops (mask ops.size l)).contains j
theorem dr_take {S : World → Prop} {q fuel j : Nat} {l : List Nat} {d : Option Tmp} {op : Op} {g : Option (Nat × Bool)} {v : Value} (hS : Sl n m a) (hs : sig ops j = some (d, op, g))
    (hw : (canB ops l j && (wantM ops m g == some true) && wid n d && opKnown m op) = true)
    (hr : ∀ w', S w' → Runs P (ev m) op w' v w') (hSw : S w) (k : ∀ a', Sl n (putM m d v) a' → dr P ops Q S q fuel (j :: l) a' w) : dr P ops Q S q (fuel + 1) l a w := by
  intro hl hn hcl
  obtain ⟨o, h1, h2, h3, h4, h5⟩ := sig_spec hs
  simp only at h3 h4 h5
  simp only [Bool.and_eq_true, beq_iff_eq, canB] at hw
  obtain ⟨⟨⟨⟨hf, hc⟩, hw⟩, hd⟩, hk⟩ := hw
  subst h3 h4 h5
  exact wpD_take hl h1 hn (calm_put _ _ _) _ _ _ _ hcl (Region.free_spec h1 hf) (by simpa using hc) (.inl ⟨want_spec hS hw, fun w' hw' => by rw [known_exec hS hk]; exact hr w' hw' o rfl⟩) hSw (k _ (hS.put _ _ hd) hl hn (closed_set hcl (by simpa using hc)))
def drp (P : Program) (ops : Array Oper) (n : Nat) : List Nat → List Nat → List (Nat × Value) → Option (List (Nat × Value))
  | [], _, m => some m
  | j :: js, l, m => match sig ops j with
    | some (d, op, g) => match wid n d && canB ops l j, wantM ops m g with
      | true, some true => match opKnown m op, pureV P (ev m) op with
        | true, some v => drp P ops n js (j :: l) (putM m d v)
        | _, _ => none
      | true, some false => drp P ops n js (j :: l) (putM m d undef)
      | _, _ => none
    | none => none
theorem dr_pures0 {S : World → Prop} {q : Nat} (hSw : S w) : ∀ (js l : List Nat) (m m' : List (Nat × Value)) (a : Act) (fuel : Nat), Sl n m a → drp P ops n js l m = some m' →
    (∀ a', Sl n m' a' → dr P ops Q S q fuel (js.reverse ++ l) a' w) → dr P ops Q S q (fuel + js.length) l a w
  | [], l, m, m', a, fuel, hS, hp, k => by simp [drp] at hp; subst hp; exact k a hS
  | j :: js, l, m, m', a, fuel, hS, hp, k => by
    intro hl hn hcl
    simp only [drp] at hp
    split at hp
    · rename_i d op g hs
      obtain ⟨o, h1, h2, h3, h4, h5⟩ := sig_spec hs
      simp only at h3 h4 h5
      subst h3 h4 h5
      split at hp
      · rename_i hd hw
        simp only [Bool.and_eq_true, canB] at hd
        split at hp
        · rename_i v hk hv
          refine wpD_take hl h1 hn (calm_put _ _ _) (fuel + js.length) _ _ _ hcl (Region.free_spec h1 hd.2.1) (by simpa using hd.2.2) (.inl ⟨want_spec hS hw, fun w' _ => by rw [known_exec hS hk]; exact runs_pure hv w' o rfl⟩) hSw ?_
          exact dr_pures0 hSw js (j :: l) _ m' _ fuel (hS.put _ _ hd.1) hp (fun a' h' => by have := k a' h'; simpa using this) hl hn (closed_set hcl (by simpa using hd.2.2))
        · cases hp
      · rename_i hd hw
        simp only [Bool.and_eq_true, canB] at hd
        refine wpD_take hl h1 hn (calm_put _ _ _) (fuel + js.length) _ _ _ hcl (Region.free_spec h1 hd.2.1) (by simpa using hd.2.2) (.inr ⟨want_spec hS hw, rfl⟩) hSw ?_
        exact dr_pures0 hSw js (j :: l) _ m' _ fuel (hS.put _ _ hd.1) hp (fun a' h' => by have := k a' h'; simpa using this) hl hn (closed_set hcl (by simpa using hd.2.2))
      · cases hp
    · cases hp
/-- Some operations that only compute, one behind the other. -/
theorem dr_pures {S : World → Prop} {q F fuel : Nat} {l l' : List Nat} {m' : List (Nat × Value)} (hS : Sl n m a) (hSw : S w) (js ks : List Nat)
    (hp : (drp P ops n js l m).map (keep · ks) = some m') (hF : fuel + js.length = F) (hl : js.reverse ++ l = l')
    (k : ∀ a', Sl n m' a' → dr P ops Q S q fuel l' a' w) : dr P ops Q S q F l a w := by
  obtain ⟨m1, h1, h2⟩ := Option.map_eq_some_iff.1 hp
  subst hF hl
  exact dr_pures0 hSw js l m m1 a fuel hS h1 (fun a' h' => k a' (h'.keep ks h2))
/-- The only one that may come up, whatever it does. -/
theorem dr_eff {S : World → Prop} {q fuel j : Nat} {l : List Nat} {d : Option Tmp} {op : Op} {g : Option (Nat × Bool)} {K : Value → World → Prop} (hS : Sl n m a) (hs : sig ops j = some (d, op, g))
    (hr : Region.ready .any ops (mask ops.size l) = [j]) (hw : ((wantM ops m g == some true) && wid n d && opKnown m op) = true) (he : Eff P (ev m) op w K)
    (k : ∀ v w', K v w' → (j = q ∨ S w') ∧ ∀ a', Sl n (putM m d v) a' → dr P ops Q S q fuel (j :: l) a' w') : dr P ops Q S q (fuel + 1) l a w := by
  intro hl hn hcl
  obtain ⟨o, h1, h2, h3, h4, h5⟩ := sig_spec hs
  simp only at h3 h4 h5
  simp only [Bool.and_eq_true, beq_iff_eq] at hw
  obtain ⟨⟨hw, hd⟩, hk⟩ := hw
  subst h3 h4 h5
  refine ⟨fun h0 => (by rw [hr] at h0; cases h0), fun i hi => ?_⟩
  rw [hr] at hi
  simp only [List.mem_singleton] at hi
  subst hi
  unfold wpOp
  rw [h1]
  simp only
  rw [if_pos (want_spec hS hw)]
  exact .inl (he o a _ _ rfl (known_exec hS hk) (fun v w' hK => ⟨(k v w' hK).1, (k v w' hK).2 _ (hS.put _ _ hd) hl hn (closed_set hcl (by rw [hr]; simp))⟩)).1
theorem dr_done {S : World → Prop} {q : Nat} {l : List Nat} (hr : Region.ready .any ops (mask ops.size l) = []) (h : Q .normal a w) : dr P ops Q S q 0 l a w :=
  fun _ _ _ => ⟨hr, h⟩
end
end Go.Proofs.YthdgllldpfeelaaGreatDoor
/- Memory: what is loaded, stored, made, cut and appended. No condition. -/
set_option linter.unusedVariables false
set_option linter.unusedSimpArgs false
namespace Go.Proofs.YthdgllldpfeelaaGreatDoor
open Go

structure Flat (α : Type) where
  sz : Nat
  cells : α → List Value
  dflt : α
  len : ∀ x, (cells x).length = sz
  one : ∀ x, ∀ v ∈ cells x, v.oneCell' = true
def FI : Flat Int := ⟨1, fun x => [.int .i64 x], 0, fun _ => rfl, fun x v h => by simp at h; subst h; rfl⟩
def FU8 : Flat Int := ⟨1, fun x => [.int .u8 x], 0, fun _ => rfl, fun x v h => by simp at h; subst h; rfl⟩
def FB : Flat Bool := ⟨1, fun x => [.bool x], false, fun _ => rfl, fun x v h => by simp at h; subst h; rfl⟩
def FS : Flat ByteArray := ⟨1, fun x => [.string x], ⟨#[]⟩, fun _ => rfl, fun x v h => by simp at h; subst h; rfl⟩
def elemA : Value → Nat → Addr
  | .slice (some ad) _ _, k => ad.add k
  | _, _ => default
def rowT (P : Program) (t : TypeId) (n : Nat) : Bool := (isTy P t == 5 || isTy P t == 6) && ((P.info? t).map (·.size) == some n)
def elemSz (P : Program) (t : TypeId) : Option Nat :=
  match P.underlying t with
  | some (.slice e) => (P.info? e).map (·.size)
  | _ => none
/-- The element type, its size in cells, in bytes, and its zero value. -/
def elemInfo (P : Program) (t : TypeId) : Option (TypeId × Nat × Nat × Option Value) :=
  match P.underlying t with
  | some (.slice e) => (P.info? e).map fun i => (e, i.size, i.bytes, i.zero)
  | _ => none
theorem add_add (ad : Addr) (k off : Nat) : (ad.add k).add off = ad.add (k + off) := by
  unfold Addr.add
  by_cases h1 : k = 0
  · subst h1; simp
  · by_cases h2 : off = 0
    · subst h2; simp [h1]
    · simp [h1, h2, Nat.add_assoc]
theorem add_plain (b off k : Nat) : (⟨b, off, none⟩ : Addr).add k = ⟨b, off + k, none⟩ := Addr.add_mid b off k
section
variable {P : Program} {ρ : Operand → Value} {w0 w : World} {D A : Nat → Prop} {L R : List Ent}
theorem row_yes {t : TypeId} {n : Nat} (h : rowT P t n = true) : ∃ d, P.underlying t = some d ∧ d.isRow = true ∧ (P.info? t).map (·.size) = some n := by
  unfold rowT isTy at h
  simp only [Bool.and_eq_true, Bool.or_eq_true, beq_iff_eq] at h
  cases hu : P.underlying t with
  | none => simp [hu] at h
  | some d => refine ⟨d, rfl, ?_, h.2⟩; cases d <;> simp_all
/-- A scalar out of a cell that is known. -/
theorem r_cell {t : TypeId} {x : Operand} {ad : Addr} {u : Value} (hx : ρ x = .pointer (some ad)) (hc : w.cell? ad = some u) (ht : scal P t = true) : Runs P ρ (.load t x) w u w := by
  intro o ho
  simp [execOp, ho, Instr.loadAt, hx, Instr.sureAddr, loadVar, agg_no ht, hc]
theorem r_ldb {li b off : Nat} {T t : TypeId} {cs : List Value} {x : Operand} {u : Value} (C : Ctx w0 D A L R w) (hL : L[li]? = some (boxE false b T cs)) (hx : ρ x = .pointer (some ⟨b, off, none⟩))
    (hc : cs[off]? = some u) (ht : scal P t = true) : Runs P ρ (.load t x) w u w :=
  r_cell hx ((cell_of_row w b off cs.toArray T (0, 0) (C.okL li _ hL)).trans (by simpa using hc)) ht
theorem r_ldbs {li b off : Nat} {T t : TypeId} {cs : List Value} {x : Operand} {seg : List Value} (C : Ctx w0 D A L R w) (hL : L[li]? = some (boxE false b T cs)) (hx : ρ x = .pointer (some ⟨b, off, none⟩))
    (hc : (cs.drop off).take seg.length = seg) (ht : rowT P t seg.length = true) : Runs P ρ (.load t x) w (.agg seg.toArray) w := by
  intro o ho
  obtain ⟨d, h1, h2, h3⟩ := row_yes ht
  have hr : w.rangeAt b off seg := fun j v hv => by
    rw [cell_of_row w b (off + j) cs.toArray T (0, 0) (C.okL li _ hL)]
    rw [← hc, List.getElem?_take] at hv
    split at hv
    · rw [List.getElem?_drop] at hv; simpa using hv
    · cases hv
  have := run_loadAt_mid (P := P) w b off t seg d hr h1 h2 h3
  simp only [execOp, ho, hx]
  simp only [Sem.run_bind, this, Result.andThen_ok, Sem.run_pure]
theorem flat_get {α : Type} (F : Flat α) (l : List α) (i off : Nat) (h1 : i < l.length) (h2 : off < F.sz) : (l.flatMap F.cells)[i * F.sz + off]? = (F.cells (l.getD i F.dflt))[off]? := by
  induction l generalizing i with
  | nil => simp at h1
  | cons x xs ih =>
    rw [List.flatMap_cons]
    cases i with
    | zero =>
      have hl := F.len x
      simp only [Nat.zero_mul, Nat.zero_add]
      rw [List.getElem?_append_left (by omega)]
      rfl
    | succ i =>
      have hl := F.len x
      have e : (i + 1) * F.sz + off = (F.cells x).length + (i * F.sz + off) := by rw [hl, Nat.add_mul]; omega
      rw [e, List.getElem?_append_right (by omega), Nat.add_sub_cancel_left, ih i (by simpa using h1)]
      simp [List.getD]
theorem flat_len {α : Type} (F : Flat α) (l : List α) : (l.flatMap F.cells).length = l.length * F.sz := by
  induction l with
  | nil => simp
  | cons x xs ih => rw [List.flatMap_cons, List.length_append, ih, F.len, List.length_cons, Nat.add_mul]; omega
theorem flat_one {α : Type} (F : Flat α) (l : List α) : ∀ v ∈ l.flatMap F.cells, v.oneCell' = true := by
  intro v hv
  obtain ⟨x, _, h⟩ := List.mem_flatMap.1 hv
  exact F.one x v h
theorem rds_cell {v : Value} {n sz : Nat} {cs : List Value} (h : Rds v n sz cs w) {j : Nat} {u : Value} (hu : cs[j]? = some u) : w.cell? (elemA v j) = some u := by
  obtain ⟨_, ao, c, rfl, _, _, _, h2⟩ := h
  obtain ⟨ad, rfl, hc⟩ := h2 j u hu
  exact hc
/-- A part of an element. -/
theorem r_ldF {α : Type} (F : Flat α) {l : List α} {v : Value} {n : Nat} {i : Int} {off : Nat} {t : TypeId} {x : Operand} {u : Value} (hr : Rds v n F.sz (l.flatMap F.cells) w)
    (hx : ρ x = .pointer (some ((elemA v (i.toNat * F.sz)).add off))) (h0 : 0 ≤ i) (h1 : i < l.length) (h2 : off < F.sz) (hu : (F.cells (l.getD i.toNat F.dflt))[off]? = some u) (ht : scal P t = true) :
    Runs P ρ (.load t x) w u w := by
  have h1' : i.toNat < l.length := by omega
  have hc := rds_cell hr ((flat_get F l i.toNat off h1' h2).trans hu)
  have e : (elemA v (i.toNat * F.sz)).add off = elemA v (i.toNat * F.sz + off) := by
    obtain ⟨_, ao, c, rfl, _, _, _, h2'⟩ := hr
    obtain ⟨ad, rfl, _⟩ := h2' _ u ((flat_get F l i.toNat off h1' h2).trans hu)
    exact add_add ad _ _
  rw [e] at hx
  exact r_cell hx hc ht
/-- A whole element that is a scalar. -/
theorem r_ldF0 {α : Type} (F : Flat α) {l : List α} {v : Value} {n : Nat} {i : Int} {t : TypeId} {x : Operand} {u : Value} (hr : Rds v n F.sz (l.flatMap F.cells) w)
    (hx : ρ x = .pointer (some (elemA v (i.toNat * F.sz)))) (h0 : 0 ≤ i) (h1 : i < l.length) (h2 : 0 < F.sz) (hu : (F.cells (l.getD i.toNat F.dflt))[0]? = some u) (ht : scal P t = true) :
    Runs P ρ (.load t x) w u w := by
  have h1' : i.toNat < l.length := by omega
  exact r_cell hx (rds_cell hr ((by simpa using (flat_get F l i.toNat 0 h1' h2).trans hu))) ht
/-- A whole element that is a struct or an array. -/
theorem r_ldFs {α : Type} (F : Flat α) {l : List α} {v : Value} {n : Nat} {i : Int} {t : TypeId} {x : Operand} {seg : List Value} (hr : Rds v n F.sz (l.flatMap F.cells) w)
    (hx : ρ x = .pointer (some (elemA v (i.toNat * F.sz)))) (h0 : 0 ≤ i) (h1 : i < l.length) (hu : F.cells (l.getD i.toNat F.dflt) = seg) (ht : rowT P t seg.length = true) :
    Runs P ρ (.load t x) w (.agg seg.toArray) w := by
  intro o ho
  subst hu
  have h1' : i.toNat < l.length := by omega
  obtain ⟨d, hu1, hu2, hu3⟩ := row_yes ht
  have hs : (P.info? t).map (·.size) = some F.sz := by rw [hu3, F.len]
  have hl : (loadCells (elemA v (i.toNat * F.sz)) (F.cells (l.getD i.toNat F.dflt)).length).run P w = .ok (F.cells (l.getD i.toNat F.dflt)).toArray w :=
    run_loadCells_list (P := P) w _ _ (fun j u hu => by
      have hj : j < F.sz := by have := (List.getElem?_eq_some_iff.1 hu).1; rw [F.len] at this; exact this
      have hcu := (flat_get F l i.toNat j h1' hj).trans hu
      have hc := rds_cell hr hcu
      have e : (elemA v (i.toNat * F.sz)).add j = elemA v (i.toNat * F.sz + j) := by
        obtain ⟨_, ao, c, rfl, _, _, _, h2'⟩ := hr
        obtain ⟨ad, rfl, _⟩ := h2' _ u hcu
        exact add_add ad _ _
      rw [e]; exact hc)
  cases hq : P.info? t with
  | none => simp [hq] at hs
  | some q =>
    have hs' : q.size = F.sz := by simpa [hq] using hs
    have hagg : (isAgg t).run P w = .ok true w := by
      unfold isAgg
      rw [Sem.run_bind, run_underlying hu1 w]
      cases d <;> simp_all
    rw [F.len] at hl
    simp only [execOp, ho, hx, Instr.loadAt, Instr.sureAddr, Sem.run_bind, Sem.run_pure, Result.andThen_ok, loadVar, hagg, if_true, sizeOf, typeInfo, run_program, hq, hs', hl]
/-- How long a slice is. -/
def Shp (v : Value) (n : Nat) : Prop := ∃ ao c, v = .slice ao n c ∧ n ≤ c ∧ c ≤ 9223372036854775807 ∧ (ao = none → c = 0)
theorem rds_shp {v : Value} {n sz : Nat} {cs : List Value} (h : Rds v n sz cs w) : Shp v n := by
  obtain ⟨_, ao, c, rfl, h1, h2, h3, _⟩ := h
  exact ⟨ao, c, rfl, h1, h2, h3⟩
/-- The address of an element. -/
theorem r_idx {v : Value} {n sz : Nat} {t : TypeId} {x y : Operand} {i : Int} {k : IntKind} (hr : Shp v n) (hx : ρ x = v) (hy : ρ y = .int k i) (h0 : 0 ≤ i) (h1 : i < n)
    (ht : elemSz P t = some sz) : Runs P ρ (.indexAddr t x y) w (.pointer (some (elemA v (i.toNat * sz)))) w := by
  intro o ho
  obtain ⟨ao, c, rfl, h3, h4, h5⟩ := hr
  unfold elemSz at ht
  split at ht
  · rename_i e hu
    obtain ⟨q, hq, hs⟩ := Option.map_eq_some_iff.1 ht
    cases ao with
    | none => have := h5 rfl; omega
    | some ad =>
      simp [execOp, ho, Instr.indexAt, hx, hy, asIntOf, run_underlying hu, h0, h1, sizeOf, typeInfo, hq, hs, elemA]
  · cases ht
theorem rds_of_row {v : Value} {e sz n : Nat} {xs : List Value} (h : w.ownsRow 0 e sz v n xs) : Rds v n sz xs w := by
  refine ⟨h.1, ?_⟩
  rcases h.2 with ⟨rfl, h0⟩ | ⟨g, cap, cur, rfl, _, hg, h1, h2, h3, h4⟩
  · subst h0
    have : xs = [] := List.eq_nil_of_length_eq_zero (by simpa using h.1)
    subst this
    exact ⟨none, 0, rfl, Nat.le_refl _, by omega, fun _ => rfl, by simp⟩
  · exact ⟨_, cap, rfl, h1, by simpa [maxLen] using h2, by simp, fun j u hu => ⟨_, rfl, h.cells (g := g) rfl j u hu⟩⟩
/-- An owned row is read from now on. -/
theorem ctx_unown {li : Nat} {v : Value} {e sz n : Nat} {xs : List Value} (C : Ctx w0 D A L R w) (hL : L[li]? = some (rowE v e sz n xs)) : Ctx w0 D A (L.set li Ent.nil) (R ++ [rdE false v n sz xs]) w :=
  ctx_share C hL (rds_of_row (C.okL li _ hL)) (fun b ⟨_, hb⟩ => by
    show v.ownBlock = some b
    rcases (C.okL li _ hL : w.ownsRow 0 e sz v n xs).2 with ⟨rfl, _⟩ | ⟨g, cap, cur, rfl, _⟩
    · simp [addrOf] at hb
    · simpa [addrOf, Value.ownBlock] using hb)
theorem sub_row {is : List Nat} {i e : Nat} {v : Value} {n sz : Nat} {cs : List Value} (C : Ctx w0 D A L R w) (h : L[i]? = some (rowE v e sz n cs)) (hi : is.elem i = false) : Sub w L R is (rdE true v n sz cs) :=
  ⟨rds_of_row (C.okL i _ h), fun b hb => .inr ⟨rfl, i, _, hi, h, by
    show v.ownBlock = some b
    have hb : cs ≠ [] ∧ addrOf v = some b := hb
    rcases (C.okL i _ h : w.ownsRow 0 e sz v n cs).2 with ⟨rfl, _⟩ | ⟨g, cap, cur, rfl, _⟩
    · simp [addrOf] at hb
    · simpa [addrOf, Value.ownBlock] using hb.2⟩⟩
theorem rds_nil (sz : Nat) (w : World) : Rds (.slice none 0 0) 0 sz [] w := ⟨by simp, none, 0, rfl, Nat.le_refl _, by omega, fun _ => rfl, by simp⟩
theorem sub_nil {is : List Nat} (lt : Bool) (sz : Nat) : Sub w L R is (rdE lt (.slice none 0 0) 0 sz []) := ⟨rds_nil sz w, fun b hb => (hb.1 rfl).elim⟩
theorem ctx_nilrow (e sz : Nat) (C : Ctx w0 D A L R w) : Ctx w0 D A (L ++ [rowE (.slice none 0 0) e sz 0 []]) R w :=
  ctx_new C (Fr.refl _ _) (World.ownsRow_nil w 0 e sz) (fun b h => by simp [rowE, Value.ownBlock] at h)
/-- New variables. -/
theorem ctx_box {T : TypeId} {cs : Array Value} (C : Ctx w0 D A L R w) : Ctx w0 D A (L ++ [boxE false w.heap.size T cs.toList]) R (w.alloc (.cells cs T)) :=
  ctx_new C (Fr.alloc w _) (by simpa [boxE] using heap_alloc_new w (.cells cs T)) (fun b h => by simp only [boxE] at h; omega)
def zeroC (P : Program) (t : TypeId) : Option (List Value) := (P.info? t).bind fun i => i.zero.map fun z => z.cells.toList
theorem eff_alloc {t : TypeId} {cs : List Value} (C : Ctx w0 D A L R w) (hz : zeroC P t = some cs) :
    Eff P ρ (.alloc t) w (fun v w' => ∃ b, v = .pointer (some ⟨b, 0, none⟩) ∧ Ctx w0 D A (L ++ [boxE false b t cs]) R w') := by
  unfold zeroC at hz
  obtain ⟨i, hi, hz⟩ := Option.bind_eq_some_iff.1 hz
  obtain ⟨z, hz', rfl⟩ := Option.map_eq_some_iff.1 hz
  refine eff_runs (v := .pointer (some ⟨w.heap.size, 0, none⟩)) (w' := w.alloc (.cells z.cells t)) ?_ ⟨_, rfl, ctx_box C⟩
  intro o ho
  simp [execOp, ho, Instr.alloc, zeroValue, typeInfo, hi, hz', newVar, newRow]
theorem eff_box {t : TypeId} {x : Operand} {cs : List Value} (C : Ctx w0 D A L R w) (hx : (ρ x).cells.toList = cs) :
    Eff P ρ (.box t x) w (fun v w' => ∃ b, v = .pointer (some ⟨b, 0, none⟩) ∧ Ctx w0 D A (L ++ [boxE false b t cs]) R w') := by
  subst hx
  refine eff_runs (v := .pointer (some ⟨w.heap.size, 0, none⟩)) (w' := w.alloc (.cells (ρ x).cells t)) ?_ ⟨_, rfl, ctx_box C⟩
  intro o ho
  simp [execOp, ho, Instr.box, newVar, newRow]
/-- What is put into cells that are known. -/
def splice (cs : List Value) (off : Nat) (us : List Value) : List Value := cs.take off ++ us ++ cs.drop (off + us.length)
theorem fr_setRow (w : World) (g : Nat) (cs : Array Value) : Fr (fun x => x = g) w (w.setRow g cs) :=
  ⟨rfl, rfl, rfl, by simp, fun k _ hk => setRow_other w g k cs hk⟩
def sizeIs (P : Program) (t : TypeId) (n : Nat) : Bool := (P.info? t).map (·.size) == some n
theorem eff_stb {li b off : Nat} {T t : TypeId} {cs us cs' : List Value} {x y : Operand} (C : Ctx w0 D A L R w) (hL : L[li]? = some (boxE false b T cs)) (hx : ρ x = .pointer (some ⟨b, off, none⟩))
    (hy : (ρ y).cells.toList = us) (h1 : us.all (·.oneCell') = true) (ho : off + us.length ≤ cs.length) (hs : sizeIs P t us.length = true) (hc : splice cs off us = cs') :
    Eff P ρ (.store t x y) w (fun v' w' => v' = undef ∧ Ctx w0 D A (L.set li (boxE false b T cs')) R w') := by
  subst hc
  have hb : w.heap[b]? = some (.cells cs.toArray T (0, 0)) := C.okL li _ hL
  have hst := run_storeCells_at P b off T us 0 cs.toArray w hb (by simpa using ho) (by simpa using h1)
  have hz : (ρ y).cells.size = us.length := by rw [← hy]; simp
  refine eff_skip (w' := w.setRow b (splice cs off us).toArray) ?_ ?_
  · intro o ho'
    unfold sizeIs at hs
    cases hq : P.info? t with
    | none => simp [hq] at hs
    | some q =>
      have hs' : q.size = us.length := by simpa [hq] using hs
      simp only [Nat.add_zero, List.toList_toArray] at hst
      simp [execOp, ho', Instr.storeAt, hx, Instr.sureAddr, storeVar, sizeOf, typeInfo, hq, hs', hz, hy, hst, splice]
  · refine ⟨rfl, ctx_set C hL (fr_setRow w b _) ?_ (fun x h => .inl h)⟩
    show (w.setRow b _).heap[b]? = _
    exact setRow_heap w b _ _ T _ hb
end
end Go.Proofs.YthdgllldpfeelaaGreatDoor
/- Slices: literals, cuts, what is appended, what is stored into a row; strings. No condition. -/
set_option linter.unusedVariables false
set_option linter.unusedSimpArgs false
namespace Go.Proofs.YthdgllldpfeelaaGreatDoor
open Go
section
variable {P : Program} {ρ : Operand → Value} {w0 w : World} {D A : Nat → Prop} {L R : List Ent}
def sliceC (P : Program) (t : TypeId) (n : Nat) (parts : List (Nat × Value)) : Option (TypeId × Nat × List Value) :=
  match P.underlying t with
  | some (.slice e) => match P.info? e with
    | some i => if n * i.size > 2 ^ 24 then none else
      let z := if n * i.size = 0 then some #[] else i.zero.map (·.cells)
      z.bind fun z => (Instr.fill (fun j => some (j * i.size, i.size)) ((Array.range (n * i.size)).map (z[· % z.size]!)) parts).map fun cs => (e, i.size, cs.toList)
    | none => none
  | _ => none
theorem eff_slit {t e : TypeId} {n sz : Nat} {parts : Array (Nat × Operand)} {cs : List Value} (C : Ctx w0 D A L R w)
    (h : sliceC P t n ((parts.map fun (i, x) => (i, ρ x)).toList) = some (e, sz, cs)) (hl : cs.length = n * sz) (hn : n ≤ 9223372036854775807) :
    Eff P ρ (.buildSlice t n parts) w (fun v w' => (∃ b, v = .slice (some ⟨b, 0, none⟩) n n) ∧ Ctx w0 D A (L ++ [rowE v e sz n cs]) R w') := by
  unfold sliceC at h
  split at h
  · rename_i e' hu
    split at h
    · rename_i q hq
      split at h
      · cases h
      · rename_i hbig
        obtain ⟨z, hz, h⟩ := Option.bind_eq_some_iff.1 h
        obtain ⟨cs', hf, h⟩ := Option.map_eq_some_iff.1 h
        simp only [Prod.mk.injEq] at h
        obtain ⟨rfl, rfl, rfl⟩ := h
        refine eff_runs (v := .slice (some ⟨w.heap.size, 0, none⟩) n n) (w' := w.alloc (.cells cs' e')) ?_ ⟨⟨_, rfl⟩, ?_⟩
        · intro o ho
          have hf' := hf
          by_cases h0 : n * q.size = 0
          · rw [if_pos h0] at hz
            cases hz
            simp [h0] at hf'
            simp [execOp, ho, Instr.buildSlice, run_underlying hu, sizeOf, typeInfo, hq, h0, newRow]
            rw [hf']
            simp
          · rw [if_neg h0] at hz
            obtain ⟨z', hz', rfl⟩ := Option.map_eq_some_iff.1 hz
            simp [execOp, ho, Instr.buildSlice, run_underlying hu, sizeOf, typeInfo, hq, hbig, h0, zeroValue, hz', newRow]
            simp only [Array.toList_map] at hf'
            rw [hf']
            simp
        · exact ctx_new C (Fr.alloc w _) (World.ownsRow_lit w cs' n (Nat.zero_le _) (by simpa [maxLen] using hn) (by simpa using hl)) (fun b hb => by simp [rowE, Value.ownBlock] at hb; omega)
    · cases h
  · cases h
/-- What is appended to a row of the call's own. -/
theorem eff_append {li n m sz bytes : Nat} {e t : TypeId} {v y z : Value} {xs news : List Value} {s x : Operand} (C : Ctx w0 D A L R w) (hL : L[li]? = some (rowE v e sz n xs))
    (hs : ρ s = v) (hx : ρ x = y) (hy : Rds y m sz news w) (h1 : ∀ u ∈ news, u.oneCell' = true)
    (ht : elemInfo P t = some (e, sz, bytes, some z)) (hz : z.cells.size = sz) (h0 : 0 < sz) (hb : (n + m) * bytes ≤ 140737488355328) (hb0 : 0 < bytes) :
    Eff P ρ (.call { callee := .builtin .append, args := #[s, x], argTypes := #[t, t] }) w (fun v' w' => Ctx w0 D A (L.set li (rowE v' e sz (n + m) (xs ++ news))) R w') := by
  have hown : w.ownsRow 0 e sz v n xs := C.okL li _ hL
  unfold elemInfo at ht
  split at ht
  · rename_i e' hu
    obtain ⟨i, hi, hh⟩ := Option.map_eq_some_iff.1 ht
    simp only [Prod.mk.injEq] at hh
    obtain ⟨rfl, rfl, rfl, hzero⟩ := hh
    have hlen : n + m ≤ 140737488355328 := Nat.le_trans (Nat.le_mul_of_pos_right _ hb0) hb
    obtain ⟨hl, ao, c, rfl, h3, h4, h5, h2⟩ := hy
    cases ao with
    | none =>
      have hc := h5 rfl
      subst hc
      obtain rfl : m = 0 := by omega
      have : news = [] := List.eq_nil_of_length_eq_zero (by simpa using hl)
      subst this
      have hr := fun ty => run_append_owned_none (P := P) w 0 t ty e' i i.size hu hi v n xs hown
      refine eff_runs (v := v) (w' := w) ?_ ?_
      · intro o ho
        simp [execOp, ho, resolve, invoke, builtin, hs, hx, hr]
      · exact ctx_set C hL (Fr.refl _ _) (by simpa [rowE] using hown) (fun b h => .inl h)
    | some ad =>
      have hr := fun ty => run_append_own_at (P := P) w 0 t ty e' i z i.size i.bytes hu hi hzero rfl rfl hz h0 v n xs hown ad m c news hl
        (fun j u hu => by obtain ⟨ad', ha, hc⟩ := h2 j u hu; cases ha; exact hc) h1 (by simp only [maxLen]; omega) hb (Nat.zero_le _)
      refine eff_at fun o ho => ?_
      obtain ⟨v', w', hrun, r1, r2, _, r4⟩ := hr o.type
      have hx' : (execOp ρ o).run P w = .ok (.value v') w' := by
        simp [execOp, ho, resolve, invoke, builtin, hs, hx, hrun]
      refine ⟨v', w', hx', ctx_set C hL (Fr.of_grown r2) r1 (fun b hb => ?_)⟩
      simp only [rowE] at hb ⊢
      rcases r4 with r4 | r4
      · exact .inl (r4 ▸ hb)
      · rw [r4] at hb; cases hb; exact .inr (Nat.le_refl _)
  · cases ht
/-- A cut of a slice that is read. -/
def loOf : Option Value → Nat → Option Nat
  | none, _ => some 0
  | some (.int _ i), hi => if 0 ≤ i ∧ i ≤ hi then some i.toNat else none
  | _, _ => none
def hiOf : Option Value → Nat → Option Nat
  | none, n => some n
  | some (.int _ i), n => if 0 ≤ i ∧ i ≤ n then some i.toNat else none
  | _, _ => none
theorem run_bound {k : IntKind} {i : Int} {y : Nat} {code : BoundsCode} (h : 0 ≤ i ∧ i ≤ y) : (Instr.sliceBound (.int k i) y code).run P w = .ok i.toNat w := by
  simp [Instr.sliceBound, asIntOf, h]
theorem loOf_le {lo : Option Value} {hi l : Nat} (h : loOf lo hi = some l) : l ≤ hi := by
  unfold loOf at h
  split at h
  · cases h; exact Nat.zero_le _
  · split at h
    · cases h; omega
    · cases h
  · cases h
theorem run_bounds {lo hi : Option Value} {n c h l : Nat} (hh : hiOf hi n = some h) (hl : loOf lo h = some l) (hn : n ≤ c) : (Instr.sliceBounds true n c lo hi none).run P w = .ok (l, h, c) w := by
  cases hi with
  | none =>
    simp only [hiOf, Option.some.injEq] at hh
    subst hh
    cases lo with
    | none => simp only [loOf, Option.some.injEq] at hl; subst hl; simp [Instr.sliceBounds]
    | some v =>
      cases v <;> simp only [loOf] at hl <;> (try (cases hl; done))
      split at hl <;> (try (cases hl; done))
      rename_i hb
      cases hl
      simp [Instr.sliceBounds, run_bound hb]
  | some u =>
    cases u <;> simp only [hiOf] at hh <;> (try (cases hh; done))
    split at hh <;> (try (cases hh; done))
    rename_i ku iu hu
    cases hh
    have hu' : 0 ≤ iu ∧ iu ≤ (c : Int) := by omega
    cases lo with
    | none => simp only [loOf, Option.some.injEq] at hl; subst hl; simp [Instr.sliceBounds, run_bound hu']
    | some v =>
      cases v <;> simp only [loOf] at hl <;> (try (cases hl; done))
      split at hl <;> (try (cases hl; done))
      rename_i hb
      cases hl
      simp [Instr.sliceBounds, run_bound hu', run_bound hb]
def cutV (v : Value) (l h sz : Nat) : Value :=
  match v with
  | .slice ao _ c => .slice (if c = l then ao else ao.map (·.add (l * sz))) (h - l) (c - l)
  | _ => undef
def cutV3 (v : Value) (l h sz : Nat) : Value :=
  match v with
  | .slice ao _ _ => .slice (if h = l then ao else ao.map (·.add (l * sz))) (h - l) (h - l)
  | _ => undef
theorem hiOf_le {hi : Option Value} {n h : Nat} (hh : hiOf hi n = some h) : h ≤ n := by
  unfold hiOf at hh
  split at hh
  · cases hh; exact Nat.le_refl _
  · split at hh
    · cases hh; omega
    · cases hh
  · cases hh
theorem r_cut {v : Value} {n sz h l : Nat} {t : TypeId} {x : Operand} {lo hi : Option Operand} (hr : Shp v n) (hx : ρ x = v) (ht : elemSz P t = some sz)
    (hh : hiOf (hi.map ρ) n = some h) (hlo : loOf (lo.map ρ) h = some l) : Runs P ρ (.slice t x lo hi none) w (cutV v l h sz) w := by
  obtain ⟨ao, c, rfl, h3, h4, h5⟩ := hr
  unfold elemSz at ht
  split at ht
  · rename_i e hu
    obtain ⟨q, hq, hs⟩ := Option.map_eq_some_iff.1 ht
    intro o ho
    have hb := run_bounds (P := P) (w := w) hh hlo h3
    simp [execOp, ho, Instr.sliceAt, run_underlying hu, Instr.slice, hx, hb, sizeOf, typeInfo, hq, hs, cutV]
  · cases ht
theorem run_bounds3 {lo hi : Option Value} {n c h l : Nat} (hh : hiOf hi n = some h) (hi' : hi.isSome = true) (hl : loOf lo h = some l) (hn : n ≤ c) : (Instr.sliceBounds true n c lo hi hi).run P w = .ok (l, h, h) w := by
  cases hi with
  | none => cases hi'
  | some u =>
    cases u <;> simp only [hiOf] at hh <;> (try (cases hh; done))
    split at hh <;> (try (cases hh; done))
    rename_i ku iu hu
    cases hh
    have hu' : 0 ≤ iu ∧ iu ≤ (c : Int) := by omega
    have hu2 : 0 ≤ iu ∧ iu ≤ (iu.toNat : Int) := by omega
    cases lo with
    | none => simp only [loOf, Option.some.injEq] at hl; subst hl; simp [Instr.sliceBounds, run_bound hu', run_bound hu2]
    | some v =>
      cases v <;> simp only [loOf] at hl <;> (try (cases hl; done))
      split at hl <;> (try (cases hl; done))
      rename_i hb
      cases hl
      simp [Instr.sliceBounds, run_bound hu', run_bound hu2, run_bound hb]
theorem r_cut3 {v : Value} {n sz h l : Nat} {t : TypeId} {x : Operand} {lo hi mx : Option Operand} (hr : Shp v n) (hx : ρ x = v) (ht : elemSz P t = some sz)
    (hh : hiOf (hi.map ρ) n = some h) (hlo : loOf (lo.map ρ) h = some l) (hm : (hi.isSome, mx.map ρ) = (true, hi.map ρ)) : Runs P ρ (.slice t x lo hi mx) w (cutV3 v l h sz) w := by
  obtain ⟨ao, c, rfl, h3, h4, h5⟩ := hr
  simp only [Prod.mk.injEq] at hm
  unfold elemSz at ht
  split at ht
  · rename_i e hu
    obtain ⟨q, hq, hs⟩ := Option.map_eq_some_iff.1 ht
    intro o ho
    have hb := run_bounds3 (P := P) (w := w) hh (by simpa using hm.1) hlo h3
    simp [execOp, ho, Instr.sliceAt, run_underlying hu, Instr.slice, hx, hm.2, hb, sizeOf, typeInfo, hq, hs, cutV3]
  · cases ht
theorem cut_rds {v : Value} {n sz h l : Nat} {cs : List Value} (hr : Rds v n sz cs w) (hlh : l ≤ h) (hhn : h ≤ n) : Rds (cutV v l h sz) (h - l) sz ((cs.take (h * sz)).drop (l * sz)) w := by
  obtain ⟨hl, ao, c, rfl, h3, h4, h5, h2⟩ := hr
  refine ⟨?_, _, _, rfl, by omega, by omega, ?_, ?_⟩
  · rw [List.length_drop, List.length_take, hl, Nat.min_eq_left (Nat.mul_le_mul_right _ hhn), Nat.sub_mul]
  · intro hn
    split at hn
    · have := h5 hn; omega
    · cases ao with
      | none => have := h5 rfl; omega
      | some ad => simp at hn
  · intro j u hu'
    rw [List.getElem?_drop, List.getElem?_take] at hu'
    split at hu'
    · obtain ⟨ad, rfl, hc⟩ := h2 _ u hu'
      split
      · rename_i he
        have h6 : l * sz + j < h * sz := by assumption
        have : h * sz ≤ l * sz := Nat.mul_le_mul_right _ (by omega)
        omega
      · exact ⟨ad.add (l * sz), rfl, by rw [add_add]; exact hc⟩
    · cases hu'
theorem cut3_rds {v : Value} {n sz h l : Nat} {cs : List Value} (hr : Rds v n sz cs w) (hlh : l ≤ h) (hhn : h ≤ n) : Rds (cutV3 v l h sz) (h - l) sz ((cs.take (h * sz)).drop (l * sz)) w := by
  obtain ⟨hl, ao, c, rfl, h3, h4, h5, h2⟩ := hr
  refine ⟨?_, _, _, rfl, by omega, by omega, ?_, ?_⟩
  · rw [List.length_drop, List.length_take, hl, Nat.min_eq_left (Nat.mul_le_mul_right _ hhn), Nat.sub_mul]
  · intro hn
    split at hn
    · omega
    · cases ao with
      | none => have := h5 rfl; omega
      | some ad => simp at hn
  · intro j u hu'
    rw [List.getElem?_drop, List.getElem?_take] at hu'
    split at hu'
    · obtain ⟨ad, rfl, hc⟩ := h2 _ u hu'
      split
      · rename_i he
        have h6 : l * sz + j < h * sz := by assumption
        have : h * sz ≤ l * sz := Nat.mul_le_mul_right _ (by omega)
        omega
      · exact ⟨ad.add (l * sz), rfl, by rw [add_add]; exact hc⟩
    · cases hu'
theorem cut_addr (v : Value) (l h sz : Nat) : ∀ b, addrOf (cutV v l h sz) = some b → addrOf v = some b := by
  intro b hb
  unfold cutV at hb
  split at hb
  · rename_i ao n c
    by_cases hc : c = l
    · rw [if_pos hc] at hb
      cases ao with
      | none => simp [addrOf] at hb
      | some ad => simpa [addrOf] using hb
    · rw [if_neg hc] at hb
      cases ao with
      | none => simp [addrOf] at hb
      | some ad => simpa [addrOf, add_block] using hb
  · simp [addrOf, undef] at hb
theorem cut3_addr (v : Value) (l h sz : Nat) : ∀ b, addrOf (cutV3 v l h sz) = some b → addrOf v = some b := by
  intro b hb
  unfold cutV3 at hb
  split at hb
  · rename_i ao n c
    by_cases hc : h = l
    · rw [if_pos hc] at hb
      cases ao with
      | none => simp [addrOf] at hb
      | some ad => simpa [addrOf] using hb
    · rw [if_neg hc] at hb
      cases ao with
      | none => simp [addrOf] at hb
      | some ad => simpa [addrOf, add_block] using hb
  · simp [addrOf, undef] at hb
theorem cut3_cap (v : Value) (l h sz : Nat) {n : Nat} (hr : Shp (cutV3 v l h sz) n) : ∃ ao, cutV3 v l h sz = .slice ao n n ∧ (ao = none → n = 0) := by
  obtain ⟨ao, c, he, h1, h2, h3⟩ := hr
  unfold cutV3 at he ⊢
  split at he
  · simp only [Value.slice.injEq] at he
    obtain ⟨rfl, rfl, rfl⟩ := he
    exact ⟨_, rfl, h3⟩
  · cases he
/-- What is appended to a slice without room. -/
theorem eff_appfull {n m sz bytes : Nat} {e t : TypeId} {v y z : Value} {xs news : List Value} {s x : Operand} (hc : ∃ ao, v = .slice ao n n ∧ (ao = none → n = 0)) (hv : Rds v n sz xs w)
    (hs : ρ s = v) (hx : ρ x = y) (hy : Rds y m sz news w) (h1 : ∀ u ∈ news, u.oneCell' = true)
    (ht : elemInfo P t = some (e, sz, bytes, some z)) (hz : z.cells.size = sz) (h0 : 0 < sz) (hb : (n + m) * bytes ≤ 140737488355328) (hb0 : 0 < bytes) :
    Eff P ρ (.call { callee := .builtin .append, args := #[s, x], argTypes := #[t, t] }) w
      (fun v' w' => Fr nob w w' ∧ Rds v' (n + m) sz (xs ++ news) w' ∧ ∀ b, addrOf v' = some b → (news = [] ∧ addrOf v = some b) ∨ w.heap.size ≤ b) := by
  obtain ⟨ao, rfl, hn0⟩ := hc
  unfold elemInfo at ht
  split at ht
  · rename_i e' hu
    obtain ⟨i, hi, hh⟩ := Option.map_eq_some_iff.1 ht
    simp only [Prod.mk.injEq] at hh
    obtain ⟨rfl, rfl, rfl, hzero⟩ := hh
    have hlen : n + m ≤ 140737488355328 := Nat.le_trans (Nat.le_mul_of_pos_right _ hb0) hb
    have hv' := hv
    obtain ⟨hl, ao', c', he, _, _, _, h2⟩ := hv
    simp only [Value.slice.injEq] at he
    obtain ⟨rfl, -, rfl⟩ := he
    obtain ⟨hly, ay, cy, rfl, h3, h4, h5, h6⟩ := hy
    by_cases hm : m = 0
    · subst hm
      have : news = [] := List.eq_nil_of_length_eq_zero (by simpa using hly)
      subst this
      refine eff_runs (v := .slice ao n n) (w' := w) ?_ ⟨Fr.refl _ _, by simpa using hv', fun b hb => .inl ⟨rfl, hb⟩⟩
      intro o ho
      have hfc : (Builtin.firstCells i.size 0 (.slice ay 0 cy)).run P w = .ok #[] w := by
        cases ay <;> simp [Builtin.firstCells, loadCells, loadCellsFrom]
      cases ao <;> simp [execOp, ho, resolve, invoke, builtin, hs, hx, Builtin.append_, run_underlying hu, sizeOf, typeInfo, hi, Builtin.lenOf, hfc, storeCells]
    · cases ay with
      | none => have := h5 rfl; omega
      | some ad =>
        have hnews : ∀ j u, news[j]? = some u → w.cell? (ad.add j) = some u := fun j u hu => by
          obtain ⟨ad', ha, hc⟩ := h6 j u hu; cases ha; exact hc
        have main : ∀ ty, ∃ v' w', (Builtin.append_ #[t, t] ty #[.slice ao n n, .slice (some ad) m cy]).run P w = .ok v' w' ∧ w'.ownsRow w.heap.size e' i.size v' (n + m) (xs ++ news) ∧ w.grownBy w' none := by
          intro ty
          cases ao with
          | none =>
            obtain rfl := hn0 rfl
            have hx0 : xs = [] := List.eq_nil_of_length_eq_zero (by simpa using hl)
            subst hx0
            have hr := run_append_own_at (P := P) w w.heap.size t ty e' i z i.size i.bytes hu hi hzero rfl rfl hz h0 (.slice none 0 0) 0 [] (World.ownsRow_nil w _ _ _) ad m cy news hly hnews
            obtain ⟨v', w', r, r1, r2, _, _⟩ := hr h1 (by simp only [maxLen]; omega) hb (Nat.le_refl _)
            exact ⟨v', w', r, r1, r2⟩
          | some ad0 =>
            exact run_append_arg_grows (P := P) w t ty e' i z i.size i.bytes hu hi hzero rfl rfl hz h0 ad0 n n xs hl (fun j u hu => by obtain ⟨ad', ha, hc⟩ := h2 j u hu; cases ha; exact hc) ad m cy news hly hnews (by omega) (by simp only [maxLen]; omega) hb
        refine eff_at fun o ho => ?_
        obtain ⟨v', w', hrun, r1, r2⟩ := main o.type
        have hx' : (execOp ρ o).run P w = .ok (.value v') w' := by
          simp [execOp, ho, resolve, invoke, builtin, hs, hx, hrun]
        have r3 : w'.ownsRow 0 e' i.size v' (n + m) (xs ++ news) := by
          refine ⟨r1.1, ?_⟩
          rcases r1.2 with h | ⟨g, cap, cur, h1, _, h3⟩
          · exact .inl h
          · exact .inr ⟨g, cap, cur, h1, Nat.zero_le _, h3⟩
        refine ⟨v', w', hx', (Fr.of_grown r2).mono (fun x hx => by cases hx), rds_of_row r3, fun b hb => .inr ?_⟩
        rcases r1.2 with ⟨rfl, _⟩ | ⟨g, cap, cur, rfl, h1, _⟩
        · simp [addrOf] at hb
        · simp [addrOf] at hb; omega
  · cases ht
end
end Go.Proofs.YthdgllldpfeelaaGreatDoor
/- Small words of the printed functions and walks. No condition. -/
set_option linter.unusedVariables false
set_option linter.unusedSimpArgs false
namespace Go.Proofs.YthdgllldpfeelaaGreatDoor
open Go
def FK (k : IntKind) : Flat Int := ⟨1, fun x => [.int k x], 0, fun _ => rfl, fun x v h => by simp at h; subst h; rfl⟩
def Flat.at_ {α : Type} (F : Flat α) (l : List α) (i : Int) : α := l.getD i.toNat F.dflt
def W64 (x : Int) : Int := IntKind.wrap .i64 x
def WK (k : IntKind) (x : Int) : Int := k.wrap x
def andK (k : IntKind) (a b : Int) : Int := k.wrap (BitVec.ofInt k.bits a &&& BitVec.ofInt k.bits b).toNat
def orK (k : IntKind) (a b : Int) : Int := k.wrap (BitVec.ofInt k.bits a ||| BitVec.ofInt k.bits b).toNat
def xorK (k : IntKind) (a b : Int) : Int := k.wrap (BitVec.ofInt k.bits a ^^^ BitVec.ofInt k.bits b).toNat
def shlK (k : IntKind) (a b : Int) : Int := k.wrap (a * 2 ^ (min b.toNat k.bits))
def shrK (k : IntKind) (a b : Int) : Int := a.fdiv (2 ^ (min b.toNat k.bits))
def mnI (a b : Int) : Int := if b < a then b else a
def mxI (a b : Int) : Int := if b > a then b else a
theorem no_none {α : Type} {r : α} {G : Prop} (h : (none : Option α) = some r) : G := by cases h
theorem opt_t {α : Type} {b : Bool} {X Y : Option α} {r : α} (hb : b = true) (h : (if b = true then X else Y) = some r) : X = some r := by rwa [if_pos hb] at h
theorem opt_f {α : Type} {b : Bool} {X Y : Option α} {r : α} (hb : b = false) (h : (if b = true then X else Y) = some r) : Y = some r := by rwa [if_neg (by rw [hb]; exact Bool.false_ne_true)] at h
theorem ite_some {α : Type} {c : Prop} [Decidable c] {X : Option α} {r : α} (h : (if c then X else none) = some r) : c ∧ X = some r := by
  by_cases hc : c
  · rw [if_pos hc] at h; exact ⟨hc, h⟩
  · rw [if_neg hc] at h; cases h
theorem bind_some {α β : Type} {o : Option α} {f : α → Option β} {r : β} (h : o.bind f = some r) : ∃ t, o = some t ∧ f t = some r := Option.bind_eq_some_iff.1 h
def condV (m : List (Nat × Value)) : Operand → Option Bool
  | .tmp t => match look m t with
    | some (.bool b) => some b
    | _ => none
  | _ => none
section
variable {ro : Option Nat} {P : Program} {Q : Exit → Act → World → Prop} {a : Act} {w : World} {c : Code} {n : Nat} {m : List (Nat × Value)}
theorem c_if {b : Bool} (hS : Sl n m a) (h : c.kind.1 = 4) (hc : condV m c.test = some b) (h1 : b = true → c.fst.wpIn (FR ro) 3 P Q a w) (h2 : b = false → c.snd.wpIn (FR ro) 3 P Q a w) : c.wpIn (FR ro) 3 P Q a w := by
  have hk : c.kind = (4, 0) := by
    cases c <;> simp [Code.kind] at h ⊢
    case region i o d => cases d <;> simp at h
  refine c_cond hk (t := b) ?_ h1 h2
  unfold condV at hc
  split at hc
  · rename_i t ht
    split at hc
    · rename_i b' hb'
      cases hc
      rw [ht]
      simp [Act.eval, hS.slots t _ hb']
    · cases hc
  · cases hc
variable {ρ : Operand → Value} {w0 : World} {D A : Nat → Prop} {L R : List Ent}
theorem start1 {E : Ent} (h : E.ok w) : ∀ (i : Nat) (F : Ent), [E][i]? = some F → F.ok w := fun i F hi => by
  match i with
  | 0 => simp at hi; subst hi; exact h
  | i + 1 => simp at hi
theorem r_div {op : BinOp} {t t' : TypeId} {x y : Operand} {k : IntKind} {p q : Int} {v : Value} (hx : ρ x = .int k p) (hy : ρ y = .int k q) (hq : q ≠ 0)
    (hv : (match op with | .quo => some (Value.int k (k.wrap (p.tdiv q))) | .rem => some (Value.int k (p.tmod q)) | _ => none) = some v) : Runs P ρ (.binOp op t x y t') w v w := by
  intro o ho
  cases op <;> simp only at hv <;> (try (cases hv; done)) <;> cases hv <;> simp [execOp, ho, hx, hy, run_eqGuard_int, binOp, Op.intDiv, hq]
theorem r_cat {t t' : TypeId} {x y : Operand} {p q : ByteArray} (hx : ρ x = .string p) (hy : ρ y = .string q) (hq : p.size + q.size ≤ 9223372036854775807) :
    Runs P ρ (.binOp .add t x y t') w (.string (p ++ q)) w := by
  intro o ho
  have h : ¬ ((p.size + q.size : Nat) : Int) > IntKind.i64.max := by
    have : IntKind.i64.max = 9223372036854775807 := by decide
    omega
  have h' : ¬ (p.size : Int) + (q.size : Int) > IntKind.i64.max := by omega
  simp [execOp, ho, hx, hy, run_eqGuard_str, binOp, Op.stringOp]
  omega
theorem ctx_nilrd (sz : Nat) (C : Ctx w0 D A L R w) : Ctx w0 D A L (R ++ [rdE false (.slice none 0 0) 0 sz []]) w :=
  ctx_rdnew C (Fr.refl _ _) ⟨by simp, none, 0, rfl, Nat.le_refl _, by omega, fun _ => rfl, by simp⟩ (fun b h => (h.1 rfl).elim)
theorem got_full {α : Type} {lt : Bool} {F : Flat α} {l l' : List α} {ri k n : Nat} {v v' : Value} {w' : World} {news : List Value} (C : Ctx w0 D A L R w) (hR : R[ri]? = some (rdE lt v k F.sz (l.flatMap F.cells))) (f : Fr nob w w')
    (hr : Rds v' n F.sz (l.flatMap F.cells ++ news) w') (hd : ∀ b, addrOf v' = some b → (news = [] ∧ addrOf v = some b) ∨ w.heap.size ≤ b) (hn : n = l.length + l'.length) (hx : news = l'.flatMap F.cells) :
    Ctx w0 D A L (R ++ [rdE lt v' (l ++ l').length F.sz ((l ++ l').flatMap F.cells)]) w' := by
  subst hn hx
  rw [← List.flatMap_append, ← List.length_append] at hr
  refine ctx_rdnew C f hr (fun b hb => ?_)
  rcases hd b hb.2 with ⟨h1, h2⟩ | h1
  · refine .inl ⟨ri, _, hR, ⟨?_, h2⟩, id⟩
    intro e
    apply hb.1
    rw [List.flatMap_append, e, h1]
    rfl
  · exact .inr h1
theorem start2 {E F : Ent} (h : E.ok w) (h' : F.ok w) : ∀ (i : Nat) (G : Ent), [E, F][i]? = some G → G.ok w := fun i G hi => by
  match i with
  | 0 => simp at hi; subst hi; exact h
  | 1 => simp at hi; subst hi; exact h'
  | i + 2 => simp at hi
theorem start3 {E F H : Ent} (h : E.ok w) (h' : F.ok w) (h'' : H.ok w) : ∀ (i : Nat) (G : Ent), [E, F, H][i]? = some G → G.ok w := fun i G hi => by
  match i with
  | 0 => simp at hi; subst hi; exact h
  | 1 => simp at hi; subst hi; exact h'
  | 2 => simp at hi; subst hi; exact h''
  | i + 3 => simp at hi
theorem wl_val {ops : Array Oper} {i : Nat} {d : Option Tmp} {op : Op} {g : Option (Nat × Bool)} {v : Value} (hS : Sl n m a) (hs : sig ops i = some (d, op, g))
    (hw : (wantM ops m g == some true && wid n d && opKnown m op) = true) (hr : Runs P (ev m) op w v w)
    (k : ∀ a', Sl n (putM m d v) a' → wl ro P ops Q (i + 1) a' w) : wl ro P ops Q i a w :=
  wl_eff hS hs hw (eff_runs (K := fun v' w' => v' = v ∧ w' = w) hr ⟨rfl, rfl⟩) (by rintro _ _ ⟨rfl, rfl⟩; exact k)
theorem r_ldRb {lt : Bool} {li b off : Nat} {T t : TypeId} {cs : List Value} {x : Operand} {u : Value} (C : Ctx w0 D A L R w) (hL : R[li]? = some (boxE lt b T cs)) (hx : ρ x = .pointer (some ⟨b, off, none⟩))
    (hc : cs[off]? = some u) (ht : scal P t = true) : Runs P ρ (.load t x) w u w :=
  r_cell hx ((cell_of_row w b off cs.toArray T (0, 0) (C.okR li _ hL)).trans (by simpa using hc)) ht
theorem r_ldRbs {lt : Bool} {li b off : Nat} {T t : TypeId} {cs : List Value} {x : Operand} {seg : List Value} (C : Ctx w0 D A L R w) (hL : R[li]? = some (boxE lt b T cs)) (hx : ρ x = .pointer (some ⟨b, off, none⟩))
    (hc : (cs.drop off).take seg.length = seg) (ht : rowT P t seg.length = true) : Runs P ρ (.load t x) w (.agg seg.toArray) w :=
  r_ldbs (w0 := w) (D := fun _ => True) (A := nob) (L := [boxE false b T cs]) (R := []) (li := 0) ⟨Fr.refl _ _, start1 (show (boxE false b T cs).ok w from (C.okR li _ hL : (boxE lt b T cs).ok w)), by simp, fun _ _ _ _ _ => .inl trivial,
    fun i j E F hij hi hj => (by
      match i, j with
      | 0, 0 => exact absurd rfl hij
      | i + 1, _ => simp at hi
      | 0, j + 1 => simp at hj), by simp, by simp⟩ rfl hx hc ht
theorem r_len {v : Value} {n : Nat} {x : Operand} {t : TypeId} (hr : Shp v n) (hx : ρ x = v) (ht : (isTy P t == 4) = true) :
    Runs P ρ (.call { callee := .builtin .len, args := #[x], argTypes := #[t] }) w (.int .i64 (n : Int)) w := by
  obtain ⟨ao, c, rfl, _⟩ := hr
  exact runs_pure (by have h4 : isTy P t = 4 := by simpa using ht
                      simp [pureV, callV, h4, hx]) w
theorem ctx_relist {α : Type} {F : Flat α} {l : List α} {li e n : Nat} {v : Value} {xs : List Value} (C : Ctx w0 D A L R w) (hL : L[li]? = some (rowE v e F.sz n xs)) (hn : n = l.length) (hx : xs = l.flatMap F.cells) :
    Ctx w0 D A (L.set li (rowE v e F.sz l.length (l.flatMap F.cells))) R w := by
  subst hn hx
  exact ctx_set C hL (Fr.refl _ _) (C.okL li _ hL) (fun b h => .inl h)
theorem flat_take {α : Type} (F : Flat α) (l : List α) (h : Nat) : (l.flatMap F.cells).take (h * F.sz) = (l.take h).flatMap F.cells := by
  induction l generalizing h with
  | nil => simp
  | cons x xs ih =>
    cases h with
    | zero => simp
    | succ h =>
      have hl := F.len x
      rw [List.flatMap_cons, List.take_succ_cons, List.flatMap_cons, ← ih h, List.take_append, List.take_of_length_le (by rw [hl, Nat.add_mul]; omega)]
      congr 2
      rw [hl, Nat.add_mul]
      omega
theorem flat_drop {α : Type} (F : Flat α) (l : List α) (h : Nat) : (l.flatMap F.cells).drop (h * F.sz) = (l.drop h).flatMap F.cells := by
  induction l generalizing h with
  | nil => simp
  | cons x xs ih =>
    cases h with
    | zero => simp
    | succ h =>
      have hl := F.len x
      rw [List.flatMap_cons, List.drop_succ_cons, ← ih h, List.drop_append, List.drop_of_length_le (by rw [hl, Nat.add_mul]; omega), List.nil_append]
      congr 1
      rw [hl, Nat.add_mul]
      omega
theorem got_cut {α : Type} {lt : Bool} {F : Flat α} {l l' : List α} {ri k h lo : Nat} {v v' : Value} (C : Ctx w0 D A L R w) (hR : R[ri]? = some (rdE lt v k F.sz (l.flatMap F.cells)))
    (hr : Rds v' (h - lo) F.sz (((l.flatMap F.cells).take (h * F.sz)).drop (lo * F.sz)) w) (hd : ∀ b, addrOf v' = some b → addrOf v = some b) (hh : h ≤ l.length) (hl : (l.take h).drop lo = l') :
    Ctx w0 D A L (R ++ [rdE lt v' l'.length F.sz (l'.flatMap F.cells)]) w := by
  subst hl
  rw [flat_take, flat_drop] at hr
  have e : ((l.take h).drop lo).length = h - lo := by simp; omega
  refine ctx_rdnew C (Fr.refl _ _) (by rw [← e] at hr; exact hr) (fun b hb => .inl ⟨ri, _, hR, ⟨?_, hd b hb.2⟩, id⟩)
  intro e'
  apply hb.1
  rw [← flat_drop, ← flat_take, e']
  simp
theorem hi_ok (k : IntKind) (i : Int) {n : Nat} (h0 : 0 ≤ i) (h1 : i ≤ n) : hiOf (some (.int k i)) n = some i.toNat := by simp [hiOf, h0, h1]
theorem lo_ok (k : IntKind) (i : Int) {n : Nat} (h0 : 0 ≤ i) (h1 : i ≤ n) : loOf (some (.int k i)) n = some i.toNat := by simp [loOf, h0, h1]
end
def placesV (P : Program) : List Field → Option (List (Nat × Nat))
  | [] => some []
  | f :: fs => match P.info? f.type, placesV P fs with
    | some i, some ps => some ((f.offset, i.size) :: ps)
    | _, _ => none
def builtV (P : Program) (t : TypeId) (parts : List (Nat × Value)) : Option Value :=
  match P.info? t, P.underlying t with
  | some i, some (.struct fs) => match i.zero, placesV P fs.toList with
    | some z, some ps => (Instr.fill (fun j => ps.toArray[j]?) z.cells parts).map .agg
    | _, _ => none
  | some i, some (.array _ e) => match i.zero, P.info? e with
    | some z, some q => (Instr.fill (fun j => some (j * q.size, q.size)) z.cells parts).map .agg
    | _, _ => none
  | _, _ => none
def placeF (f : Field) : Sem (Nat × Nat) := do pure (f.offset, ← sizeOf f.type)
theorem run_placeF {P : Program} {w : World} {f : Field} {i : TypeInfo} (hi : P.info? f.type = some i) : (placeF f).run P w = .ok (f.offset, i.size) w := by
  simp [placeF, sizeOf, typeInfo, hi]
theorem run_places {P : Program} {w : World} : ∀ (fs : List Field) (ps : List (Nat × Nat)), placesV P fs = some ps → (fs.mapM placeF).run P w = .ok ps w
  | [], ps, h => by simp [placesV] at h; subst h; simp
  | f :: fs, ps, h => by
    simp only [placesV] at h
    split at h
    · rename_i i qs hi hq
      cases h
      simp only [List.mapM_cons, Sem.run_bind, run_placeF hi, Result.andThen_ok, run_places (P := P) (w := w) fs qs hq, Sem.run_pure]
    · cases h
theorem r_build {P : Program} {ρ : Operand → Value} {w : World} {t : TypeId} {parts : Array (Nat × Operand)} {v : Value} (h : builtV P t (parts.map fun (i, x) => (i, ρ x)).toList = some v) : Runs P ρ (.build t parts) w v w := by
  intro o ho
  unfold builtV at h
  split at h
  · rename_i i fs hi hu
    split at h
    · rename_i z ps hz hps
      obtain ⟨cs, hf, rfl⟩ := Option.map_eq_some_iff.1 h
      have hp := run_places (P := P) (w := w) fs.toList ps hps
      have hp' : (fs.mapM placeF).run P w = .ok ps.toArray w := by
        have e : fs = fs.toList.toArray := by simp
        rw [e, List.mapM_toArray]
        simp only [Sem.run_map, hp, Result.andThen_ok]
      have hp2 : (fs.mapM fun (f : Field) => do pure (f.offset, ← sizeOf f.type)).run P w = .ok ps.toArray w := hp'
      simp only [execOp, ho, Instr.build, Sem.run_bind, zeroValue, typeInfo, run_program, hi, hz, Sem.run_pure, Result.andThen_ok, run_underlying hu, hp2, hf]
    · cases h
  · rename_i i len e hi hu
    split at h
    · rename_i z q hz hq
      obtain ⟨cs, hf, rfl⟩ := Option.map_eq_some_iff.1 h
      simp only [execOp, ho, Instr.build, Sem.run_bind, zeroValue, typeInfo, run_program, hi, hz, hq, sizeOf, Sem.run_pure, Result.andThen_ok, run_underlying hu, hf]
    · cases h
  · cases h
section
variable {P : Program} {Q : Exit → Act → World → Prop} {a : Act} {w w0 : World} {c : Code} {n : Nat} {m : List (Nat × Value)} {D A : Nat → Prop} {L R : List Ent}
theorem c_drawsC {N : Nat} (is js : List Nat) (q : Nat) (C : Ctx w0 D A L R w) (hn : nodupN is = true) (h : c.kind.1 = 3) (hm : P.follows .mixedOrders = true) (hN : c.ops.size = N) (hl : (lastB c.ops q && Region.noSelect c.ops) = true)
    (hd : ∀ w', Ctx w0 D A L R w' → dr P c.ops Q (Ctx w0 D A (pick is L) (pick js R)) q N [] a w') : c.wpIn (FR none) 3 P Q a w :=
  c_draws q h hm _ hN hl (fun w' hf => hd w' (ctx_still C hf))
end
end Go.Proofs.YthdgllldpfeelaaGreatDoor
