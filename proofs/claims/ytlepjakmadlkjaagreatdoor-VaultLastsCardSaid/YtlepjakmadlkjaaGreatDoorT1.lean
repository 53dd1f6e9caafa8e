/- Texts of the proof, put together: part 1. No condition. -/
import Derived.Below
import Derived.Deep.MidRow
import Derived.Deep.AppendLies
import Derived.OrdersHeld
import Derived.WalkKit
import Derived.KernelRfl
import Derived.Still
import Derived.Laws.Slices
import Derived.Laws.OwnMore
import Derived.Laws.StructEq
import Derived.Laws.BytesArg
import Derived.Laws.MakeOwn
import Derived.Laws.CopyRow
import Derived.ChangeKeysEq
set_option linter.unusedVariables false
set_option linter.unusedSimpArgs false
namespace Go.Proofs.YtlepjakmadlkjaaGreatDoor
open Go
abbrev nob : Nat → Prop := fun _ => False
structure Fr (D : Nat → Prop) (w w' : World) : Prop where
 os : w'.os = w.os
 tape : w'.tape = w.tape
 output : w'.output = w.output
 size : w.heap.size ≤ w'.heap.size
 block : ∀ b, b < w.heap.size → ¬ D b → w'.heap[b]? = w.heap[b]?
theorem Fr.refl (D : Nat → Prop) (w : World) : Fr D w w := ⟨rfl, rfl, rfl, Nat.le_refl _, fun _ _ _ => rfl⟩
theorem Fr.trans {D E : Nat → Prop} {a b c : World} (h : Fr D a b) (k : Fr E b c) (hE : ∀ x, E x → D x ∨ a.heap.size ≤ x) : Fr D a c :=
 ⟨k.os.trans h.os, k.tape.trans h.tape, k.output.trans h.output, Nat.le_trans h.size k.size,
  fun x hx hD => (k.block x (Nat.lt_of_lt_of_le hx h.size) (fun e => (hE x e).elim hD (by omega))).trans (h.block x hx hD)⟩
theorem Fr.then {D : Nat → Prop} {a b c : World} (h : Fr D a b) (k : Fr nob b c) : Fr D a c := h.trans k (fun _ h => h.elim)
theorem Fr.mono {D E : Nat → Prop} {a b : World} (h : Fr D a b) (hD : ∀ x, D x → E x) : Fr E a b :=
 ⟨h.os, h.tape, h.output, h.size, fun x hx hE => h.block x hx (fun d => hE (hD x d))⟩
theorem Fr.alloc (w : World) (o : Obj) : Fr nob w (w.alloc o) := ⟨rfl, rfl, rfl, by simp, fun b hb _ => Go.RowKit.Below.heap_alloc w o b hb⟩
theorem Fr.drawn (w : World) (n : Nat) : Fr nob w { w with drawn := n } := ⟨rfl, rfl, rfl, Nat.le_refl _, fun _ _ _ => rfl⟩
theorem Fr.below {w w' : World} (h : Fr nob w w') : Go.RowKit.Below w.heap.size w w' := ⟨h.os, h.tape, h.output, h.size, fun k hk => h.block k hk id⟩
theorem Fr.of_grown {w w' : World} {row : Option Nat} (h : w.grownBy w' row) : Fr (fun b => row = some b) w w' :=
 ⟨h.os, h.tape, h.output, h.size, fun b hb hn => h.block b hb (fun e => hn e.symm)⟩
theorem Fr.cell {D : Nat → Prop} {w w' : World} (h : Fr D w w') {a : Addr} {v : Value} (hc : w.cell? a = some v) (hD : ¬ D a.block) : w'.cell? a = some v :=
 (World.cell?_of_block (h.block a.block (block_lt_of_cell hc) hD)).trans hc
structure Ent where
 dom : Nat → Prop
 ok : World → Prop
 lt : ∀ w, ok w → ∀ b, dom b → b < w.heap.size
 loc : ∀ w w', ok w → (∀ b, dom b → w'.heap[b]? = w.heap[b]?) → ok w'
 lent : Bool
def Ent.nil : Ent := ⟨nob, fun _ => True, fun _ _ _ h => h.elim, fun _ _ _ _ => trivial, false⟩
theorem Ent.keep (E : Ent) {D : Nat → Prop} {w w' : World} (h : E.ok w) (f : Fr D w w') (hd : ∀ b, E.dom b → ¬ D b) : E.ok w' :=
 E.loc w w' h (fun b hb => f.block b (E.lt w h b hb) (hd b hb))
def dJ (l : Bool) (b : Nat) (T : TypeId) (cs : List Value) : Ent :=
 ⟨fun x => x = b, fun w => w.heap[b]? = some (.cells cs.toArray T (0, 0)), fun w h x e => by subst e; exact (Array.getElem?_eq_some_iff.1 h).1,
  fun w w' h f => (f b rfl).trans h, l⟩
def io (v : Value) (e sz n : Nat) (xs : List Value) : Ent :=
 ⟨fun x => v.ownBlock = some x, fun w => w.ownsRow 0 e sz v n xs, fun w h x hx => (h.lt x hx).2,
  fun w w' h f => by
   refine ⟨h.1, ?_⟩
   rcases h.2 with hn | ⟨g, cap, cur, rfl, hb, hgg, rest⟩
   ·exact .inl hn
   ·exact .inr ⟨g, cap, cur, rfl, hb, (f g (by simp [Value.ownBlock])).trans hgg, rest⟩, false⟩
def Rds (v : Value) (n sz : Nat) (cs : List Value) (w : World) : Prop :=
 cs.length = n * sz ∧ ∃ ao c, v = .slice ao n c ∧ n ≤ c ∧ c ≤ 9223372036854775807 ∧ (ao = none → c = 0) ∧ ∀ j u, cs[j]? = some u → ∃ ad, ao = some ad ∧ w.cell? (ad.add j) = some u
def aT : Value → Option Nat
 | .slice (some a) _ _ => some a.block
 | .pointer (some a) => some a.block
 | _ => none
theorem jF (a : Addr) (j : Nat) : (a.add j).block = a.block := by unfold Addr.add; split <;> rfl
def rdE (l : Bool) (v : Value) (n sz : Nat) (cs : List Value) : Ent :=
 ⟨fun x => cs ≠ [] ∧ aT v = some x, Rds v n sz cs,
  fun w h x hx => by
   obtain ⟨h1, ao, c, rfl, _, _, _, h2⟩ := h
   obtain ⟨hne, hx⟩ := hx
   obtain ⟨u, us, rfl⟩ := List.exists_cons_of_ne_nil hne
   obtain ⟨ad, rfl, hc⟩ := h2 0 u rfl
   have := block_lt_of_cell hc
   rw [jF] at this
   have e : ad.block = x := by simpa [aT] using hx
   omega,
    fun w w' h f => by
   obtain ⟨h1, ao, c, rfl, h3, h4, h5, h2⟩ := h
   refine ⟨h1, ao, c, rfl, h3, h4, h5, fun j u hu => ?_⟩
   obtain ⟨ad, rfl, hc⟩ := h2 j u hu
   exact ⟨ad, rfl, (World.cell?_of_block (f _ ⟨by rintro rfl; simp at hu, by simp [aT, jF]⟩)).trans hc⟩, l⟩
structure Ctx (w0 : World) (D A : Nat → Prop) (L R : List Ent) (w : World) : Prop where
 fr : Fr D w0 w
 okL : ∀ (i : Nat) (E : Ent), L[i]? = some E → E.ok w
 okR : ∀ (i : Nat) (E : Ent), R[i]? = some E → E.ok w
 mine : ∀ (i : Nat) (E : Ent), L[i]? = some E → ∀ b, E.dom b → D b ∨ w0.heap.size ≤ b
 sepL : ∀ (i j : Nat) (E F : Ent), i ≠ j → L[i]? = some E → L[j]? = some F → ∀ b, E.dom b → ¬ F.dom b
 sepR : ∀ (i j : Nat) (E F : Ent), L[i]? = some E → R[j]? = some F → ∀ b, E.dom b → ¬ F.dom b
 src : ∀ (i : Nat) (E : Ent), R[i]? = some E → E.lent = false → ∀ b, E.dom b → A b ∨ D b ∨ w0.heap.size ≤ b
section ctx
variable {w0 w w' : World} {D A : Nat → Prop} {L R : List Ent}
theorem CH (C : Ctx w0 D A L R w) (h : Fr nob w w') : Ctx w0 D A L R w' :=
 ⟨C.fr.then h, fun i E hi => E.keep (C.okL i E hi) h (fun _ _ => id), fun i E hi => E.keep (C.okR i E hi) h (fun _ _ => id), C.mine, C.sepL, C.sepR, C.src⟩
theorem qr {i : Nat} {E E' : Ent} (C : Ctx w0 D A L R w) (hi : L[i]? = some E) (h : Fr E.dom w w') (ok' : E'.ok w')
 (hd : ∀ b, E'.dom b → E.dom b ∨ w.heap.size ≤ b) : Ctx w0 D A (L.set i E') R w' := by
 have hlt := (List.getElem?_eq_some_iff.1 hi).1
 have get : ∀ j F, (L.set i E')[j]? = some F → (j = i ∧ F = E') ∨ (j ≠ i ∧ L[j]? = some F) := fun j F hj => by
  by_cases e : j = i
  ·subst e; rw [List.getElem?_set_self hlt] at hj; exact .inl ⟨rfl, (Option.some.inj hj).symm⟩
  ·rw [List.getElem?_set_ne (Ne.symm e)] at hj; exact .inr ⟨e, hj⟩
 refine ⟨C.fr.trans h (fun x hx => C.mine i E hi x hx), ?_, ?_, ?_, ?_, ?_, C.src⟩
 ·intro j F hj
  rcases get j F hj with ⟨rfl, rfl⟩ | ⟨hne, hj⟩
  ·exact ok'
  ·exact F.keep (C.okL j F hj) h (C.sepL j i F E hne hj hi)
 ·intro j F hj
  exact F.keep (C.okR j F hj) h (fun b hF hE => C.sepR i j E F hi hj b hE hF)
 ·intro j F hj b hb
  rcases get j F hj with ⟨rfl, rfl⟩ | ⟨hne, hj⟩
  ·rcases hd b hb with h1 | h1
   ·exact C.mine _ E hi b h1
   ·exact .inr (Nat.le_trans C.fr.size h1)
  ·exact C.mine j F hj b hb
 ·intro j k F G hjk hj hk b hb hb'
  rcases get j F hj with ⟨rfl, rfl⟩ | ⟨hne, hj1⟩
  ·rcases get k G hk with ⟨rfl, rfl⟩ | ⟨hne', hk⟩
   ·exact hjk rfl
   ·rcases hd b hb with h1 | h1
    ·exact C.sepL _ _ E G hjk hi hk b h1 hb'
    ·have := G.lt w (C.okL k G hk) b hb'; omega
  ·rcases get k G hk with ⟨rfl, rfl⟩ | ⟨hne', hk⟩
   ·rcases hd b hb' with h1 | h1
    ·exact C.sepL _ _ F E hjk hj1 hi b hb h1
    ·have := F.lt w (C.okL j F hj1) b hb; omega
   ·exact C.sepL j k F G hjk hj1 hk b hb hb'
 ·intro j k F G hj hk b hb hb'
  rcases get j F hj with ⟨rfl, rfl⟩ | ⟨hne, hj⟩
  ·rcases hd b hb with h1 | h1
   ·exact C.sepR _ k E G hi hk b h1 hb'
   ·have := G.lt w (C.okR k G hk) b hb'; omega
  ·exact C.sepR j k F G hj hk b hb hb'
theorem tx {E' : Ent} (C : Ctx w0 D A L R w) (h : Fr nob w w') (ok' : E'.ok w') (hd : ∀ b, E'.dom b → w.heap.size ≤ b) : Ctx w0 D A (L ++ [E']) R w' := by
 have C' := CH C h
 have get : ∀ j F, (L ++ [E'])[j]? = some F → (j = L.length ∧ F = E') ∨ L[j]? = some F := fun j F hj => by
  rcases Nat.lt_trichotomy j L.length with h1 | h1 | h1
  ·rw [List.getElem?_append_left h1] at hj; exact .inr hj
  ·subst h1; simp at hj; exact .inl ⟨rfl, hj.symm⟩
  ·rw [List.getElem?_eq_none (by simp; omega)] at hj; cases hj
 refine ⟨C'.fr, ?_, C'.okR, ?_, ?_, ?_, C.src⟩
 ·intro j F hj
  rcases get j F hj with ⟨_, rfl⟩ | hj
  ·exact ok'
  ·exact C'.okL j F hj
 ·intro j F hj b hb
  rcases get j F hj with ⟨_, rfl⟩ | hj
  ·exact .inr (Nat.le_trans C.fr.size (hd b hb))
  ·exact C.mine j F hj b hb
 ·intro j k F G hjk hj hk b hb hb'
  rcases get j F hj with ⟨rfl, rfl⟩ | hj1
  ·rcases get k G hk with ⟨rfl, rfl⟩ | hk
   ·exact hjk rfl
   ·have := G.lt w (C.okL k G hk) b hb'; have := hd b hb; omega
  ·rcases get k G hk with ⟨rfl, rfl⟩ | hk
   ·have := F.lt w (C.okL j F hj1) b hb; have := hd b hb'; omega
   ·exact C.sepL j k F G hjk hj1 hk b hb hb'
 ·intro j k F G hj hk b hb hb'
  rcases get j F hj with ⟨_, rfl⟩ | hj
  ·have := G.lt w (C.okR k G hk) b hb'; have := hd b hb; omega
  ·exact C.sepR j k F G hj hk b hb hb'
def pick (is : List Nat) (L : List Ent) : List Ent := is.map fun i => L.getD i Ent.nil
def Sub (w : World) (L R : List Ent) (is : List Nat) (E : Ent) : Prop :=
 E.ok w ∧ ∀ b, E.dom b → (∃ j : Nat, ∃ G : Ent, R[j]? = some G ∧ G.dom b ∧ (E.lent = false → G.lent = false)) ∨ (E.lent = true ∧ ∃ i : Nat, ∃ G : Ent, is.elem i = false ∧ L[i]? = some G ∧ G.dom b)
inductive Subs (w : World) (L R : List Ent) (is : List Nat) : List Ent → Prop where
 | nil : Subs w L R is []
 | cons {E : Ent} {Es : List Ent} : Sub w L R is E → Subs w L R is Es → Subs w L R is (E :: Es)
theorem Subs.get {w : World} {L R : List Ent} {is : List Nat} : ∀ {Es : List Ent}, Subs w L R is Es → ∀ (j : Nat) (E : Ent), Es[j]? = some E → Sub w L R is E
 | _, .nil, _, _, h => by simp at h
 | _, .cons a b, 0, E, h => by simp at h; subst h; exact a
 | _, .cons a b, j + 1, E, h => b.get j E (by simpa using h)
end ctx
end Go.Proofs.YtlepjakmadlkjaaGreatDoor
namespace Go.Proofs.YtlepjakmadlkjaaGreatDoor
open Go
def gQ : List (Nat × Value) → Nat → Option Value
 | [], _ => none
 | (i, v) :: m, t => if i == t then some v else gQ m t
def ev (m : List (Nat × Value)) : Operand → Value
 | .tmp t => (gQ m t).getD undef
 | .const v => v
 | .global g => .pointer (some ⟨g, 0, none⟩)
 | .func f => .func (.func f) #[] #[]
def D9 (m : List (Nat × Value)) : Operand → Bool
 | .tmp t => (gQ m t).isSome
 | _ => true
def del : List (Nat × Value) → Nat → List (Nat × Value)
 | [], _ => []
 | (i, v) :: m, t => if i == t then del m t else (i, v) :: del m t
def qt (m : List (Nat × Value)) : Option Nat → Value → List (Nat × Value)
 | none, _ => m
 | some d, v => (d, v) :: del m d
def keep (m : List (Nat × Value)) : List Nat → List (Nat × Value)
 | [] => []
 | k :: ks => match gQ m k with
   | some v => (k, v) :: keep m ks
   | none => keep m ks
structure Sl (n : Nat) (m : List (Nat × Value)) (a : Act) : Prop where
 size : a.tmps.size = n
 defers : a.defers = []
 slots : ∀ t v, gQ m t = some v → a.tmps[t]? = some v
theorem Ea (m : List (Nat × Value)) (d t : Nat) (h : d ≠ t) : gQ (del m d) t = gQ m t := by
 induction m with
 | nil => rfl
 | cons p m ih =>
   obtain ⟨i, v⟩ := p
   simp only [del, gQ]
   by_cases e : i = d
   ·subst e; rw [if_pos (by simp), ih, if_neg (by simpa using h)]
   ·rw [if_neg (by simpa using e)]; simp only [gQ, ih]
def wid (n : Nat) : Option Nat → Bool
 | none => true
 | some d => decide (d < n)
theorem Sl.put {n : Nat} {m : List (Nat × Value)} {a : Act} (h : Sl n m a) (d : Option Nat) (v : Value) (hd : wid n d = true) : Sl n (qt m d v) (a.put d v) := by
 cases d with
 | none => exact h
 | some d =>
   have hd' : d < a.tmps.size := by rw [h.size]; simpa [wid] using hd
   refine ⟨by simpa [Act.put] using h.size, h.defers, fun t u hu => ?_⟩
   simp only [qt, gQ] at hu
   by_cases e : d = t
   ·subst e
    rw [if_pos (by simp)] at hu
    cases hu
    simp [Act.put, hd']
   ·rw [if_neg (by simpa using e), Ea _ _ _ e] at hu
    simp only [Act.put]
    rw [Array.getElem?_setIfInBounds_ne e]
    exact h.slots t u hu
theorem rH {m : List (Nat × Value)} : ∀ {ks : List Nat} {t : Nat} {v : Value}, gQ (keep m ks) t = some v → gQ m t = some v
 | [], _, _, h => by simp [keep, gQ] at h
 | k :: ks, t, v, h => by
   simp only [keep] at h
   cases hk : gQ m k with
   | none => rw [hk] at h; exact rH h
   | some u =>
     rw [hk] at h
     simp only [gQ] at h
     by_cases e : k = t
     ·subst e; rw [if_pos (by simp)] at h; rw [hk]; exact h
     ·rw [if_neg (by simpa using e)] at h; exact rH h
theorem Sl.keep {n : Nat} {m m' : List (Nat × Value)} {a : Act} (h : Sl n m a) (ks : List Nat) (e : keep m ks = m') : Sl n m' a := by
 subst e
 exact ⟨h.size, h.defers, fun t v hv => h.slots t v (rH hv)⟩
theorem Sl.ev {n : Nat} {m : List (Nat × Value)} {a : Act} (h : Sl n m a) {x : Operand} (hk : D9 m x = true) : a.eval x = ev m x := by
 cases x with
 | tmp t =>
   simp only [D9] at hk
   obtain ⟨v, hv⟩ := Option.isSome_iff_exists.1 hk
   simp [Act.eval, Go.Proofs.YtlepjakmadlkjaaGreatDoor.ev, hv, h.slots t v hv]
 | _ => rfl
theorem Sl.start (args : List Value) (k : Nat) (m : List (Nat × Value)) (hm : ∀ t v, gQ m t = some v → args[t]? = some v) :
 Sl (args.length + k) m { tmps := args.toArray ++ Array.replicate k undef, defers := [] } :=
 ⟨by simp, rfl, fun t v hv => by
  have h1 := hm t v hv
  have hlt := (List.getElem?_eq_some_iff.1 h1).1
  rw [Array.getElem?_append_left (by simpa using hlt)]
  simpa using h1⟩
def wg : Nat → List Value → List (Nat × Value)
 | _, [] => []
 | i, v :: vs => (i, v) :: wg (i + 1) vs
theorem pG : ∀ (vs : List Value) (i t : Nat) (v : Value), gQ (wg i vs) t = some v → i ≤ t ∧ vs[t - i]? = some v
 | [], _, _, _, h => by simp [wg, gQ] at h
 | u :: vs, i, t, v, h => by
   simp only [wg, gQ] at h
   by_cases e : i = t
   ·subst e; rw [if_pos (by simp)] at h; exact ⟨Nat.le_refl _, by simpa using h⟩
   ·rw [if_neg (by simpa using e)] at h
    obtain ⟨h1, h2⟩ := pG vs (i + 1) t v h
    refine ⟨by omega, ?_⟩
    rw [show t - i = (t - (i + 1)) + 1 by omega]
    simpa using h2
end Go.Proofs.YtlepjakmadlkjaaGreatDoor
namespace Go
def Code.fst : Code → Code
 | .seq a _ => a
 | .cond _ t _ => t
 | .block _ b => b
 | .loop b => b
 | .scope b => b
 | c => c
def Code.snd : Code → Code
 | .seq _ b => b
 | .cond _ _ e => e
 | c => c
def Code.ops : Code → Array Oper
 | .region _ o _ => o
 | _ => #[]
def Code.test : Code → Operand
 | .cond c _ _ => c
 | _ => .const undef
def Code.kind : Code → Nat × Nat
 | .seq _ _ => (1, 0)
 | .region i _ false => (2, i)
 | .region i _ true => (3, i)
 | .cond _ _ _ => (4, 0)
 | .block i _ => (5, i)
 | .loop _ => (6, 0)
 | .exit i => (7, i)
 | .ret => (8, 0)
 | .skip => (9, 0)
 | .label _ => (10, 0)
 | .scope _ => (11, 0)
 | _ => (0, 0)
end Go
namespace Go.Proofs.YtlepjakmadlkjaaGreatDoor
open Go
def FR (ro : Option Nat) : Fence := { Fence.wide with round := ro }
section code
variable {ro : Option Nat} {P : Program} {Q : Exit → Act → World → Prop} {a : Act} {w : World} {c : Code}
theorem bw (h : c.kind = (1, 0)) (hx : c.fst.wpIn (FR ro) 3 P (Exit.then (fun a w => c.snd.wpIn (FR ro) 3 P Q a w) Q) a w) : c.wpIn (FR ro) 3 P Q a w := by
 cases c <;> simp [Code.kind] at h
 case seq x y => exact wpIn_seq hx
 case region i o d => cases d <;> simp at h
theorem jf (h : c.kind = (4, 0)) {t : Bool} (hc : a.eval c.test = .bool t) (h1 : t = true → c.fst.wpIn (FR ro) 3 P Q a w) (h2 : t = false → c.snd.wpIn (FR ro) 3 P Q a w) : c.wpIn (FR ro) 3 P Q a w := by
 cases c <;> simp [Code.kind] at h
 case cond x y z => exact wpIn_cond_split hc h1 h2
 case region i o d => cases d <;> simp at h
theorem xp {i : Nat} (h : c.kind = (5, i)) (hx : c.fst.wpIn (FR ro) 3 P (Exit.inBlock i Q) a w) : c.wpIn (FR ro) 3 P Q a w := by
 cases c <;> simp [Code.kind] at h
 case block j b => subst h; exact wpIn_block hx
 case region i o d => cases d <;> simp at h
theorem Eb (h : c.kind = (6, 0)) (I : Nat → Act → World → Prop) (k : Nat) (h0 : I k a w)
 (hr : ∀ k a w, I k a w → c.fst.wpIn (FR ro) 3 P (Exit.then (fun a' w' => ∃ j, j < k ∧ I j a' w') Q) a w) : c.wpIn (FR ro) 3 P Q a w := by
 cases c <;> simp [Code.kind] at h
 case loop b =>
  intro bf kk cs hro hb hr'
  have key : ∀ n a w, I n a w → ∃ e a' w', Q e a' w' ∧ ArrivesIn (Machine.fenced P (FR ro)) P (lone (bf.atR a (.code b :: .inLoop b :: kk)) cs w) bf kk cs e a' w' := by
   intro n
   induction n using Nat.strongRecOn with
   | _ n ih =>
     intro a w hI
     obtain ⟨e, a₁, w₁, hq, harr⟩ := hr n a w hI bf (.inLoop b :: kk) cs hro hb hr'
     cases e with
     | normal =>
       obtain ⟨j, hj, hI₁⟩ := hq
       obtain ⟨e₂, a₂, w₂, hq₂, harr₂⟩ := ih j hj a₁ w₁ hI₁
       exact ⟨e₂, a₂, w₂, hq₂, .of_steps (StepsIn.trans harr (.one (fenced_calm hb hr' rfl) stepR_inLoop)) harr₂⟩
     | exit id => exact ⟨_, a₁, w₁, hq, .pass (x := .inLoop b) rfl (fun _ _ => .inl (by simp)) harr⟩
     | goto l => exact ⟨_, a₁, w₁, hq, .pass (x := .inLoop b) rfl (fun _ _ => .inl (by simp)) harr⟩
     | ret => exact ⟨_, a₁, w₁, hq, .pass (x := .inLoop b) rfl (fun _ _ => .inl (by simp)) harr⟩
     | panic ch => exact ⟨_, a₁, w₁, hq, .pass (x := .inLoop b) rfl (fun _ _ => .inl (by simp)) harr⟩
     | outgrown => exact ⟨_, a₁, w₁, hq, .pass (x := .inLoop b) rfl (fun _ _ => .inl (by simp)) harr⟩
  obtain ⟨e, a', w', hq, harr⟩ := key k a w h0
  exact ⟨e, a', w', hq, .of_steps (.one (fenced_calm hb hr' rfl) stepR_loop) harr⟩
 case region i o d => cases d <;> simp at h
theorem Ao {i : Nat} (h : c.kind = (7, i)) (hq : Q (.exit i) a w) : c.wpIn (FR ro) 3 P Q a w := by
 cases c <;> simp [Code.kind] at h
 case exit j => subst h; exact wpIn_exit hq
 case region i o d => cases d <;> simp at h
theorem qu (h : c.kind = (8, 0)) (hq : Q .ret a w) : c.wpIn (FR ro) 3 P Q a w := by
 cases c <;> simp [Code.kind] at h
 case ret => exact wpIn_ret hq
 case region i o d => cases d <;> simp at h
theorem nf (h : c.kind = (9, 0)) (hq : Q .normal a w) : c.wpIn (FR ro) 3 P Q a w := by
 cases c <;> simp [Code.kind] at h
 case skip => exact wpIn_skip hq
 case region i o d => cases d <;> simp at h
theorem Hs (h : c.kind = (10, 0)) (hq : Q .normal a w) : c.wpIn (FR ro) 3 P Q a w := by
 cases c <;> simp [Code.kind] at h
 case label => exact wpIn_label hq
 case region i o d => cases d <;> simp at h
theorem CI {x : Code} (h : x.wpIn (FR ro) 3 P Q a w) (hg : ∀ l a w, ¬ Q (.goto l) a w) : (Code.scope x).wpIn (FR ro) 3 P Q a w := by
 intro b k cs hro hb hr
 have hs : step P (lone (b.atR a (.code (.scope x) :: k)) cs w) = .next (lone (b.atR a (.code x :: .inScope x :: k)) cs w) :=
  step_lone_go (by simp [stepG, stepG.exec, Frame.atR])
 have hi : ∀ a w, step P (lone (b.atR a (.inScope x :: k)) cs w) = .next (lone (b.atR a k) cs w) := fun a w =>
  step_lone_go (by simp [stepG, stepG.exec, Frame.atR])
 have h0 : (lone (b.atR a (.code (.scope x) :: k)) cs w).fenced P (FR ro) := fenced_calm hb hr rfl
 obtain ⟨e, a₁, w₁, hq, harr⟩ := h b (.inScope x :: k) cs hro hb hr
 have hx : ∀ id, exitTo id (.inScope x :: k) = exitTo id k := fun id => by simp [exitTo]
 cases e with
 | normal => exact ⟨.normal, a₁, w₁, hq, .head h0 hs (StepsIn.trans harr (.one (fenced_calm hb hr rfl) (hi _ _)))⟩
 | exit id => exact ⟨_, a₁, w₁, hq, fun k' hk => .head h0 hs (harr.1 k' (by rw [hx]; exact hk)),
  fun hr' hk => let ⟨k₁, h1, h2⟩ := harr.2 hr' (by rw [hx]; exact hk); ⟨k₁, h1, .head h0 hs h2⟩⟩
 | goto l => exact absurd hq (hg l a₁ w₁)
 | ret => exact ⟨_, a₁, w₁, hq, .of_steps (.one h0 hs) harr⟩
 | panic ch => exact ⟨_, a₁, w₁, hq, .of_steps (.one h0 hs) harr⟩
 | outgrown => exact ⟨_, a₁, w₁, hq, .of_steps (.one h0 hs) harr⟩
def JX (Q : Exit → Act → World → Prop) : Exit → Act → World → Prop
 | .goto _, _, _ => False
 | e, a, w => Q e a w
theorem Ht (h : c.kind = (11, 0)) (hx : c.fst.wpIn (FR ro) 3 P (JX Q) a w) : c.wpIn (FR ro) 3 P Q a w := by
 cases c <;> simp [Code.kind] at h
 case scope x => exact wpIn_mono (CI hx (fun _ _ _ h => h)) (fun e a w q => by cases e <;> first | exact q | exact q.elim)
 case region i o d => cases d <;> simp at h
theorem bl {K : Act → World → Prop} (h : K a w) : Exit.then K Q .normal a w := h
theorem tz {K : Act → World → Prop} (h : Q .ret a w) : Exit.then K Q .ret a w := h
theorem LR {i : Nat} (h : Q .normal a w) : Exit.inBlock i Q .normal a w := h
theorem KP {i : Nat} (h : Q .normal a w) : Exit.inBlock i Q (.exit i) a w := by simpa [Exit.inBlock] using h
theorem KQ {i j : Nat} (hne : j ≠ i) (h : Q (.exit j) a w) : Exit.inBlock i Q (.exit j) a w := by simp only [Exit.inBlock, if_neg hne]; exact h
def sJ (Q : Exit → Act → World → Prop) : Exit → Act → World → Prop
 | .panic _, _, _ => False
 | e, a, w => Q e a w
theorem Ec (h : c.wpIn (FR ro) 3 P (sJ Q) a w) : c.wpIn (FR ro) 3 P Q a w := wpIn_mono h fun e a w q => by cases e <;> first | exact q | exact q.elim
def ym (m : List (Nat × Value)) : List ResultVar → Option (List Value)
 | [] => some []
 | .tmp t :: rs => match gQ m t, ym m rs with
   | some v, some vs => some (v :: vs)
   | _, _ => none
 | _ :: _ => none
def vH : List Value → Value
 | [v] => v
 | vs => .tuple vs.toArray
theorem sK {P : Program} {m : List (Nat × Value)} (g : ResultVar → Sem Value) (w : World) (hg : ∀ t v, gQ m t = some v → (g (.tmp t)).run P w = .ok v w) : ∀ (rs : List ResultVar) (vs : List Value), ym m rs = some vs →
 (rs.mapM g).run P w = .ok vs w
 | [], vs, h => by simp [ym] at h; subst h; simp
 | .tmp t :: rs, vs, h => by
   simp only [ym] at h
   cases ht : gQ m t with
   | none => simp [ht] at h
   | some v =>
     cases hr : ym m rs with
     | none => simp [ht, hr] at h
     | some us =>
       simp [ht, hr] at h
       subst h
       simp [List.mapM_cons, sK g w hg rs us hr, hg t v ht]
 | .cell _ _ :: _, _, h => by simp [ym] at h
theorem sL {n : Nat} {m : List (Nat × Value)} {fn : Func} {R : Ending → World → Prop} {vs : List Value} (hS : Sl n m a) (hr : ym m fn.results.toList = some vs) (hR : R (.returned (vH vs)) w) :
 bodyPost P fn R .ret a w := by
 refine ⟨hS.defers, vH vs, ?_, hR⟩
 have e : fn.results = fn.results.toList.toArray := by simp
 unfold results
 rw [e]
 simp only [List.mapM_toArray, Sem.run_bind, Sem.run_map]
 rw [sK (m := m) _ w (fun t v ht => by simp [hS.slots t v ht]) fn.results.toList vs hr]
 simp only [Result.andThen_ok, Sem.run_pure]
 match vs with
 | [] => rfl
 | [v] => rfl
 | _ :: _ :: _ => simp [vH]
theorem KR {n : Nat} {m : List (Nat × Value)} {fn : Func} {R : Ending → World → Prop} {vs : List Value} (hS : Sl n m a) (hr : ym m fn.results.toList = some vs) (hR : R (.returned (vH vs)) w) :
 bodyPost P fn R .normal a w := sL (P := P) (fn := fn) (R := R) hS hr hR
def bd (fn : Func) : Code := fn.body.getD .skip
theorem xq {f : FuncId} {fn : Func} {args : List Value} {k : Nat} {R : Ending → World → Prop} (hf : P.funcs[f]? = some fn) (hb : fn.body.isSome = true) (hk : fn.ntmps - args.length = k)
 (h : ∀ a, Sl (args.length + k) (wg 0 args) a → (bd fn).wpIn (FR none) 3 P (bodyPost P fn R) a w) : Calls P f args.toArray w R := by
 obtain ⟨c, hc⟩ := Option.isSome_iff_exists.1 hb
 refine calls_of_wp hf hc ?_
 have := h _ (Sl.start args k (wg 0 args) (fun t v hv => by have := (pG args 0 t v hv).2; simpa using this))
 simp only [bd, hc, Option.getD_some] at this
 have this : Code.wpIn Fence.wide 3 P c _ _ w := this
 exact wpIn_wide.1 (by simpa [hk] using this)
end code
end Go.Proofs.YtlepjakmadlkjaaGreatDoor
namespace Go.Proofs.YtlepjakmadlkjaaGreatDoor
open Go
def bM (P : Program) (t : TypeId) : Nat :=
 match P.underlying t with
 | some .bool => 1
 | some (.int _) => 2
 | some .string => 3
 | some (.slice _) => 4
 | some (.struct _) => 5
 | some (.array _ _) => 6
 | some (.pointer _) => 7
 | some (.map _ _) => 8
 | some (.func _ _ _) => 9
 | some _ => 10
 | none => 0
def kq (P : Program) (t : TypeId) : Bool := let n := bM P t; !(n == 0 || n == 5 || n == 6)
theorem Ap {P : Program} {t : TypeId} (h : kq P t = true) (w : World) : (isAgg t).run P w = .ok false w := by
 unfold kq bM at h
 unfold isAgg
 cases hu : P.underlying t with
 | none => simp [hu] at h
 | some d => rw [Sem.run_bind, run_underlying hu w]; cases d <;> simp_all
def vJ (op : BinOp) (k : IntKind) (a b : Int) : Option Value :=
 match op with
 | .add => some (.int k (k.wrap (a + b)))
 | .sub => some (.int k (k.wrap (a - b)))
 | .mul => some (.int k (k.wrap (a * b)))
 | .quo => if b = 0 then none else some (.int k (k.wrap (a.tdiv b)))
 | .rem => if b = 0 then none else some (.int k (a.tmod b))
 | .and => some (.int k (k.wrap (BitVec.ofInt k.bits a &&& BitVec.ofInt k.bits b).toNat))
 | .or => some (.int k (k.wrap (BitVec.ofInt k.bits a ||| BitVec.ofInt k.bits b).toNat))
 | .xor => some (.int k (k.wrap (BitVec.ofInt k.bits a ^^^ BitVec.ofInt k.bits b).toNat))
 | .andNot => some (.int k (k.wrap (BitVec.ofInt k.bits a &&& ~~~(BitVec.ofInt k.bits b)).toNat))
 | .eql => some (.bool (a == b))
 | .neq => some (.bool (a != b))
 | .lss => some (.bool (decide (a < b)))
 | .leq => some (.bool (decide (a ≤ b)))
 | .gtr => some (.bool (decide (a > b)))
 | .geq => some (.bool (decide (a ≥ b)))
 | _ => none
def ly (P : Program) (op : BinOp) (t : TypeId) : Value → Value → Option Value
 | .int k a, .int k' b =>
   match op with
   | .shl => if b < 0 then none else some (.int k (k.wrap (a * 2 ^ (min b.toNat k.bits))))
   | .shr => if b < 0 then none else some (.int k (a.fdiv (2 ^ (min b.toNat k.bits))))
   | _ => if k = k' then vJ op k a b else none
 | .bool a, .bool b =>
   match op with
   | .eql => if bM P t = 1 then some (.bool (a == b)) else none
   | .neq => if bM P t = 1 then some (.bool (!(a == b))) else none
   | _ => none
 | .string a, .string b =>
   match op with
   | .eql => some (.bool (a.toList == b.toList))
   | .neq => some (.bool (!(a.toList == b.toList)))
   | .lss => some (.bool (Op.bytesLess a.toList b.toList))
   | .leq => some (.bool (Op.bytesLess a.toList b.toList || a.toList == b.toList))
   | .gtr => some (.bool (!(Op.bytesLess a.toList b.toList || a.toList == b.toList)))
   | .geq => some (.bool (!(Op.bytesLess a.toList b.toList)))
   | _ => none
 | .pointer a, .pointer b =>
   if bM P t = 7 then match op, a, b with
    | .eql, none, _ => some (.bool b.isNone)
    | .eql, some _, none => some (.bool false)
    | .neq, none, _ => some (.bool (!b.isNone))
    | .neq, some _, none => some (.bool true)
    | _, _, _ => none
   else none
 | .nilFunc, .nilFunc => if bM P t = 9 then match op with
  | .eql => some (.bool true)
  | .neq => some (.bool false)
  | _ => none
   else none
 | .func _ _ _, .nilFunc => if bM P t = 9 then match op with
  | .eql => some (.bool false)
  | .neq => some (.bool true)
  | _ => none
   else none
 | _, _ => none
def fieldAt? (P : Program) (s : TypeId) (f : Nat) : Option Nat :=
 match P.underlying s with
 | some (.struct fs) => match fs[f]? with
   | some fd => match P.info? fd.type with
     | some i => if i.size = 0 then none else some fd.offset
     | none => none
   | none => none
 | _ => none
def tN (P : Program) (ρ : Operand → Value) (c : Call) : Option Value :=
 match c.callee with
 | .builtin b => match b, c.args.toList, c.argTypes.toList with
   | .len, [x], [t] => match bM P t, ρ x with
     | 3, .string s => some (.int .i64 s.size)
     | 4, .slice _ n _ => some (.int .i64 n)
     | _, _ => none
   | .min, [x, y], _ => match ρ x, ρ y with
     | .int k a, .int _ b => some (.int k (if b < a then b else a))
     | _, _ => none
   | .max, [x, y], _ => match ρ x, ρ y with
     | .int k a, .int _ b => some (.int k (if b > a then b else a))
     | _, _ => none
   | .min, [x, y, z], _ => match ρ x, ρ y, ρ z with
     | .int k a, .int _ b, .int _ c => some (.int k (if c < (if b < a then b else a) then c else (if b < a then b else a)))
     | _, _, _ => none
   | .max, [x, y, z], _ => match ρ x, ρ y, ρ z with
     | .int k a, .int _ b, .int _ c => some (.int k (if c > (if b > a then b else a) then c else (if b > a then b else a)))
     | _, _, _ => none
   | _, _, _ => none
 | _ => none
def arrAt? (P : Program) (t : TypeId) : Option (Nat × Nat) :=
 match P.underlying t with
 | some (.array n e) => (P.info? e).map fun i => (n, i.size)
 | _ => none
def dF (P : Program) (ρ : Operand → Value) : Op → Option Value
 | .move x | .assign x => some (ρ x)
 | .pick c x y => match ρ c with
   | .bool true => some (ρ x)
   | .bool false => some (ρ y)
   | _ => none
 | .binOp op t x y _ => ly P op t (ρ x) (ρ y)
 | .unOp op _ x => match op, ρ x with
   | .not, .bool b => some (.bool (!b))
   | .neg, .int k n => some (.int k (k.wrap (0 - n)))
   | .xor, .int k n => vJ .xor k (if k.signed then -1 else k.max) n
   | _, _ => none
 | .nilCheck x => match ρ x with
   | .pointer (some a) => some (.pointer (some a))
   | _ => none
 | .field t x f => match P.underlying t, ρ x with
   | some (.struct fs), .agg cs => match fs[f]? with
     | some fd => if kq P fd.type then cs[fd.offset]? else none
     | none => none
   | _, _ => none
 | .convert src dst x => match P.underlying src, P.underlying dst, ρ x with
   | some _, some (.int k), .int _ n => some (.int k (k.wrap n))
   | _, _, _ => none
 | .extract t ix => match ρ t with
   | .tuple vs => vs[ix]?
   | _ => none
 | .fieldAddr s x f => match ρ x, fieldAt? P s f with
   | .pointer (some a), some off => some (.pointer (some (a.add off)))
   | _, _ => none
 | .indexAddr t x y => match ρ x, ρ y, arrAt? P t with
   | .pointer (some a), .int _ i, some (n, sz) => if 0 ≤ i ∧ i < n then some (.pointer (some (a.add (i.toNat * sz)))) else none
   | _, _, _ => none
 | .makeFunc fn fs cs => some (.func fn (fs.map ρ) (cs.map ρ))
 | .call c => tN P ρ c
 | _ => none
def cV (P : Program) (ρ : Operand → Value) (op : Op) (w : World) (v : Value) (w' : World) : Prop :=
 ∀ o : Oper, o.op = op → (execOp ρ o).run P w = .ok (.value v) w'
theorem tg (P : Program) (w : World) (op : BinOp) (t : TypeId) (x y : Operand) (k k' : IntKind) (a b : Int) : (eqGuard op t x y (.int k a) (.int k' b)).run P w = .ok () w := by
 unfold eqGuard; split <;> rfl
theorem rI (P : Program) (w : World) (op : BinOp) (t : TypeId) (x y : Operand) (a b : Bool) : (eqGuard op t x y (.bool a) (.bool b)).run P w = .ok () w := by
 unfold eqGuard; split <;> rfl
theorem mQ (P : Program) (w : World) (op : BinOp) (t : TypeId) (x y : Operand) (a b : ByteArray) : (eqGuard op t x y (.string a) (.string b)).run P w = .ok () w := by
 unfold eqGuard; split <;> rfl
theorem Ed {P : Program} {w : World} {op : BinOp} {t : TypeId} {k : IntKind} {a b : Int} {v : Value} (hs : op ≠ .shl ∧ op ≠ .shr) (h : vJ op k a b = some v) :
 (binOp op t (.int k a) (.int k b)).run P w = .ok v w := by
 cases op <;> simp only [vJ] at h
 case quo => split at h <;> first | (cases h; done) | (rename_i hb; cases h; simp [binOp, Op.intDiv, hb])
 case rem => split at h <;> first | (cases h; done) | (rename_i hb; cases h; simp [binOp, Op.intDiv, hb])
 case shl => exact absurd rfl hs.1
 case shr => exact absurd rfl hs.2
 all_goals first | (cases h; done) | (cases h; simp [binOp, Op.intArith, Op.intBits, Op.intCmp])
theorem Aq {P : Program} {t : TypeId} (hu : P.underlying t = some .bool) (d : Nat) (a b : Bool) (w : World) : (Op.equalIn (d + 1) t (.bool a) (.bool b)).run P w = .ok (a == b) w := by
 simp [Op.equalIn, run_underlying hu]
theorem vK {P : Program} {t : TypeId} (hu : P.underlying t = some .bool) (a b : Bool) (w : World) : (Op.equal t (.bool a) (.bool b)).run P w = .ok (a == b) w :=
 Aq hu 9999 a b w
theorem Iu {P : Program} {t : TypeId} (h : bM P t = 1) : P.underlying t = some .bool := by
 unfold bM at h
 split at h <;> first | assumption | (exfalso; revert h; decide)
theorem KS {P : Program} {t : TypeId} (h : bM P t = 7) : ∃ e, P.underlying t = some (.pointer e) := by
 unfold bM at h
 split at h <;> first | exact ⟨_, by assumption⟩ | (exfalso; revert h; decide)
theorem Iv {P : Program} {t : TypeId} (h : bM P t = 9) : ∃ a b c, P.underlying t = some (.func a b c) := by
 unfold bM at h
 split at h <;> first | exact ⟨_, _, _, by assumption⟩ | (exfalso; revert h; decide)
theorem Ar {P : Program} {t e : TypeId} (hu : P.underlying t = some (.pointer e)) (d : Nat) (b : Option Addr) (w : World) : (Op.equalIn (d + 1) t (.pointer none) (.pointer b)).run P w = .ok b.isNone w := by
 simp [Op.equalIn, run_underlying hu]
theorem Ee {P : Program} {t e : TypeId} (hu : P.underlying t = some (.pointer e)) {b : Option Addr} {w : World} : (Op.equal t (.pointer none) (.pointer b)).run P w = .ok b.isNone w := Ar hu 9999 b w
theorem As {P : Program} {t e : TypeId} (hu : P.underlying t = some (.pointer e)) (d : Nat) (a : Addr) (w : World) : (Op.equalIn (d + 1) t (.pointer (some a)) (.pointer none)).run P w = .ok false w := by
 simp [Op.equalIn, run_underlying hu]
theorem Ef {P : Program} {t e : TypeId} (hu : P.underlying t = some (.pointer e)) {a : Addr} {w : World} : (Op.equal t (.pointer (some a)) (.pointer none)).run P w = .ok false w := As hu 9999 a w
theorem CJ {P : Program} {t : TypeId} {x y z} (hu : P.underlying t = some (.func x y z)) (d : Nat) (w : World) : (Op.equalIn (d + 1) t .nilFunc .nilFunc).run P w = .ok true w := by
 simp [Op.equalIn, run_underlying hu]
theorem Hu {P : Program} {t : TypeId} {x y z} (hu : P.underlying t = some (.func x y z)) {w : World} : (Op.equal t .nilFunc .nilFunc).run P w = .ok true w := CJ hu 9999 w
theorem CK {P : Program} {t : TypeId} {x y z} (hu : P.underlying t = some (.func x y z)) (d : Nat) (a : Fn) (b c : Array Value) (w : World) : (Op.equalIn (d + 1) t (.func a b c) .nilFunc).run P w = .ok false w := by
 simp [Op.equalIn, run_underlying hu]
theorem Hv {P : Program} {t : TypeId} {x y z} (hu : P.underlying t = some (.func x y z)) {a : Fn} {b c : Array Value} {w : World} : (Op.equal t (.func a b c) .nilFunc).run P w = .ok false w := CK hu 9999 a b c w
theorem Eg {P : Program} {k k' : IntKind} {a b : Int} {w : World} : (Builtin.min2 (.int k a) (.int k' b)).run P w = .ok (.int k (if b < a then b else a)) w := rfl
theorem Eh {P : Program} {k k' : IntKind} {a b : Int} {w : World} : (Builtin.max2 (.int k a) (.int k' b)).run P w = .ok (.int k (if b > a then b else a)) w := rfl
theorem th (P : Program) (w : World) (op : BinOp) (t : TypeId) (x y : Operand) (a b : Option Addr) : (eqGuard op t x y (.pointer a) (.pointer b)).run P w = .ok () w := by
 unfold eqGuard; split <;> rfl
theorem tO (P : Program) (w : World) (op : BinOp) (t : TypeId) (x y : Operand) : (eqGuard op t x y .nilFunc .nilFunc).run P w = .ok () w := by
 unfold eqGuard; split <;> rfl
theorem tP (P : Program) (w : World) (op : BinOp) (t : TypeId) (x y : Operand) (a : Fn) (b c : Array Value) : (eqGuard op t x y (.func a b c) .nilFunc).run P w = .ok () w := by
 unfold eqGuard; split <;> rfl
theorem Ei {P : Program} {w : World} {op : BinOp} {t : TypeId} {x y v : Value} (h : ly P op t x y = some v) : (binOp op t x y).run P w = .ok v w := by
 cases x <;> cases y <;> simp only [ly] at h <;> (try (cases h; done))
 case bool.bool a b =>
  cases op <;> simp only at h <;> (try (cases h; done)) <;> (split at h <;> (try (cases h; done))) <;> (rename_i ht; cases h) <;>
   simp only [binOp, Sem.run_bind, vK (Iu ht), Result.andThen_ok, Sem.run_pure]
 case int.int k a k' b =>
  cases op <;> simp only at h <;> first
   | (split at h <;> first
      | (cases h; done)
      | (rename_i hb; cases h; simp only [binOp, Op.shift, if_neg hb, Sem.run_pure]))
   | (split at h <;> first
      | (cases h; done)
      | (rename_i hk; subst hk; exact Ed (by simp) h))
 case string.string a b =>
  cases op <;> simp only at h <;> first | (cases h; done) | (cases h; simp only [binOp, Op.stringOp, Sem.run_pure])
 case pointer.pointer a b =>
  split at h
  ·rename_i ht
   obtain ⟨e, he⟩ := KS ht
   cases a with
   | none => cases op <;> simp only at h <;> (try (cases h; done)) <;> (cases h; simp only [binOp, Sem.run_bind, Ee he, Result.andThen_ok, Sem.run_pure])
   | some a => cases b with
     | none => cases op <;> simp only at h <;> (try (cases h; done)) <;> (cases h; simp only [binOp, Sem.run_bind, Ef he, Result.andThen_ok, Sem.run_pure]; try rfl)
     | some b => cases op <;> simp only at h <;> (try (cases h; done))
  ·cases h
 case nilFunc.nilFunc =>
  split at h
  ·rename_i ht
   obtain ⟨a, b, c, he⟩ := Iv ht
   cases op <;> simp only at h <;> (try (cases h; done)) <;> cases h <;> simp only [binOp, Sem.run_bind, Hu he, Result.andThen_ok, Sem.run_pure] <;> rfl
  ·cases h
 case func.nilFunc a b c =>
  split at h
  ·rename_i ht
   obtain ⟨a, b, c, he⟩ := Iv ht
   cases op <;> simp only at h <;> (try (cases h; done)) <;> cases h <;> simp only [binOp, Sem.run_bind, Hv he, Result.andThen_ok, Sem.run_pure] <;> rfl
  ·cases h
theorem BH {P : Program} {t : TypeId} (h : bM P t = 3) : P.underlying t = some .string := by
 unfold bM at h
 split at h <;> first | assumption | (exfalso; revert h; decide)
theorem KU {P : Program} {t : TypeId} (h : bM P t = 4) : ∃ e, P.underlying t = some (.slice e) := by
 unfold bM at h
 split at h <;> first | exact ⟨_, by assumption⟩ | (exfalso; revert h; decide)
theorem bI {α : Type} {xs : Array α} {l : List α} (h : xs.toList = l) : xs = l.toArray := by rw [← h]
theorem CL {P : Program} {ρ : Operand → Value} {c : Call} {v : Value} (h : tN P ρ c = some v) (w : World) : cV P ρ (.call c) w v w := by
 intro o ho
 simp only [execOp, ho]
 unfold tN at h
 split at h
 ·rename_i b hb
  split at h
  ·rename_i x t hx ht
   have hx := bI hx
   have ht := bI ht
   split at h
   ·rename_i s h3 hs
    cases h
    simp [resolve, hb, invoke, builtin, Builtin.len_, hx, ht, run_underlying (BH h3), hs, goInt]
   ·rename_i n cp h4 hs
    cases h
    obtain ⟨e, he⟩ := KU h4
    simp [resolve, hb, invoke, builtin, Builtin.len_, hx, ht, run_underlying he, hs, goInt]
   ·cases h
  ·rename_i x y _ hx
   have hx := bI hx
   split at h
   ·rename_i k a _ b h1 h2
    cases h
    simp [resolve, hb, invoke, builtin, Builtin.min_, hx, h1, h2, Builtin.min2]
   ·cases h
  ·rename_i x y _ hx
   have hx := bI hx
   split at h
   ·rename_i k a _ b h1 h2
    cases h
    simp [resolve, hb, invoke, builtin, Builtin.max_, hx, h1, h2, Builtin.max2]
   ·cases h
  ·rename_i x y z _ hx
   have hx := bI hx
   split at h
   ·rename_i k a _ b _ c h1 h2 h3
    cases h
    simp [resolve, hb, invoke, builtin, Builtin.min_, hx, h1, h2, h3, Eg]
   ·cases h
  ·rename_i x y z _ hx
   have hx := bI hx
   split at h
   ·rename_i k a _ b _ c h1 h2 h3
    cases h
    simp [resolve, hb, invoke, builtin, Builtin.max_, hx, h1, h2, h3, Eh]
   ·cases h
  ·cases h
 ·cases h
theorem aE {P : Program} {ρ : Operand → Value} {op : Op} {v : Value} (h : dF P ρ op = some v) (w : World) : cV P ρ op w v w := by
 cases op <;> simp only [dF] at h <;> (try (cases h; done))
 case call c => exact CL h w
 case move x => cases h; intro o ho; simp [execOp, ho]
 case assign x => cases h; intro o ho; simp [execOp, ho]
 case pick c x y =>
  intro o ho
  split at h
  ·rename_i hc; cases h; simp [execOp, ho, hc, asBool]
  ·rename_i hc; cases h; simp [execOp, ho, hc, asBool]
  ·cases h
 case binOp bop t x y t' =>
  intro o ho
  have hg : (eqGuard bop t x y (ρ x) (ρ y)).run P w = .ok () w := by
   revert h
   cases ρ x <;> cases ρ y <;> simp only [ly] <;> intro h <;> first
    | exact tg ..
    | exact rI ..
    | exact mQ ..
    | exact th ..
    | exact tO ..
    | exact tP ..
    | (cases h)
  simp [execOp, ho, hg, Ei h]
 case unOp uop t x =>
  intro o ho
  split at h
  ·rename_i hx; cases h; simp [execOp, ho, hx, Op.unary]
  ·rename_i hx; cases h; simp [execOp, ho, hx, Op.unary, Op.intArith]
  ·rename_i k n hx; simp only [vJ] at h; cases h; simp [execOp, ho, hx, Op.unary, Op.intBits]
  ·cases h
 case nilCheck x =>
  intro o ho
  split at h
  ·rename_i a hx; cases h; simp [execOp, ho, hx]
  ·cases h
 case field t x f =>
  intro o ho
  split at h
  ·rename_i fs cs hu hx
   split at h
   ·rename_i fd hf
    split at h
    ·rename_i hs
     simp [execOp, ho, Instr.field, run_underlying hu, hf, hx, asAgg, part, Ap hs, h]
    ·cases h
   ·cases h
  ·cases h
 case convert src dst x =>
  intro o ho
  split at h
  ·rename_i h1 h2 hx; cases h; simp [execOp, ho, convert, run_underlying h1, run_underlying h2, hx, Conv.intToInt]
  ·cases h
 case extract t ix =>
  intro o ho
  split at h
  ·rename_i vs hx; simp [execOp, ho, Instr.extract, hx, h]
  ·cases h
 case indexAddr t x y =>
  intro o ho
  split at h
  ·rename_i ad i n sz hx hy hf
   split at h
   ·rename_i hi
    cases h
    unfold arrAt? at hf
    split at hf
    ·rename_i nn e hu
     obtain ⟨q, hq, hs⟩ := Option.map_eq_some_iff.1 hf
     cases hs
     simp [execOp, ho, Instr.indexAt, hx, hy, asIntOf, run_underlying hu, hi.1, hi.2, sizeOf, typeInfo, hq, Instr.sureAddr]
    ·cases hf
   ·cases h
  ·cases h
 case fieldAddr s x f =>
  intro o ho
  split at h
  ·rename_i ad off hx hf
   cases h
   unfold fieldAt? at hf
   split at hf
   ·rename_i fs hu
    split at hf
    ·rename_i fd hfd
     split at hf
     ·rename_i i hi
      split at hf
      ·cases hf
      ·rename_i hsz
       cases hf
       simp [execOp, ho, Instr.fieldAt, run_underlying hu, hfd, hx, Instr.sureAddr, fieldPlace, sizeOf, typeInfo, hi, hsz]
     ·cases hf
    ·cases hf
   ·cases hf
  ·cases h
 case makeFunc fn fs cs => cases h; intro o ho; simp [execOp, ho, Instr.makeFunc]
def sig (ops : Array Oper) (i : Nat) : Option (Option Tmp × Op × Option (Nat × Bool)) := (ops.toList[i]?).map fun o => (o.dst, o.op, o.guard)
def sM (ops : Array Oper) (m : List (Nat × Value)) : Option (Nat × Bool) → Option Bool
 | none => some true
 | some (g, want) => match (ops.toList[g]?).bind (·.dst) with
   | some d => match gQ m d with
     | some (.bool b) => some (b == want)
     | some _ => some false
     | none => none
   | none => none
def Iw : Op → Bool
 | .select _ _ => false
 | _ => true
def iL (m : List (Nat × Value)) (op : Op) : Bool := Iw op && op.operands.toList.all (D9 m)
def wl (ro : Option Nat) (P : Program) (ops : Array Oper) (Q : Exit → Act → World → Prop) (i : Nat) (a : Act) (w : World) : Prop := wpListIn (FR ro) 3 P ops Q (ops.toList.drop i) a w
section
variable {ro : Option Nat} {P : Program} {ops : Array Oper} {Q : Exit → Act → World → Prop} {a : Act} {w : World} {n : Nat} {m : List (Nat × Value)}
theorem lz {i : Nat} {s : Option Tmp × Op × Option (Nat × Bool)} (h : sig ops i = some s) :
 ∃ o, ops[i]? = some o ∧ ops.toList.drop i = o :: ops.toList.drop (i + 1) ∧ o.dst = s.1 ∧ o.op = s.2.1 ∧ o.guard = s.2.2 := by
 unfold sig at h
 obtain ⟨o, ho, he⟩ := Option.map_eq_some_iff.1 h
 obtain ⟨hlt, hg⟩ := List.getElem?_eq_some_iff.1 ho
 refine ⟨o, by simpa using ho, by rw [List.drop_eq_getElem_cons hlt, hg], ?_⟩
 subst he
 exact ⟨rfl, rfl, rfl⟩
theorem gA (hS : Sl n m a) {o : Oper} {t : Bool} (h : sM ops m o.guard = some t) : Region.wanted o (yielded ops a.tmps) = t := by
 unfold sM at h
 unfold Region.wanted
 split at h
 ·rename_i hg; rw [hg]; exact (Option.some.inj h)
 ·rename_i g want hg
  rw [hg]
  simp only
  split at h
  ·rename_i d hd
   have hd' : (ops[g]?).bind (·.dst) = some d := by simpa using hd
   split at h
   ·rename_i b hb
    have := hS.slots d _ hb
    simp only [yielded, hd', Option.bind_some, this]
    cases h
    cases b <;> cases want <;> rfl
   ·rename_i v hne hv
    have := hS.slots d _ hv
    simp only [yielded, hd', Option.bind_some, this]
    cases h
    cases v <;> first | rfl | exact absurd rfl (hne _)
   ·cases h
  ·cases h
theorem ip (hS : Sl n m a) {o : Oper} (h : iL m o.op = true) : execOp a.eval o = execOp (ev m) o := by
 simp only [iL, Bool.and_eq_true, List.all_eq_true] at h
 refine execOp_congr o ?_ (fun x hx => hS.ev (h.2 x (by simpa using hx)))
 intro cs b e
 rw [e] at h
 exact absurd h.1 (by simp [Iw])
theorem aO {c : Code} (h : c.kind.1 = 2) (hw : wl ro P c.ops Q 0 a w) : c.wpIn (FR ro) 3 P Q a w := by
 cases c <;> simp [Code.kind] at h
 case region i o d =>
  cases d <;> simp at h
  exact wpIn_region_list (by simpa [wl, Code.ops] using hw)
theorem bK {i : Nat} (h : sig ops i = none) (q : Q .normal a w) : wl ro P ops Q i a w := by
 have : ops.toList.drop i = [] := by
  simp only [sig, Option.map_eq_none_iff] at h
  exact List.drop_eq_nil_of_le (List.getElem?_eq_none_iff.1 h)
 unfold wl
 rw [this]
 exact q
def Eff (P : Program) (ρ : Operand → Value) (op : Op) (w : World) (K : Value → World → Prop) : Prop :=
 ∀ (o : Oper) (a : Act) (next : Act → World → Prop) (Q' : Exit → Act → World → Prop), o.op = op → execOp a.eval o = execOp ρ o →
  (∀ v w', K v w' → next (a.put o.dst v) w') → o.wp P a w next Q' ∧ ∀ ro, o.wpIn (FR ro) 3 P a w next Q'
theorem yn {ρ : Operand → Value} {o : Oper} {x : Next} {w' : World} (h : (execOp ρ o).run P w = .ok x w') (hx : ∀ d, x ≠ .defer d) : ∀ c, o.op ≠ .defer c := by
 intro c hc
 unfold execOp at h
 rw [hc] at h
 simp only [Sem.run_bind] at h
 cases hr : (resolve ρ c o.type).run P w with
 | ok d w1 => rw [hr] at h; simp at h; exact hx d h.1.symm
 | halt x w1 => rw [hr] at h; simp [Result.andThen] at h
theorem xr {ρ : Operand → Value} {op : Op} {K : Value → World → Prop} (h : ∀ o : Oper, o.op = op → ∃ v w', (execOp ρ o).run P w = .ok (.value v) w' ∧ K v w') : Eff P ρ op w K := by
 intro o a next Q' ho he k
 obtain ⟨v, w', hr, hK⟩ := h o ho
 refine ⟨?_, fun ro => ⟨fun _ _ => trivial, ?_⟩⟩
 ·unfold Oper.wp
  rw [he, hr]
  exact k v w' hK
 ·have hd := yn hr (by simp)
  rw [Oper.semAt_eq _ _ _ hd, he, hr]
  exact k v w' hK
theorem cn {ρ : Operand → Value} {op : Op} {v : Value} {w' : World} (h : cV P ρ op w v w') {K : Value → World → Prop} (hK : K v w') : Eff P ρ op w K :=
 xr fun o ho => ⟨v, w', h o ho, hK⟩
def KV (P : Program) (ρ : Operand → Value) (op : Op) (w w' : World) : Prop :=
 ∀ o : Oper, o.op = op → (execOp ρ o).run P w = .ok .skip w'
theorem tQ {ρ : Operand → Value} {op : Op} {w' : World} (h : KV P ρ op w w') {K : Value → World → Prop} (hK : K undef w') : Eff P ρ op w K := by
 intro o a next Q' ho he k
 have hr := h o ho
 refine ⟨?_, fun ro => ⟨fun _ _ => trivial, ?_⟩⟩
 ·unfold Oper.wp
  rw [he, hr]
  exact k _ _ hK
 ·have hd := yn hr (by simp)
  rw [Oper.semAt_eq _ _ _ hd, he, hr]
  exact k _ _ hK
def Fn (P : Program) (f : FuncId) (args : List Value) (w : World) (K : Value → World → Prop) : Prop :=
 Calls P f args.toArray w fun e w' => ∃ v, e = .returned v ∧ K v w'
def tT (P : Program) (f : FuncId) : Bool :=
 match P.funcs[f]? with
 | some fn => !(fn.name == "runtime.NumGoroutine") && fn.body.isSome
 | none => false
theorem qv {f : FuncId} (h : tT P f = true) (args : Array Value) (w : World) : (callFunc f args).run P w = .ok (.enter f args) w := by
 unfold tT at h
 split at h
 ·rename_i fn hf
  simp only [Bool.and_eq_true, Bool.not_eq_true'] at h
  have hb : fn.body.isNone = false := by cases hq : fn.body <;> simp_all
  have h1 : ¬ fn.name = "runtime.NumGoroutine" := by have := h.1; simpa using this
  have h2 : ¬ fn.body = none := by intro e; rw [e] at hb; cases hb
  simp [callFunc, hf, h1, h2]
 ·cases h
theorem ma {i : Nat} {d : Option Tmp} {op : Op} {g : Option (Nat × Bool)} {K : Value → World → Prop} (hS : Sl n m a) (hs : sig ops i = some (d, op, g))
 (hw : (sM ops m g == some true && wid n d && iL m op) = true) (he : Eff P (ev m) op w K)
 (k : ∀ v w', K v w' → ∀ a', Sl n (qt m d v) a' → wl ro P ops Q (i + 1) a' w') : wl ro P ops Q i a w := by
 obtain ⟨o, h1, h2, h3, h4, h5⟩ := lz hs
 simp only at h3 h4 h5
 simp only [Bool.and_eq_true, beq_iff_eq] at hw
 obtain ⟨⟨hw, hd⟩, hk⟩ := hw
 subst h3 h4 h5
 unfold wl
 rw [h2]
 unfold wpListIn
 rw [if_pos (gA hS hw)]
 exact (he o a _ _ rfl (ip hS hk) (fun v w' hK => k v w' hK _ (hS.put _ _ hd))).2 ro
def wi (P : Program) (ops : Array Oper) (n : Nat) : Nat → Nat → List (Nat × Value) → Option (List (Nat × Value))
 | _, 0, m => some m
 | i, c + 1, m => match sig ops i with
   | some (d, op, g) => match wid n d, sM ops m g with
     | true, some true => match iL m op, dF P (ev m) op with
       | true, some v => wi P ops n (i + 1) c (qt m d v)
       | _, _ => none
     | true, some false => wi P ops n (i + 1) c (qt m d undef)
     | _, _ => none
   | none => none
theorem rJ : ∀ (c i : Nat) (m m' : List (Nat × Value)) (a : Act), Sl n m a → wi P ops n i c m = some m' → (∀ a', Sl n m' a' → wl ro P ops Q (i + c) a' w) → wl ro P ops Q i a w
 | 0, i, m, m', a, hS, hp, k => by simp [wi] at hp; subst hp; exact k a hS
 | c + 1, i, m, m', a, hS, hp, k => by
   simp only [wi] at hp
   split at hp
   ·rename_i d op g hs
    obtain ⟨o, h1, h2, h3, h4, h5⟩ := lz hs
    simp only at h3 h4 h5
    subst h3 h4 h5
    split at hp
    ·rename_i hd hw
     split at hp
     ·rename_i v hk hv
      unfold wl
      rw [h2]
      unfold wpListIn
      rw [if_pos (gA hS hw)]
      refine ((cn (K := fun v' w' => v' = v ∧ w' = w) (aE hv w) ⟨rfl, rfl⟩) o a _ _ rfl (ip hS hk) ?_).2 ro
      intro v' w' hvw
      rw [hvw.1, hvw.2]
      exact rJ c (i + 1) _ m' _ (hS.put _ _ hd) hp (fun a' h' => by have := k a' h'; rwa [show i + 1 + c = i + (c + 1) by omega])
     ·cases hp
    ·rename_i hd hw
     unfold wl
     rw [h2]
     unfold wpListIn
     rw [if_neg (by rw [gA hS hw]; simp)]
     refine ⟨fun _ _ => trivial, ?_⟩
     exact rJ c (i + 1) _ m' _ (hS.put _ _ hd) hp (fun a' h' => by have := k a' h'; rwa [show i + 1 + c = i + (c + 1) by omega])
    ·cases hp
   ·cases hp
theorem aH {i j : Nat} {m' : List (Nat × Value)} (hS : Sl n m a) (c : Nat) (ks : List Nat) (hp : (wi P ops n i c m).map (keep · ks) = some m') (hj : i + c = j)
 (k : ∀ a', Sl n m' a' → wl ro P ops Q j a' w) : wl ro P ops Q i a w := by
 obtain ⟨m1, h1, h2⟩ := Option.map_eq_some_iff.1 hp
 subst hj
 exact rJ c i m m1 a hS h1 (fun a' h' => k a' (h'.keep ks h2))
def wpD (P : Program) (ops : Array Oper) (Q : Exit → Act → World → Prop) (S : World → Prop) (q : Nat) : Nat → Array Bool → Act → World → Prop
 | 0, listed, a, w => Region.ready .any ops listed = [] ∧ Q .normal a w
 | fuel + 1, listed, a, w => (Region.ready .any ops listed = [] → Q .normal a w) ∧
   ∀ i ∈ Region.ready .any ops listed, wpOp P ops Q i (fun a' w' => (i = q ∨ S w') ∧ wpD P ops Q S q fuel (listed.setIfInBounds i true) a' w') a w
def onB (ops : Array Oper) (q j : Nat) : Bool := ((ops.toList[q]?).map fun o => o.after.toList.any fun e => Region.binds .any e && e.on == j).getD false
def lA (ops : Array Oper) (q : Nat) : Bool :=
 decide (ops.size ≤ q) || (List.range ops.size).all fun j => j == q || onB ops q j || (List.range ops.size).any fun m => onB ops q m && (onB ops m j || (List.range ops.size).any fun m' => onB ops m m' && onB ops m' j)
def kS (ops : Array Oper) (listed : Array Bool) : Prop := ∀ j o, ops[j]? = some o → listed.getD j false = true → ∀ e ∈ o.after, Region.binds .any e = true → listed.getD e.on false = true
theorem oB {listed : Array Bool} (hc : kS ops listed) {q j : Nat} (hq : listed.getD q false = true) (h : onB ops q j = true) : listed.getD j false = true := by
 unfold onB at h
 cases ho : ops.toList[q]? with
 | none => rw [ho] at h; cases h
 | some o =>
   rw [ho] at h
   simp only [Option.map_some, Option.getD_some, List.any_eq_true, Bool.and_eq_true, beq_iff_eq] at h
   obtain ⟨ed, hm, hb, he⟩ := h
   have := hc q o (by simpa using ho) hq ed (by simpa using hm) hb
   rwa [he] at this
theorem dm {listed : Array Bool} (hc : kS ops listed) {i : Nat} (hi : i ∈ Region.ready .any ops listed) : kS ops (listed.setIfInBounds i true) := by
 obtain ⟨hiu, oi, hoi, hall⟩ := mem_ready.1 hi
 intro j o ho hj e he hb
 by_cases hji : j = i
 ·subst hji
  rw [hoi] at ho
  cases ho
  exact getD_set_true (hall e he hb)
 ·rw [getD_set_ne false (Ne.symm hji)] at hj
  exact getD_set_true (hc j o ho hj e he hb)
theorem tU {q : Nat} (h : lA ops q = true) {listed : Array Bool} (hc : kS ops listed) (hq : q ∈ Region.ready .any ops listed) {i : Nat} (hi : i ∈ Region.ready .any ops listed) : i = q := by
 obtain ⟨_, oq, hoq, hall⟩ := mem_ready.1 hq
 obtain ⟨hiu, oi, hoi, _⟩ := mem_ready.1 hi
 have hq' : q < ops.size := (Array.getElem?_eq_some_iff.1 hoq).1
 have hi' : i < ops.size := (Array.getElem?_eq_some_iff.1 hoi).1
 have direct : ∀ j, onB ops q j = true → listed.getD j false = true := by
  intro j hj
  unfold onB at hj
  have e : ops.toList[q]? = some oq := by simpa using hoq
  rw [e] at hj
  simp only [Option.map_some, Option.getD_some, List.any_eq_true, Bool.and_eq_true, beq_iff_eq] at hj
  obtain ⟨ed, hm, hb, ho⟩ := hj
  have h1 := hall ed (by simpa using hm) hb
  rwa [ho] at h1
 have key : i = q ∨ listed.getD i false = true := by
  simp only [lA, Bool.or_eq_true, decide_eq_true_eq, List.all_eq_true, List.mem_range] at h
  rcases h with h | h
  ·omega
  ·rcases h i hi' with (h | h) | h
   ·exact .inl (by simpa using h)
   ·exact .inr (direct i h)
   ·simp only [List.any_eq_true, List.mem_range, Bool.and_eq_true, Bool.or_eq_true] at h
    obtain ⟨m, _, h1, h2⟩ := h
    have hm := direct m h1
    rcases h2 with h2 | ⟨m', _, h2, h3⟩
    ·exact .inr (oB hc hm h2)
    ·exact .inr (oB hc (oB hc hm h2) h3)
 rcases key with h | h1
 ·exact h
 ·have hlt : i < listed.size := by
   rcases Nat.lt_or_ge i listed.size with h' | h'
   ·exact h'
   ·simp [Array.getElem?_eq_none h'] at h1
  simp [hlt] at h1 hiu
  rw [hiu] at h1
  cases h1
theorem BI {S : World → Prop} {q : Nat} : ∀ (fuel : Nat) (listed : Array Bool) (a : Act) (w : World), wpD P ops Q S q fuel listed a w → wpAny P .any ops Q fuel listed a w
 | 0, _, _, _, h => h
 | fuel + 1, _, _, _, h => ⟨h.1, fun i hi => wpOp_mono (fun a' w' h' => BI fuel _ a' w' h'.2) (h.2 i hi)⟩
theorem tV {S : World → Prop} {q i : Nat} {oi : Oper} {v : Value} (hl : lA ops q = true) (hi : ops[i]? = some oi) (hs : Region.noSelect ops = true)
 (hQ : ∀ c a w, Q (.panic c) (a.put oi.dst v) w → Q (.panic c) a w) :
 ∀ (fuel : Nat) (listed : Array Bool) (a : Act) (w : World), kS ops listed →
  (∀ j oj, ops[j]? = some oj → j ≠ i → listed.getD j true = false → (∀ e ∈ oj.after, Region.binds .any e = true → e.on ≠ i) → oi.apart ops oj = true) →
  i ∈ Region.ready .any ops listed → YieldsIf P ops S oi v a → S w →
  wpD P ops Q S q fuel (listed.setIfInBounds i true) (a.put oi.dst v) w → wpD P ops Q S q (fuel + 1) listed a w := by
 have hsel := Region.noSelect_spec hs
 intro fuel
 induction fuel with
 | zero =>
   intro listed a w hcl _ hr hy hS H
   refine ⟨fun h => (by rw [h] at hr; cases hr), fun j hj => ?_⟩
   by_cases hji : j = i
   ·subst hji; exact hy.wpOp hi hS ⟨.inr hS, H⟩
   ·have := ready_mono hj hji
    rw [H.1] at this
    cases this
 | succ fuel ih =>
   intro listed a w hcl hfree hr hy hS H
   refine ⟨fun h => (by rw [h] at hr; cases hr), fun j hj => ?_⟩
   by_cases hji : j = i
   ·subst hji; exact hy.wpOp hi hS ⟨.inr hS, H⟩
   ·have h1 := H.2 j (ready_mono hj hji)
    obtain ⟨hjun, oj, hoj, hall⟩ := mem_ready.1 hj
    have hjq : j ≠ q := fun e => hji (by subst e; exact (tU hl hcl hj hr).symm)
    have hnot : ∀ e ∈ oj.after, Region.binds .any e = true → e.on ≠ i := fun e he hb heq => by
     have h1 := hall e he hb
     have h0 := (mem_ready.1 hr).1
     rw [heq] at h1
     rcases Nat.lt_or_ge i listed.size with h' | h'
     ·simp [h'] at h0 h1; rw [h0] at h1; cases h1
     ·simp [Array.getElem?_eq_none h'] at h1
    have h2 := wpOp_putIf hoj (hfree j oj hoj hji hjun hnot) (fun cs b => hsel i oi cs b hi) (fun cs b => hsel j oj cs b hoj) hQ hy h1
    have hfree' : ∀ k ok, ops[k]? = some ok → k ≠ i → (listed.setIfInBounds j true).getD k true = false →
     (∀ e ∈ ok.after, Region.binds .any e = true → e.on ≠ i) → oi.apart ops ok = true := fun k ok hk hki hun hno => by
     refine hfree k ok hk hki ?_ hno
     by_cases hjk : j = k
     ·subst hjk; exact hjun
     ·rw [getD_set_ne true hjk] at hun; exact hun
    refine wpOp_mono (fun a' w' h3 => ?_) h2
    have hS' : S w' := h3.2.1.resolve_left hjq
    refine ⟨.inr hS', ih (listed.setIfInBounds j true) a' w' (dm hcl hj) hfree' (ready_mono hr (Ne.symm hji)) h3.1 hS' ?_⟩
    rw [Array.setIfInBounds_comm _ _ hji]
    exact h3.2.2
def gj (n : Nat) : List Nat → Array Bool
 | [] => Array.replicate n false
 | i :: l => (gj n l).setIfInBounds i true
def dr (P : Program) (ops : Array Oper) (Q : Exit → Act → World → Prop) (S : World → Prop) (q fuel : Nat) (l : List Nat) (a : Act) (w : World) : Prop :=
 lA ops q = true → Region.noSelect ops = true → kS ops (gj ops.size l) → wpD P ops (sJ Q) S q fuel (gj ops.size l) a w
theorem ng (Q : Exit → Act → World → Prop) (d : Option Tmp) (v : Value) : ∀ c a w, sJ Q (.panic c) (a.put d v) w → sJ Q (.panic c) a w := fun _ _ _ h => h
theorem BJ {c : Code} {N : Nat} (q : Nat) (h : c.kind.1 = 3) (hm : P.follows .mixedOrders = true) (S : World → Prop) (hN : c.ops.size = N) (hl : (lA c.ops q && Region.noSelect c.ops) = true)
 (hd : ∀ w', Fr nob w w' → dr P c.ops Q S q N [] a w') : c.wpIn (FR none) 3 P Q a w := by
 simp only [Bool.and_eq_true] at hl
 cases c <;> simp [Code.kind] at h
 case region i o d =>
  cases d <;> simp at h
  refine Ec (wpIn_wide.2 (wp_region_any hm (BI (S := S) (q := q) _ _ _ _ ?_)))
  have := hd _ (Fr.drawn w (w.drawn + 1)) hl.1 hl.2 (fun j o _ hj => by simp [gj, Code.ops, Array.getElem?_replicate] at hj; split at hj <;> simp at hj)
  subst hN
  exact this
def pH (ops : Array Oper) (l : List Nat) (j : Nat) : Bool := Region.free .any ops (gj ops.size l) j && (Region.ready .any ops (gj ops.size l)).contains j
theorem tA {S : World → Prop} {q fuel j : Nat} {l : List Nat} {d : Option Tmp} {op : Op} {g : Option (Nat × Bool)} {v : Value} (hS : Sl n m a) (hs : sig ops j = some (d, op, g))
 (hw : (pH ops l j && (sM ops m g == some true) && wid n d && iL m op) = true)
 (hr : ∀ w', S w' → cV P (ev m) op w' v w') (hSw : S w) (k : ∀ a', Sl n (qt m d v) a' → dr P ops Q S q fuel (j :: l) a' w) : dr P ops Q S q (fuel + 1) l a w := by
 intro hl hn hcl
 obtain ⟨o, h1, h2, h3, h4, h5⟩ := lz hs
 simp only at h3 h4 h5
 simp only [Bool.and_eq_true, beq_iff_eq, pH] at hw
 obtain ⟨⟨⟨⟨hf, hc⟩, hw⟩, hd⟩, hk⟩ := hw
 subst h3 h4 h5
 exact tV hl h1 hn (ng _ _ _) _ _ _ _ hcl (Region.free_spec h1 hf) (by simpa using hc) (.inl ⟨gA hS hw, fun w' hw' => by rw [ip hS hk]; exact hr w' hw' o rfl⟩) hSw (k _ (hS.put _ _ hd) hl hn (dm hcl (by simpa using hc)))
def drp (P : Program) (ops : Array Oper) (n : Nat) : List Nat → List Nat → List (Nat × Value) → Option (List (Nat × Value))
 | [], _, m => some m
 | j :: js, l, m => match sig ops j with
   | some (d, op, g) => match wid n d && pH ops l j, sM ops m g with
     | true, some true => match iL m op, dF P (ev m) op with
       | true, some v => drp P ops n js (j :: l) (qt m d v)
       | _, _ => none
     | true, some false => drp P ops n js (j :: l) (qt m d undef)
     | _, _ => none
   | none => none
theorem rK {S : World → Prop} {q : Nat} (hSw : S w) : ∀ (js l : List Nat) (m m' : List (Nat × Value)) (a : Act) (fuel : Nat), Sl n m a → drp P ops n js l m = some m' →
 (∀ a', Sl n m' a' → dr P ops Q S q fuel (js.reverse ++ l) a' w) → dr P ops Q S q (fuel + js.length) l a w
 | [], l, m, m', a, fuel, hS, hp, k => by simp [drp] at hp; subst hp; exact k a hS
 | j :: js, l, m, m', a, fuel, hS, hp, k => by
   intro hl hn hcl
   simp only [drp] at hp
   split at hp
   ·rename_i d op g hs
    obtain ⟨o, h1, h2, h3, h4, h5⟩ := lz hs
    simp only at h3 h4 h5
    subst h3 h4 h5
    split at hp
    ·rename_i hd hw
     simp only [Bool.and_eq_true, pH] at hd
     split at hp
     ·rename_i v hk hv
      refine tV hl h1 hn (ng _ _ _) (fuel + js.length) _ _ _ hcl (Region.free_spec h1 hd.2.1) (by simpa using hd.2.2) (.inl ⟨gA hS hw, fun w' _ => by rw [ip hS hk]; exact aE hv w' o rfl⟩) hSw ?_
      exact rK hSw js (j :: l) _ m' _ fuel (hS.put _ _ hd.1) hp (fun a' h' => by have := k a' h'; simpa using this) hl hn (dm hcl (by simpa using hd.2.2))
     ·cases hp
    ·rename_i hd hw
     simp only [Bool.and_eq_true, pH] at hd
     refine tV hl h1 hn (ng _ _ _) (fuel + js.length) _ _ _ hcl (Region.free_spec h1 hd.2.1) (by simpa using hd.2.2) (.inr ⟨gA hS hw, rfl⟩) hSw ?_
     exact rK hSw js (j :: l) _ m' _ fuel (hS.put _ _ hd.1) hp (fun a' h' => by have := k a' h'; simpa using this) hl hn (dm hcl (by simpa using hd.2.2))
    ·cases hp
   ·cases hp
theorem yo {S : World → Prop} {q F fuel : Nat} {l l' : List Nat} {m' : List (Nat × Value)} (hS : Sl n m a) (hSw : S w) (js ks : List Nat)
 (hp : (drp P ops n js l m).map (keep · ks) = some m') (hF : fuel + js.length = F) (hl : js.reverse ++ l = l')
 (k : ∀ a', Sl n m' a' → dr P ops Q S q fuel l' a' w) : dr P ops Q S q F l a w := by
 obtain ⟨m1, h1, h2⟩ := Option.map_eq_some_iff.1 hp
 subst hF hl
 exact rK hSw js l m m1 a fuel hS h1 (fun a' h' => k a' (h'.keep ks h2))
theorem Ej {S : World → Prop} {q fuel j : Nat} {l : List Nat} {d : Option Tmp} {op : Op} {g : Option (Nat × Bool)} {K : Value → World → Prop} (hS : Sl n m a) (hs : sig ops j = some (d, op, g))
 (hr : Region.ready .any ops (gj ops.size l) = [j]) (hw : ((sM ops m g == some true) && wid n d && iL m op) = true) (he : Eff P (ev m) op w K)
 (k : ∀ v w', K v w' → (j = q ∨ S w') ∧ ∀ a', Sl n (qt m d v) a' → dr P ops Q S q fuel (j :: l) a' w') : dr P ops Q S q (fuel + 1) l a w := by
 intro hl hn hcl
 obtain ⟨o, h1, h2, h3, h4, h5⟩ := lz hs
 simp only at h3 h4 h5
 simp only [Bool.and_eq_true, beq_iff_eq] at hw
 obtain ⟨⟨hw, hd⟩, hk⟩ := hw
 subst h3 h4 h5
 refine ⟨fun h0 => (by rw [hr] at h0; cases h0), fun i hi => ?_⟩
 rw [hr] at hi
 simp only [List.mem_singleton] at hi
 subst hi
 unfold wpOp
 rw [h1]
 simp only
 rw [if_pos (gA hS hw)]
 exact .inl (he o a _ _ rfl (ip hS hk) (fun v w' hK => ⟨(k v w' hK).1, (k v w' hK).2 _ (hS.put _ _ hd) hl hn (dm hcl (by rw [hr]; simp))⟩)).1
theorem BK {S : World → Prop} {q : Nat} {l : List Nat} (hr : Region.ready .any ops (gj ops.size l) = []) (h : Q .normal a w) : dr P ops Q S q 0 l a w :=
 fun _ _ _ => ⟨hr, h⟩
end
structure Flat (α : Type) where
 sz : Nat
 cells : α → List Value
 dflt : α
 len : ∀ x, (cells x).length = sz
 one : ∀ x, ∀ v ∈ cells x, v.oneCell' = true
def FB : Flat Bool := ⟨1, fun x => [.bool x], false, fun _ => rfl, fun x v h => by simp at h; subst h; rfl⟩
def FS : Flat ByteArray := ⟨1, fun x => [.string x], ⟨#[]⟩, fun _ => rfl, fun x v h => by simp at h; subst h; rfl⟩
def il : Value → Nat → Addr
 | .slice (some ad) _ _, k => ad.add k
 | _, _ => default
def xt (P : Program) (t : TypeId) (n : Nat) : Bool := (bM P t == 5 || bM P t == 6) && ((P.info? t).map (·.size) == some n)
def cg (P : Program) (t : TypeId) : Option Nat :=
 match P.underlying t with
 | some (.slice e) => (P.info? e).map (·.size)
 | _ => none
def bp (P : Program) (t : TypeId) : Option (TypeId × Nat × Nat × Option Value) :=
 match P.underlying t with
 | some (.slice e) => (P.info? e).map fun i => (e, i.size, i.bytes, i.zero)
 | _ => none
theorem add_add (ad : Addr) (k off : Nat) : (ad.add k).add off = ad.add (k + off) := by
 unfold Addr.add
 by_cases h1 : k = 0
 ·subst h1; simp
 ·by_cases h2 : off = 0
  ·subst h2; simp [h1]
  ·simp [h1, h2, Nat.add_assoc]
theorem bG (b off k : Nat) : (⟨b, off, none⟩ : Addr).add k = ⟨b, off + k, none⟩ := Addr.add_mid b off k
section
variable {P : Program} {ρ : Operand → Value} {w0 w : World} {D A : Nat → Prop} {L R : List Ent}
theorem BL {t : TypeId} {n : Nat} (h : xt P t n = true) : ∃ d, P.underlying t = some d ∧ d.isRow = true ∧ (P.info? t).map (·.size) = some n := by
 unfold xt bM at h
 simp only [Bool.and_eq_true, Bool.or_eq_true, beq_iff_eq] at h
 cases hu : P.underlying t with
 | none => simp [hu] at h
 | some d => refine ⟨d, rfl, ?_, h.2⟩; cases d <;> simp_all
theorem tW {t : TypeId} {x : Operand} {ad : Addr} {u : Value} (hx : ρ x = .pointer (some ad)) (hc : w.cell? ad = some u) (ht : kq P t = true) : cV P ρ (.load t x) w u w := by
 intro o ho
 simp [execOp, ho, Instr.loadAt, hx, Instr.sureAddr, loadVar, Ap ht, hc]
theorem Ix {li b off : Nat} {T t : TypeId} {cs : List Value} {x : Operand} {u : Value} (C : Ctx w0 D A L R w) (hL : L[li]? = some (dJ false b T cs)) (hx : ρ x = .pointer (some ⟨b, off, none⟩))
 (hc : cs[off]? = some u) (ht : kq P t = true) : cV P ρ (.load t x) w u w :=
 tW hx ((cell_of_row w b off cs.toArray T (0, 0) (C.okL li _ hL)).trans (by simpa using hc)) ht
theorem El {li b off : Nat} {T t : TypeId} {cs : List Value} {x : Operand} {seg : List Value} (C : Ctx w0 D A L R w) (hL : L[li]? = some (dJ false b T cs)) (hx : ρ x = .pointer (some ⟨b, off, none⟩))
 (hc : (cs.drop off).take seg.length = seg) (ht : xt P t seg.length = true) : cV P ρ (.load t x) w (.agg seg.toArray) w := by
 intro o ho
 obtain ⟨d, h1, h2, h3⟩ := BL ht
 have hr : w.rangeAt b off seg := fun j v hv => by
  rw [cell_of_row w b (off + j) cs.toArray T (0, 0) (C.okL li _ hL)]
  rw [← hc, List.getElem?_take] at hv
  split at hv
  ·rw [List.getElem?_drop] at hv; simpa using hv
  ·cases hv
 have := run_loadAt_mid (P := P) w b off t seg d hr h1 h2 h3
 simp only [execOp, ho, hx]
 simp only [Sem.run_bind, this, Result.andThen_ok, Sem.run_pure]
theorem yp {α : Type} (F : Flat α) (l : List α) (i off : Nat) (h1 : i < l.length) (h2 : off < F.sz) : (l.flatMap F.cells)[i * F.sz + off]? = (F.cells (l.getD i F.dflt))[off]? := by
 induction l generalizing i with
 | nil => simp at h1
 | cons x xs ih =>
   rw [List.flatMap_cons]
   cases i with
   | zero =>
     have hl := F.len x
     simp only [Nat.zero_mul, Nat.zero_add]
     rw [List.getElem?_append_left (by omega)]
     rfl
   | succ i =>
     have hl := F.len x
     have e : (i + 1) * F.sz + off = (F.cells x).length + (i * F.sz + off) := by rw [hl, Nat.add_mul]; omega
     rw [e, List.getElem?_append_right (by omega), Nat.add_sub_cancel_left, ih i (by simpa using h1)]
     simp [List.getD]
theorem gR {α : Type} (F : Flat α) (l : List α) : (l.flatMap F.cells).length = l.length * F.sz := by
 induction l with
 | nil => simp
 | cons x xs ih => rw [List.flatMap_cons, List.length_append, ih, F.len, List.length_cons, Nat.add_mul]; omega
theorem tX {α : Type} (F : Flat α) (l : List α) : ∀ v ∈ l.flatMap F.cells, v.oneCell' = true := by
 intro v hv
 obtain ⟨x, _, h⟩ := List.mem_flatMap.1 hv
 exact F.one x v h
theorem yq {v : Value} {n sz : Nat} {cs : List Value} (h : Rds v n sz cs w) {j : Nat} {u : Value} (hu : cs[j]? = some u) : w.cell? (il v j) = some u := by
 obtain ⟨_, ao, c, rfl, _, _, _, h2⟩ := h
 obtain ⟨ad, rfl, hc⟩ := h2 j u hu
 exact hc
def Shp (v : Value) (n : Nat) : Prop := ∃ ao c, v = .slice ao n c ∧ n ≤ c ∧ c ≤ 9223372036854775807 ∧ (ao = none → c = 0)
theorem dV {v : Value} {n sz : Nat} {cs : List Value} (h : Rds v n sz cs w) : Shp v n := by
 obtain ⟨_, ao, c, rfl, h1, h2, h3, _⟩ := h
 exact ⟨ao, c, rfl, h1, h2, h3⟩
theorem Em {v : Value} {n sz : Nat} {t : TypeId} {x y : Operand} {i : Int} {k : IntKind} (hr : Shp v n) (hx : ρ x = v) (hy : ρ y = .int k i) (h0 : 0 ≤ i) (h1 : i < n)
 (ht : cg P t = some sz) : cV P ρ (.indexAddr t x y) w (.pointer (some (il v (i.toNat * sz)))) w := by
 intro o ho
 obtain ⟨ao, c, rfl, h3, h4, h5⟩ := hr
 unfold cg at ht
 split at ht
 ·rename_i e hu
  obtain ⟨q, hq, hs⟩ := Option.map_eq_some_iff.1 ht
  cases ao with
  | none => have := h5 rfl; omega
  | some ad =>
    simp [execOp, ho, Instr.indexAt, hx, hy, asIntOf, run_underlying hu, h0, h1, sizeOf, typeInfo, hq, hs, il]
 ·cases ht
theorem tY {v : Value} {e sz n : Nat} {xs : List Value} (h : w.ownsRow 0 e sz v n xs) : Rds v n sz xs w := by
 refine ⟨h.1, ?_⟩
 rcases h.2 with ⟨rfl, h0⟩ | ⟨g, cap, cur, rfl, _, hg, h1, h2, h3, h4⟩
 ·subst h0
  have : xs = [] := List.eq_nil_of_length_eq_zero (by simpa using h.1)
  subst this
  exact ⟨none, 0, rfl, Nat.le_refl _, by omega, fun _ => rfl, by simp⟩
 ·exact ⟨_, cap, rfl, h1, by simpa [maxLen] using h2, by simp, fun j u hu => ⟨_, rfl, h.cells (g := g) rfl j u hu⟩⟩
theorem mb (sz : Nat) (w : World) : Rds (.slice none 0 0) 0 sz [] w := ⟨by simp, none, 0, rfl, Nat.le_refl _, by omega, fun _ => rfl, by simp⟩
theorem BM {T : TypeId} {cs : Array Value} (C : Ctx w0 D A L R w) : Ctx w0 D A (L ++ [dJ false w.heap.size T cs.toList]) R (w.alloc (.cells cs T)) :=
 tx C (Fr.alloc w _) (by simpa [dJ] using heap_alloc_new w (.cells cs T)) (fun b h => by simp only [dJ] at h; omega)
def sN (P : Program) (t : TypeId) : Option (List Value) := (P.info? t).bind fun i => i.zero.map fun z => z.cells.toList
theorem CM {t : TypeId} {cs : List Value} (C : Ctx w0 D A L R w) (hz : sN P t = some cs) :
 Eff P ρ (.alloc t) w (fun v w' => ∃ b, v = .pointer (some ⟨b, 0, none⟩) ∧ Ctx w0 D A (L ++ [dJ false b t cs]) R w') := by
 unfold sN at hz
 obtain ⟨i, hi, hz⟩ := Option.bind_eq_some_iff.1 hz
 obtain ⟨z, hz', rfl⟩ := Option.map_eq_some_iff.1 hz
 refine cn (v := .pointer (some ⟨w.heap.size, 0, none⟩)) (w' := w.alloc (.cells z.cells t)) ?_ ⟨_, rfl, BM C⟩
 intro o ho
 simp [execOp, ho, Instr.alloc, zeroValue, typeInfo, hi, hz', newVar, newRow]
theorem Hw {t : TypeId} {x : Operand} {cs : List Value} (C : Ctx w0 D A L R w) (hx : (ρ x).cells.toList = cs) :
 Eff P ρ (.box t x) w (fun v w' => ∃ b, v = .pointer (some ⟨b, 0, none⟩) ∧ Ctx w0 D A (L ++ [dJ false b t cs]) R w') := by
 subst hx
 refine cn (v := .pointer (some ⟨w.heap.size, 0, none⟩)) (w' := w.alloc (.cells (ρ x).cells t)) ?_ ⟨_, rfl, BM C⟩
 intro o ho
 simp [execOp, ho, Instr.box, newVar, newRow]
def dq (cs : List Value) (off : Nat) (us : List Value) : List Value := cs.take off ++ us ++ cs.drop (off + us.length)
theorem gB (w : World) (g : Nat) (cs : Array Value) : Fr (fun x => x = g) w (w.setRow g cs) :=
 ⟨rfl, rfl, rfl, by simp, fun k _ hk => setRow_other w g k cs hk⟩
def kT (P : Program) (t : TypeId) (n : Nat) : Bool := (P.info? t).map (·.size) == some n
theorem BN {li b off : Nat} {T t : TypeId} {cs us cs' : List Value} {x y : Operand} (C : Ctx w0 D A L R w) (hL : L[li]? = some (dJ false b T cs)) (hx : ρ x = .pointer (some ⟨b, off, none⟩))
 (hy : (ρ y).cells.toList = us) (h1 : us.all (·.oneCell') = true) (ho : off + us.length ≤ cs.length) (hs : kT P t us.length = true) (hc : dq cs off us = cs') :
 Eff P ρ (.store t x y) w (fun v' w' => v' = undef ∧ Ctx w0 D A (L.set li (dJ false b T cs')) R w') := by
 subst hc
 have hb : w.heap[b]? = some (.cells cs.toArray T (0, 0)) := C.okL li _ hL
 have hst := run_storeCells_at P b off T us 0 cs.toArray w hb (by simpa using ho) (by simpa using h1)
 have hz : (ρ y).cells.size = us.length := by rw [← hy]; simp
 refine tQ (w' := w.setRow b (dq cs off us).toArray) ?_ ?_
 ·intro o ho'
  unfold kT at hs
  cases hq : P.info? t with
  | none => simp [hq] at hs
  | some q =>
    have hs' : q.size = us.length := by simpa [hq] using hs
    simp only [Nat.add_zero, List.toList_toArray] at hst
    simp [execOp, ho', Instr.storeAt, hx, Instr.sureAddr, storeVar, sizeOf, typeInfo, hq, hs', hz, hy, hst, dq]
 ·refine ⟨rfl, qr C hL (gB w b _) ?_ (fun x h => .inl h)⟩
  show (w.setRow b _).heap[b]? = _
  exact setRow_heap w b _ _ T _ hb
end
section
variable {P : Program} {ρ : Operand → Value} {w0 w : World} {D A : Nat → Prop} {L R : List Ent}
def rL (P : Program) (t : TypeId) (n : Nat) (parts : List (Nat × Value)) : Option (TypeId × Nat × List Value) :=
 match P.underlying t with
 | some (.slice e) => match P.info? e with
   | some i => if n * i.size > 2 ^ 24 then none else
     let z := if n * i.size = 0 then some #[] else i.zero.map (·.cells)
     z.bind fun z => (Instr.fill (fun j => some (j * i.size, i.size)) ((Array.range (n * i.size)).map (z[· % z.size]!)) parts).map fun cs => (e, i.size, cs.toList)
   | none => none
 | _ => none
theorem qw {t e : TypeId} {n sz : Nat} {parts : Array (Nat × Operand)} {cs : List Value} (C : Ctx w0 D A L R w)
 (h : rL P t n ((parts.map fun (i, x) => (i, ρ x)).toList) = some (e, sz, cs)) (hl : cs.length = n * sz) (hn : n ≤ 9223372036854775807) :
 Eff P ρ (.buildSlice t n parts) w (fun v w' => (∃ b, v = .slice (some ⟨b, 0, none⟩) n n) ∧ Ctx w0 D A (L ++ [io v e sz n cs]) R w') := by
 unfold rL at h
 split at h
 ·rename_i e' hu
  split at h
  ·rename_i q hq
   split at h
   ·cases h
   ·rename_i hbig
    obtain ⟨z, hz, h⟩ := Option.bind_eq_some_iff.1 h
    obtain ⟨cs', hf, h⟩ := Option.map_eq_some_iff.1 h
    simp only [Prod.mk.injEq] at h
    obtain ⟨rfl, rfl, rfl⟩ := h
    refine cn (v := .slice (some ⟨w.heap.size, 0, none⟩) n n) (w' := w.alloc (.cells cs' e')) ?_ ⟨⟨_, rfl⟩, ?_⟩
    ·intro o ho
     have hf' := hf
     by_cases h0 : n * q.size = 0
     ·rw [if_pos h0] at hz
      cases hz
      simp [h0] at hf'
      simp [execOp, ho, Instr.buildSlice, run_underlying hu, sizeOf, typeInfo, hq, h0, newRow]
      rw [hf']
      simp
     ·rw [if_neg h0] at hz
      obtain ⟨z', hz', rfl⟩ := Option.map_eq_some_iff.1 hz
      simp [execOp, ho, Instr.buildSlice, run_underlying hu, sizeOf, typeInfo, hq, hbig, h0, zeroValue, hz', newRow]
      simp only [Array.toList_map] at hf'
      rw [hf']
      simp
    ·exact tx C (Fr.alloc w _) (World.ownsRow_lit w cs' n (Nat.zero_le _) (by simpa [maxLen] using hn) (by simpa using hl)) (fun b hb => by simp [io, Value.ownBlock] at hb; omega)
  ·cases h
 ·cases h
theorem mc {li n m sz bytes : Nat} {e t : TypeId} {v y z : Value} {xs news : List Value} {s x : Operand} (C : Ctx w0 D A L R w) (hL : L[li]? = some (io v e sz n xs))
 (hs : ρ s = v) (hx : ρ x = y) (hy : Rds y m sz news w) (h1 : ∀ u ∈ news, u.oneCell' = true)
 (ht : bp P t = some (e, sz, bytes, some z)) (hz : z.cells.size = sz) (h0 : 0 < sz) (hb : (n + m) * bytes ≤ 140737488355328) (hb0 : 0 < bytes) :
 Eff P ρ (.call { callee := .builtin .append, args := #[s, x], argTypes := #[t, t] }) w (fun v' w' => Ctx w0 D A (L.set li (io v' e sz (n + m) (xs ++ news))) R w') := by
 have hown : w.ownsRow 0 e sz v n xs := C.okL li _ hL
 unfold bp at ht
 split at ht
 ·rename_i e' hu
  obtain ⟨i, hi, hh⟩ := Option.map_eq_some_iff.1 ht
  simp only [Prod.mk.injEq] at hh
  obtain ⟨rfl, rfl, rfl, hzero⟩ := hh
  have hlen : n + m ≤ 140737488355328 := Nat.le_trans (Nat.le_mul_of_pos_right _ hb0) hb
  obtain ⟨hl, ao, c, rfl, h3, h4, h5, h2⟩ := hy
  cases ao with
  | none =>
    have hc := h5 rfl
    subst hc
    obtain rfl : m = 0 := by omega
    have : news = [] := List.eq_nil_of_length_eq_zero (by simpa using hl)
    subst this
    have hr := fun ty => run_append_owned_none (P := P) w 0 t ty e' i i.size hu hi v n xs hown
    refine cn (v := v) (w' := w) ?_ ?_
    ·intro o ho
     simp [execOp, ho, resolve, invoke, builtin, hs, hx, hr]
    ·exact qr C hL (Fr.refl _ _) (by simpa [io] using hown) (fun b h => .inl h)
  | some ad =>
    have hr := fun ty => run_append_own_at (P := P) w 0 t ty e' i z i.size i.bytes hu hi hzero rfl rfl hz h0 v n xs hown ad m c news hl
     (fun j u hu => by obtain ⟨ad', ha, hc⟩ := h2 j u hu; cases ha; exact hc) h1 (by simp only [maxLen]; omega) hb (Nat.zero_le _)
    refine xr fun o ho => ?_
    obtain ⟨v', w', hrun, r1, r2, _, r4⟩ := hr o.type
    have hx' : (execOp ρ o).run P w = .ok (.value v') w' := by
     simp [execOp, ho, resolve, invoke, builtin, hs, hx, hrun]
    refine ⟨v', w', hx', qr C hL (Fr.of_grown r2) r1 (fun b hb => ?_)⟩
    simp only [io] at hb ⊢
    rcases r4 with r4 | r4
    ·exact .inl (r4 ▸ hb)
    ·rw [r4] at hb; cases hb; exact .inr (Nat.le_refl _)
 ·cases ht
def kr : Option Value → Nat → Option Nat
 | none, _ => some 0
 | some (.int _ i), hi => if 0 ≤ i ∧ i ≤ hi then some i.toNat else none
 | _, _ => none
def jt : Option Value → Nat → Option Nat
 | none, n => some n
 | some (.int _ i), n => if 0 ≤ i ∧ i ≤ n then some i.toNat else none
 | _, _ => none
theorem bY {k : IntKind} {i : Int} {y : Nat} {code : BoundsCode} (h : 0 ≤ i ∧ i ≤ y) : (Instr.sliceBound (.int k i) y code).run P w = .ok i.toNat w := by
 simp [Instr.sliceBound, asIntOf, h]
theorem Au {lo hi : Option Value} {n c h l : Nat} (hh : jt hi n = some h) (hl : kr lo h = some l) (hn : n ≤ c) : (Instr.sliceBounds true n c lo hi none).run P w = .ok (l, h, c) w := by
 cases hi with
 | none =>
   simp only [jt, Option.some.injEq] at hh
   subst hh
   cases lo with
   | none => simp only [kr, Option.some.injEq] at hl; subst hl; simp [Instr.sliceBounds]
   | some v =>
     cases v <;> simp only [kr] at hl <;> (try (cases hl; done))
     split at hl <;> (try (cases hl; done))
     rename_i hb
     cases hl
     simp [Instr.sliceBounds, bY hb]
 | some u =>
   cases u <;> simp only [jt] at hh <;> (try (cases hh; done))
   split at hh <;> (try (cases hh; done))
   rename_i ku iu hu
   cases hh
   have hu' : 0 ≤ iu ∧ iu ≤ (c : Int) := by omega
   cases lo with
   | none => simp only [kr, Option.some.injEq] at hl; subst hl; simp [Instr.sliceBounds, bY hu']
   | some v =>
     cases v <;> simp only [kr] at hl <;> (try (cases hl; done))
     split at hl <;> (try (cases hl; done))
     rename_i hb
     cases hl
     simp [Instr.sliceBounds, bY hu', bY hb]
def ik (v : Value) (l h sz : Nat) : Value :=
 match v with
 | .slice ao _ c => .slice (if c = l then ao else ao.map (·.add (l * sz))) (h - l) (c - l)
 | _ => undef
def qx (v : Value) (l h sz : Nat) : Value :=
 match v with
 | .slice ao _ _ => .slice (if h = l then ao else ao.map (·.add (l * sz))) (h - l) (h - l)
 | _ => undef
theorem nq {v : Value} {n sz h l : Nat} {t : TypeId} {x : Operand} {lo hi : Option Operand} (hr : Shp v n) (hx : ρ x = v) (ht : cg P t = some sz)
 (hh : jt (hi.map ρ) n = some h) (hlo : kr (lo.map ρ) h = some l) : cV P ρ (.slice t x lo hi none) w (ik v l h sz) w := by
 obtain ⟨ao, c, rfl, h3, h4, h5⟩ := hr
 unfold cg at ht
 split at ht
 ·rename_i e hu
  obtain ⟨q, hq, hs⟩ := Option.map_eq_some_iff.1 ht
  intro o ho
  have hb := Au (P := P) (w := w) hh hlo h3
  simp [execOp, ho, Instr.sliceAt, run_underlying hu, Instr.slice, hx, hb, sizeOf, typeInfo, hq, hs, ik]
 ·cases ht
theorem yr {lo hi : Option Value} {n c h l : Nat} (hh : jt hi n = some h) (hi' : hi.isSome = true) (hl : kr lo h = some l) (hn : n ≤ c) : (Instr.sliceBounds true n c lo hi hi).run P w = .ok (l, h, h) w := by
 cases hi with
 | none => cases hi'
 | some u =>
   cases u <;> simp only [jt] at hh <;> (try (cases hh; done))
   split at hh <;> (try (cases hh; done))
   rename_i ku iu hu
   cases hh
   have hu' : 0 ≤ iu ∧ iu ≤ (c : Int) := by omega
   have hu2 : 0 ≤ iu ∧ iu ≤ (iu.toNat : Int) := by omega
   cases lo with
   | none => simp only [kr, Option.some.injEq] at hl; subst hl; simp [Instr.sliceBounds, bY hu', bY hu2]
   | some v =>
     cases v <;> simp only [kr] at hl <;> (try (cases hl; done))
     split at hl <;> (try (cases hl; done))
     rename_i hb
     cases hl
     simp [Instr.sliceBounds, bY hu', bY hu2, bY hb]
theorem En {v : Value} {n sz h l : Nat} {t : TypeId} {x : Operand} {lo hi mx : Option Operand} (hr : Shp v n) (hx : ρ x = v) (ht : cg P t = some sz)
 (hh : jt (hi.map ρ) n = some h) (hlo : kr (lo.map ρ) h = some l) (hm : (hi.isSome, mx.map ρ) = (true, hi.map ρ)) : cV P ρ (.slice t x lo hi mx) w (qx v l h sz) w := by
 obtain ⟨ao, c, rfl, h3, h4, h5⟩ := hr
 simp only [Prod.mk.injEq] at hm
 unfold cg at ht
 split at ht
 ·rename_i e hu
  obtain ⟨q, hq, hs⟩ := Option.map_eq_some_iff.1 ht
  intro o ho
  have hb := yr (P := P) (w := w) hh (by simpa using hm.1) hlo h3
  simp [execOp, ho, Instr.sliceAt, run_underlying hu, Instr.slice, hx, hm.2, hb, sizeOf, typeInfo, hq, hs, qx]
 ·cases ht
theorem Hx {v : Value} {n sz h l : Nat} {cs : List Value} (hr : Rds v n sz cs w) (hlh : l ≤ h) (hhn : h ≤ n) : Rds (ik v l h sz) (h - l) sz ((cs.take (h * sz)).drop (l * sz)) w := by
 obtain ⟨hl, ao, c, rfl, h3, h4, h5, h2⟩ := hr
 refine ⟨?_, _, _, rfl, by omega, by omega, ?_, ?_⟩
 ·rw [List.length_drop, List.length_take, hl, Nat.min_eq_left (Nat.mul_le_mul_right _ hhn), Nat.sub_mul]
 ·intro hn
  split at hn
  ·have := h5 hn; omega
  ·cases ao with
   | none => have := h5 rfl; omega
   | some ad => simp at hn
 ·intro j u hu'
  rw [List.getElem?_drop, List.getElem?_take] at hu'
  split at hu'
  ·obtain ⟨ad, rfl, hc⟩ := h2 _ u hu'
   split
   ·rename_i he
    have h6 : l * sz + j < h * sz := by assumption
    have : h * sz ≤ l * sz := Nat.mul_le_mul_right _ (by omega)
    omega
   ·exact ⟨ad.add (l * sz), rfl, by rw [add_add]; exact hc⟩
  ·cases hu'
theorem Eo {v : Value} {n sz h l : Nat} {cs : List Value} (hr : Rds v n sz cs w) (hlh : l ≤ h) (hhn : h ≤ n) : Rds (qx v l h sz) (h - l) sz ((cs.take (h * sz)).drop (l * sz)) w := by
 obtain ⟨hl, ao, c, rfl, h3, h4, h5, h2⟩ := hr
 refine ⟨?_, _, _, rfl, by omega, by omega, ?_, ?_⟩
 ·rw [List.length_drop, List.length_take, hl, Nat.min_eq_left (Nat.mul_le_mul_right _ hhn), Nat.sub_mul]
 ·intro hn
  split at hn
  ·omega
  ·cases ao with
   | none => have := h5 rfl; omega
   | some ad => simp at hn
 ·intro j u hu'
  rw [List.getElem?_drop, List.getElem?_take] at hu'
  split at hu'
  ·obtain ⟨ad, rfl, hc⟩ := h2 _ u hu'
   split
   ·rename_i he
    have h6 : l * sz + j < h * sz := by assumption
    have : h * sz ≤ l * sz := Nat.mul_le_mul_right _ (by omega)
    omega
   ·exact ⟨ad.add (l * sz), rfl, by rw [add_add]; exact hc⟩
  ·cases hu'
theorem Ep (v : Value) (l h sz : Nat) : ∀ b, aT (ik v l h sz) = some b → aT v = some b := by
 intro b hb
 unfold ik at hb
 split at hb
 ·rename_i ao n c
  by_cases hc : c = l
  ·rw [if_pos hc] at hb
   cases ao with
   | none => simp [aT] at hb
   | some ad => simpa [aT] using hb
  ·rw [if_neg hc] at hb
   cases ao with
   | none => simp [aT] at hb
   | some ad => simpa [aT, jF] using hb
 ·simp [aT, undef] at hb
theorem CN (v : Value) (l h sz : Nat) : ∀ b, aT (qx v l h sz) = some b → aT v = some b := by
 intro b hb
 unfold qx at hb
 split at hb
 ·rename_i ao n c
  by_cases hc : h = l
  ·rw [if_pos hc] at hb
   cases ao with
   | none => simp [aT] at hb
   | some ad => simpa [aT] using hb
  ·rw [if_neg hc] at hb
   cases ao with
   | none => simp [aT] at hb
   | some ad => simpa [aT, jF] using hb
 ·simp [aT, undef] at hb
theorem yt {n m sz bytes : Nat} {e t : TypeId} {v y z : Value} {xs news : List Value} {s x : Operand} (hc : ∃ ao, v = .slice ao n n ∧ (ao = none → n = 0)) (hv : Rds v n sz xs w)
 (hs : ρ s = v) (hx : ρ x = y) (hy : Rds y m sz news w) (h1 : ∀ u ∈ news, u.oneCell' = true)
 (ht : bp P t = some (e, sz, bytes, some z)) (hz : z.cells.size = sz) (h0 : 0 < sz) (hb : (n + m) * bytes ≤ 140737488355328) (hb0 : 0 < bytes) :
 Eff P ρ (.call { callee := .builtin .append, args := #[s, x], argTypes := #[t, t] }) w
  (fun v' w' => Fr nob w w' ∧ Rds v' (n + m) sz (xs ++ news) w' ∧ ∀ b, aT v' = some b → (news = [] ∧ aT v = some b) ∨ w.heap.size ≤ b) := by
 obtain ⟨ao, rfl, hn0⟩ := hc
 unfold bp at ht
 split at ht
 ·rename_i e' hu
  obtain ⟨i, hi, hh⟩ := Option.map_eq_some_iff.1 ht
  simp only [Prod.mk.injEq] at hh
  obtain ⟨rfl, rfl, rfl, hzero⟩ := hh
  have hlen : n + m ≤ 140737488355328 := Nat.le_trans (Nat.le_mul_of_pos_right _ hb0) hb
  have hv' := hv
  obtain ⟨hl, ao', c', he, _, _, _, h2⟩ := hv
  simp only [Value.slice.injEq] at he
  obtain ⟨rfl, -, rfl⟩ := he
  obtain ⟨hly, ay, cy, rfl, h3, h4, h5, h6⟩ := hy
  by_cases hm : m = 0
  ·subst hm
   have : news = [] := List.eq_nil_of_length_eq_zero (by simpa using hly)
   subst this
   refine cn (v := .slice ao n n) (w' := w) ?_ ⟨Fr.refl _ _, by simpa using hv', fun b hb => .inl ⟨rfl, hb⟩⟩
   intro o ho
   have hfc : (Builtin.firstCells i.size 0 (.slice ay 0 cy)).run P w = .ok #[] w := by
    cases ay <;> simp [Builtin.firstCells, loadCells, loadCellsFrom]
   cases ao <;> simp [execOp, ho, resolve, invoke, builtin, hs, hx, Builtin.append_, run_underlying hu, sizeOf, typeInfo, hi, Builtin.lenOf, hfc, storeCells]
  ·cases ay with
   | none => have := h5 rfl; omega
   | some ad =>
     have hnews : ∀ j u, news[j]? = some u → w.cell? (ad.add j) = some u := fun j u hu => by
      obtain ⟨ad', ha, hc⟩ := h6 j u hu; cases ha; exact hc
     have main : ∀ ty, ∃ v' w', (Builtin.append_ #[t, t] ty #[.slice ao n n, .slice (some ad) m cy]).run P w = .ok v' w' ∧ w'.ownsRow w.heap.size e' i.size v' (n + m) (xs ++ news) ∧ w.grownBy w' none := by
      intro ty
      cases ao with
      | none =>
        obtain rfl := hn0 rfl
        have hx0 : xs = [] := List.eq_nil_of_length_eq_zero (by simpa using hl)
        subst hx0
        have hr := run_append_own_at (P := P) w w.heap.size t ty e' i z i.size i.bytes hu hi hzero rfl rfl hz h0 (.slice none 0 0) 0 [] (World.ownsRow_nil w _ _ _) ad m cy news hly hnews
        obtain ⟨v', w', r, r1, r2, _, _⟩ := hr h1 (by simp only [maxLen]; omega) hb (Nat.le_refl _)
        exact ⟨v', w', r, r1, r2⟩
      | some ad0 =>
        exact run_append_arg_grows (P := P) w t ty e' i z i.size i.bytes hu hi hzero rfl rfl hz h0 ad0 n n xs hl (fun j u hu => by obtain ⟨ad', ha, hc⟩ := h2 j u hu; cases ha; exact hc) ad m cy news hly hnews (by omega) (by simp only [maxLen]; omega) hb
     refine xr fun o ho => ?_
     obtain ⟨v', w', hrun, r1, r2⟩ := main o.type
     have hx' : (execOp ρ o).run P w = .ok (.value v') w' := by
      simp [execOp, ho, resolve, invoke, builtin, hs, hx, hrun]
     have r3 : w'.ownsRow 0 e' i.size v' (n + m) (xs ++ news) := by
      refine ⟨r1.1, ?_⟩
      rcases r1.2 with h | ⟨g, cap, cur, h1, _, h3⟩
      ·exact .inl h
      ·exact .inr ⟨g, cap, cur, h1, Nat.zero_le _, h3⟩
     refine ⟨v', w', hx', (Fr.of_grown r2).mono (fun x hx => by cases hx), tY r3, fun b hb => .inr ?_⟩
     rcases r1.2 with ⟨rfl, _⟩ | ⟨g, cap, cur, rfl, h1, _⟩
     ·simp [aT] at hb
     ·simp [aT] at hb; omega
 ·cases ht
end
def FK (k : IntKind) : Flat Int := ⟨1, fun x => [.int k x], 0, fun _ => rfl, fun x v h => by simp at h; subst h; rfl⟩
def Flat.at_ {α : Type} (F : Flat α) (l : List α) (i : Int) : α := l.getD i.toNat F.dflt
def WK (k : IntKind) (x : Int) : Int := k.wrap x
def bh (k : IntKind) (a b : Int) : Int := k.wrap (BitVec.ofInt k.bits a &&& BitVec.ofInt k.bits b).toNat
def orK (k : IntKind) (a b : Int) : Int := k.wrap (BitVec.ofInt k.bits a ||| BitVec.ofInt k.bits b).toNat
def cM (k : IntKind) (a b : Int) : Int := k.wrap (BitVec.ofInt k.bits a ^^^ BitVec.ofInt k.bits b).toNat
def cq (k : IntKind) (a b : Int) : Int := k.wrap (a * 2 ^ (min b.toNat k.bits))
def cW (k : IntKind) (a b : Int) : Int := a.fdiv (2 ^ (min b.toNat k.bits))
def mnI (a b : Int) : Int := if b < a then b else a
def mxI (a b : Int) : Int := if b > a then b else a
theorem bind_some {α β : Type} {o : Option α} {f : α → Option β} {r : β} (h : o.bind f = some r) : ∃ t, o = some t ∧ f t = some r := Option.bind_eq_some_iff.1 h
section
variable {ro : Option Nat} {P : Program} {Q : Exit → Act → World → Prop} {a : Act} {w : World} {c : Code} {n : Nat} {m : List (Nat × Value)}
variable {ρ : Operand → Value} {w0 : World} {D A : Nat → Prop} {L R : List Ent}
theorem KW {t t' : TypeId} {x y : Operand} {p q : ByteArray} (hx : ρ x = .string p) (hy : ρ y = .string q) (hq : p.size + q.size ≤ 9223372036854775807) :
 cV P ρ (.binOp .add t x y t') w (.string (p ++ q)) w := by
 intro o ho
 have h : ¬ ((p.size + q.size : Nat) : Int) > IntKind.i64.max := by
  have : IntKind.i64.max = 9223372036854775807 := by decide
  omega
 have h' : ¬ (p.size : Int) + (q.size : Int) > IntKind.i64.max := by omega
 simp [execOp, ho, hx, hy, mQ, binOp, Op.stringOp]
 omega
theorem bz {ops : Array Oper} {i : Nat} {d : Option Tmp} {op : Op} {g : Option (Nat × Bool)} {v : Value} (hS : Sl n m a) (hs : sig ops i = some (d, op, g))
 (hw : (sM ops m g == some true && wid n d && iL m op) = true) (hr : cV P (ev m) op w v w)
 (k : ∀ a', Sl n (qt m d v) a' → wl ro P ops Q (i + 1) a' w) : wl ro P ops Q i a w :=
 ma hS hs hw (cn (K := fun v' w' => v' = v ∧ w' = w) hr ⟨rfl, rfl⟩) (by rintro _ _ ⟨rfl, rfl⟩; exact k)
theorem sP {v : Value} {n : Nat} {x : Operand} {t : TypeId} (hr : Shp v n) (hx : ρ x = v) (ht : (bM P t == 4) = true) :
 cV P ρ (.call { callee := .builtin .len, args := #[x], argTypes := #[t] }) w (.int .i64 (n : Int)) w := by
 obtain ⟨ao, c, rfl, _⟩ := hr
 exact aE (by have h4 : bM P t = 4 := by simpa using ht
              simp [dF, tN, h4, hx]) w
theorem CO {α : Type} (F : Flat α) (l : List α) (h : Nat) : (l.flatMap F.cells).take (h * F.sz) = (l.take h).flatMap F.cells := by
 induction l generalizing h with
 | nil => simp
 | cons x xs ih =>
   cases h with
   | zero => simp
   | succ h =>
     have hl := F.len x
     rw [List.flatMap_cons, List.take_succ_cons, List.flatMap_cons, ← ih h, List.take_append, List.take_of_length_le (by rw [hl, Nat.add_mul]; omega)]
     congr 2
     rw [hl, Nat.add_mul]
     omega
theorem oC {α : Type} (F : Flat α) (l : List α) (h : Nat) : (l.flatMap F.cells).drop (h * F.sz) = (l.drop h).flatMap F.cells := by
 induction l generalizing h with
 | nil => simp
 | cons x xs ih =>
   cases h with
   | zero => simp
   | succ h =>
     have hl := F.len x
     rw [List.flatMap_cons, List.drop_succ_cons, ← ih h, List.drop_append, List.drop_of_length_le (by rw [hl, Nat.add_mul]; omega), List.nil_append]
     congr 1
     rw [hl, Nat.add_mul]
     omega
theorem Er (k : IntKind) (i : Int) {n : Nat} (h0 : 0 ≤ i) (h1 : i ≤ n) : jt (some (.int k i)) n = some i.toNat := by simp [jt, h0, h1]
theorem qy (k : IntKind) (i : Int) {n : Nat} (h0 : 0 ≤ i) (h1 : i ≤ n) : kr (some (.int k i)) n = some i.toNat := by simp [kr, h0, h1]
end
def ju (P : Program) : List Field → Option (List (Nat × Nat))
 | [] => some []
 | f :: fs => match P.info? f.type, ju P fs with
   | some i, some ps => some ((f.offset, i.size) :: ps)
   | _, _ => none
def xu (P : Program) (t : TypeId) (parts : List (Nat × Value)) : Option Value :=
 match P.info? t, P.underlying t with
 | some i, some (.struct fs) => match i.zero, ju P fs.toList with
   | some z, some ps => (Instr.fill (fun j => ps.toArray[j]?) z.cells parts).map .agg
   | _, _ => none
 | some i, some (.array _ e) => match i.zero, P.info? e with
   | some z, some q => (Instr.fill (fun j => some (j * q.size, q.size)) z.cells parts).map .agg
   | _, _ => none
 | _, _ => none
def xv (f : Field) : Sem (Nat × Nat) := do pure (f.offset, ← sizeOf f.type)
theorem Av {P : Program} {w : World} {f : Field} {i : TypeInfo} (hi : P.info? f.type = some i) : (xv f).run P w = .ok (f.offset, i.size) w := by
 simp [xv, sizeOf, typeInfo, hi]
theorem tZ {P : Program} {w : World} : ∀ (fs : List Field) (ps : List (Nat × Nat)), ju P fs = some ps → (fs.mapM xv).run P w = .ok ps w
 | [], ps, h => by simp [ju] at h; subst h; simp
 | f :: fs, ps, h => by
   simp only [ju] at h
   split at h
   ·rename_i i qs hi hq
    cases h
    simp only [List.mapM_cons, Sem.run_bind, Av hi, Result.andThen_ok, tZ (P := P) (w := w) fs qs hq, Sem.run_pure]
   ·cases h
theorem BO {P : Program} {ρ : Operand → Value} {w : World} {t : TypeId} {parts : Array (Nat × Operand)} {v : Value} (h : xu P t (parts.map fun (i, x) => (i, ρ x)).toList = some v) : cV P ρ (.build t parts) w v w := by
 intro o ho
 unfold xu at h
 split at h
 ·rename_i i fs hi hu
  split at h
  ·rename_i z ps hz hps
   obtain ⟨cs, hf, rfl⟩ := Option.map_eq_some_iff.1 h
   have hp := tZ (P := P) (w := w) fs.toList ps hps
   have hp' : (fs.mapM xv).run P w = .ok ps.toArray w := by
    have e : fs = fs.toList.toArray := by simp
    rw [e, List.mapM_toArray]
    simp only [Sem.run_map, hp, Result.andThen_ok]
   have hp2 : (fs.mapM fun (f : Field) => do pure (f.offset, ← sizeOf f.type)).run P w = .ok ps.toArray w := hp'
   simp only [execOp, ho, Instr.build, Sem.run_bind, zeroValue, typeInfo, run_program, hi, hz, Sem.run_pure, Result.andThen_ok, run_underlying hu, hp2, hf]
  ·cases h
 ·rename_i i len e hi hu
  split at h
  ·rename_i z q hz hq
   obtain ⟨cs, hf, rfl⟩ := Option.map_eq_some_iff.1 h
   simp only [execOp, ho, Instr.build, Sem.run_bind, zeroValue, typeInfo, run_program, hi, hz, hq, sizeOf, Sem.run_pure, Result.andThen_ok, run_underlying hu, hf]
  ·cases h
 ·cases h
section
variable {P : Program} {Q : Exit → Act → World → Prop} {a : Act} {w w0 : World} {c : Code} {n : Nat} {m : List (Nat × Value)} {D A : Nat → Prop} {L R : List Ent}
end
theorem KX {P : Program} {t : TypeId} (h : bM P t = 2) : ∃ k, P.underlying t = some (.int k) := by
 unfold bM at h
 split at h <;> first | exact ⟨_, by assumption⟩ | (exfalso; revert h; decide)
theorem yu {P : Program} {w : World} {t : TypeId} {cs : Array Value} {off : Nat} {v : Value} (ht : kq P t = true) (h : cs[off]? = some v) : (part t cs off).run P w = .ok v w := by
 unfold part
 rw [Sem.run_bind, Ap ht]
 simp [h]
section
variable {P : Program} {ρ : Operand → Value} {w0 w : World} {D A : Nat → Prop} {L R : List Ent}
theorem qz {α : Type} (F : Flat α) (l : List α) (i : Nat) (x : α) (h : i < l.length) : (l.set i x).flatMap F.cells = (l.flatMap F.cells).take (i * F.sz) ++ F.cells x ++ (l.flatMap F.cells).drop (i * F.sz + F.sz) := by
 have e : i * F.sz + F.sz = (i + 1) * F.sz := by rw [Nat.add_mul]; omega
 rw [e, CO, oC, List.set_eq_take_append_cons_drop, if_pos h, List.flatMap_append, List.flatMap_cons, List.append_assoc]
theorem Hy {α : Type} {F : Flat α} {l : List α} {li e n off : Nat} {i : Int} {t : TypeId} {v : Value} {us : List Value} {x y : Operand} {x' : α} (C : Ctx w0 D A L R w)
 (hL : L[li]? = some (io v e F.sz n (l.flatMap F.cells))) (hn : n = l.length) (hx : ρ x = .pointer (some ((il v (i.toNat * F.sz)).add off))) (h0 : 0 ≤ i) (h1 : i < l.length)
 (hy : (ρ y).cells.toList = us) (h2 : us.all (·.oneCell') = true) (ho' : Nat.ble (off + us.length) F.sz = true) (hs : kT P t us.length = true) (hc : dq (F.cells (l.getD i.toNat F.dflt)) off us = F.cells x') :
 Eff P ρ (.store t x y) w (fun v' w' => v' = undef ∧ Ctx w0 D A (L.set li (io v e F.sz (l.set i.toNat x').length ((l.set i.toNat x').flatMap F.cells))) R w') := by
 subst hn
 have ho : off + us.length ≤ F.sz := Nat.le_of_ble_eq_true ho'
 have hown : w.ownsRow 0 e F.sz v l.length (l.flatMap F.cells) := C.okL li _ hL
 have hi : i.toNat < l.length := by omega
 rcases hown.2 with ⟨rfl, h⟩ | ⟨g, cap, cur, rfl, hb, hg, hnc, hcm, hcs, htk⟩
 ·omega
 ·have hz : (ρ y).cells.size = us.length := by rw [← hy]; simp
  have hsz : i.toNat * F.sz + F.sz ≤ l.length * F.sz := by
   have : (i.toNat + 1) * F.sz ≤ l.length * F.sz := Nat.mul_le_mul_right _ hi
   rw [Nat.add_mul] at this; omega
  have hcap : l.length * F.sz ≤ cur.size := by rw [hcs]; exact Nat.mul_le_mul_right _ hnc
  have hst := run_storeCells_at P g (i.toNat * F.sz + off) e us 0 cur w hg (by omega) (by simpa using h2)
  have ha : (il (.slice (some ⟨g, 0, none⟩) l.length cap) (i.toNat * F.sz)).add off = ⟨g, i.toNat * F.sz + off, none⟩ := by
   simp only [il]; rw [bG, bG, Nat.zero_add]
  have hwhole : cur.toList.take (i.toNat * F.sz + off) ++ us ++ cur.toList.drop (i.toNat * F.sz + off + us.length) =
   (cur.toList.take (i.toNat * F.sz) ++ F.cells x' ++ cur.toList.drop (i.toNat * F.sz + F.sz)) := by
   have hel : F.cells (l.getD i.toNat F.dflt) = (cur.toList.drop (i.toNat * F.sz)).take F.sz := by
    have h3 : (l.drop i.toNat).flatMap F.cells = (cur.toList.take (l.length * F.sz)).drop (i.toNat * F.sz) := by rw [htk, oC]
    have h4 : l.drop i.toNat = l.getD i.toNat F.dflt :: l.drop (i.toNat + 1) := by
     rw [List.drop_eq_getElem_cons hi]; congr 1; simp [List.getD, hi]
    rw [h4, List.flatMap_cons] at h3
    have h5 := congrArg (List.take F.sz) h3
    rw [List.take_append_of_le_length (by rw [F.len]; exact Nat.le_refl _), List.take_of_length_le (by rw [F.len]; exact Nat.le_refl _)] at h5
    rw [h5, List.drop_take, List.take_take]
    congr 1
    omega
   rw [← hc, hel]
   unfold dq
   rw [List.take_take, Nat.min_eq_left (by omega), List.drop_take, List.drop_drop]
   have e1 : cur.toList.take (i.toNat * F.sz + off) = cur.toList.take (i.toNat * F.sz) ++ (cur.toList.drop (i.toNat * F.sz)).take off := by
    rw [List.take_add]
   have e2 : cur.toList.drop (i.toNat * F.sz + off + us.length) = (cur.toList.drop (i.toNat * F.sz + (off + us.length))).take (F.sz - (off + us.length)) ++ cur.toList.drop (i.toNat * F.sz + F.sz) := by
    conv => lhs; rw [show i.toNat * F.sz + off + us.length = i.toNat * F.sz + (off + us.length) by omega, ← List.take_append_drop (F.sz - (off + us.length)) (cur.toList.drop (i.toNat * F.sz + (off + us.length)))]
    rw [List.drop_drop]
    congr 2
    omega
   rw [e1, e2]
   simp only [List.append_assoc]
  refine tQ (w' := w.setRow g (cur.toList.take (i.toNat * F.sz) ++ F.cells x' ++ cur.toList.drop (i.toNat * F.sz + F.sz)).toArray) ?_ ?_
  ·intro o ho'
   unfold kT at hs
   cases hq : P.info? t with
   | none => simp [hq] at hs
   | some q =>
     have hs' : q.size = us.length := by simpa [hq] using hs
     simp only [Nat.add_zero] at hst
     rw [ha] at hx
     rw [← hwhole]
     simp [execOp, ho', Instr.storeAt, hx, Instr.sureAddr, storeVar, sizeOf, typeInfo, hq, hs', hz, hy, hst]
  ·refine ⟨rfl, qr C hL ((gB w g _).mono (fun x hx => by subst hx; rfl)) ?_ (fun x h => .inl h)⟩
   have hl : (l.set i.toNat x').length = l.length := by simp
   rw [hl]
   refine ⟨by rw [gR, hl], .inr ⟨g, cap, _, rfl, Nat.zero_le _, setRow_heap w g cur _ e _ hg, hnc, hcm, ?_, ?_⟩⟩
   ·simp only [List.size_toArray, List.length_append, List.length_take, List.length_drop, Array.length_toList, F.len]
    omega
   ·rw [qz F l i.toNat x' hi, ← htk]
    simp only [List.toList_toArray, List.append_assoc]
    have e1 : (cur.toList.take (i.toNat * F.sz)).take (l.length * F.sz) = cur.toList.take (i.toNat * F.sz) := by rw [List.take_take, Nat.min_eq_right (by omega)]
    have e2 : (cur.toList.take (l.length * F.sz)).take (i.toNat * F.sz) = cur.toList.take (i.toNat * F.sz) := by rw [List.take_take, Nat.min_eq_left (by omega)]
    have e3 : (F.cells x').take (l.length * F.sz - i.toNat * F.sz) = F.cells x' := List.take_of_length_le (by rw [F.len]; omega)
    rw [List.take_append, e1, e2, List.length_take, Nat.min_eq_left (by simp; omega), List.take_append, F.len, e3, List.drop_take, Nat.sub_sub]
end
def sAt (s : ByteArray) (i : Int) : Int := ((s.data.toList.getD i.toNat 0).toNat : Int)
section
variable {P : Program} {ρ : Operand → Value} {w0 w : World} {D A : Nat → Prop} {L R : List Ent}
theorem LS (s : ByteArray) (i : Nat) (h : i < s.size) : s[i]? = some (s.data.toList.getD i 0) := by
 have h' : i < s.data.size := h
 have e : s[i]? = some s[i] := by simp [h]
 rw [e]
 congr 1
 show s.data[i] = _
 simp [List.getD]
 rw [Array.getElem?_eq_getElem h']; rfl
theorem JY {t : TypeId} {x y : Operand} {s : ByteArray} {k : IntKind} {i : Int} (hx : ρ x = .string s) (hy : ρ y = .int k i) (h0 : 0 ≤ i) (h1 : i < s.size) (ht : (bM P t == 3) = true) :
 cV P ρ (.index t x y) w (.int .u8 (sAt s i)) w := by
 intro o ho
 have hu := BH (by simpa using ht : bM P t = 3)
 have hg := LS s i.toNat (by omega)
 simp only [execOp, ho, Instr.index, hx, hy, asIntOf, Sem.run_bind, Sem.run_pure, Result.andThen_ok, run_underlying hu, if_pos h0, hg]
 rfl
theorem JZ {t : TypeId} {x : Operand} {lo hi : Option Operand} {s : ByteArray} {l h : Nat} (hx : ρ x = .string s) (ht : (bM P t == 3) = true)
 (hh : jt (hi.map ρ) s.size = some h) (hl : kr (lo.map ρ) h = some l) : cV P ρ (.slice t x lo hi none) w (.string (s.extract l h)) w := by
 intro o ho
 have hu := BH (by simpa using ht : bM P t = 3)
 have hb : (Instr.sliceBounds false s.size s.size (lo.map ρ) (hi.map ρ) none).run P w = .ok (l, h, s.size) w := by
  revert hh hl
  cases hi.map ρ with
  | none =>
    intro hh hl
    simp only [jt, Option.some.injEq] at hh
    subst hh
    revert hl
    cases lo.map ρ with
    | none => intro hl; simp only [kr, Option.some.injEq] at hl; subst hl; simp [Instr.sliceBounds]
    | some v =>
      intro hl
      cases v <;> simp only [kr] at hl <;> (try (cases hl; done))
      split at hl <;> (try (cases hl; done))
      rename_i hb
      cases hl
      simp [Instr.sliceBounds, bY hb]
  | some u =>
    intro hh hl
    cases u <;> simp only [jt] at hh <;> (try (cases hh; done))
    split at hh <;> (try (cases hh; done))
    rename_i ku iu hu
    cases hh
    revert hl
    cases lo.map ρ with
    | none => intro hl; simp only [kr, Option.some.injEq] at hl; subst hl; simp [Instr.sliceBounds, bY hu]
    | some v =>
      intro hl
      cases v <;> simp only [kr] at hl <;> (try (cases hl; done))
      split at hl <;> (try (cases hl; done))
      rename_i hb
      cases hl
      simp [Instr.sliceBounds, bY hu, bY hb]
 simp [execOp, ho, Instr.sliceAt, Instr.slice, run_underlying hu, hx, hb]
def nr (P : Program) (src dst : TypeId) : Bool :=
 match P.underlying src, P.underlying dst with
 | some (.slice e), some .string => match P.underlying e with
   | some (.int .u8) => true
   | _ => false
 | _, _ => false
theorem Et {src dst : TypeId} {x : Operand} {v : Value} {n : Nat} {l : List Int} (hr : Rds v n 1 (l.flatMap (FK .u8).cells) w) (hn : n = l.length) (hx : ρ x = v) (ht : nr P src dst = true) :
 cV P ρ (.convert src dst x) w (.string (strOfNums l)) w := by
 subst hn
 intro o ho
 unfold nr at ht
 split at ht
 ·rename_i e hs hd
  split at ht
  ·rename_i he
   obtain ⟨hl, ao, c, rfl, h1, h2, h3, h4⟩ := hr
   have hfm : l.flatMap (FK .u8).cells = l.map (Value.int .u8) := by
    clear hl h1 h2 h3 h4 hs hd he ho hx
    induction l with
    | nil => rfl
    | cons a l ih => rw [List.flatMap_cons, ih]; rfl
   rw [hfm] at h4
   cases ao with
   | none =>
     have := h3 rfl
     have : l = [] := List.eq_nil_of_length_eq_zero (by omega)
     subst this
     have h := run_convert_bytes_nil (P := P) w src e hs he 0 c dst hd
     simp only [execOp, ho, hx, Sem.run_bind]
     have hz : ([] : List Int).length = 0 := rfl
     rw [hz, h]
     rfl
   | some ad =>
     have hld : (loadCells ad l.length).run P w = .ok (l.map (Value.int .u8)).toArray w := by
      have := run_loadCells_list (P := P) w ad (l.map (Value.int .u8)) (fun j u hu => by obtain ⟨ad', ha, hc⟩ := h4 j u hu; cases ha; exact hc)
      simpa using this
     have h := run_bytesToString (P := P) w ad l.length c l hld
     simp only [execOp, ho, hx, Sem.run_bind, run_convert_bytes_string (P := P) w src dst e _ _ _ hs he hd, h, Result.andThen_ok, Sem.run_pure]
     congr 3
     rw [foldl_push_bytes]
     show (⟨#[] ++ _⟩ : ByteArray) = strOfNums l
     rw [Array.empty_append]; rfl
  ·cases ht
 ·cases ht
theorem Eu {α : Type} {F : Flat α} {t e bytes : Nat} {k k' : IntKind} {n : Int} {z : Value} {x y : Operand} (C : Ctx w0 D A L R w) (hx : ρ x = .int k n) (hy : ρ y = .int k' n)
 (ht : bp P t = some (e, F.sz, bytes, some z)) (hz : z.cells.toList = F.cells F.dflt) (h0 : 0 ≤ n) (hb : n.toNat * bytes ≤ 281474976710656) (h63 : n ≤ 9223372036854775807) :
 Eff P ρ (.makeSlice t x y) w (fun v w' => Ctx w0 D A (L ++ [io v e F.sz (List.replicate n.toNat F.dflt).length ((List.replicate n.toNat F.dflt).flatMap F.cells)]) R w') := by
 unfold bp at ht
 split at ht
 ·rename_i e' hu
  obtain ⟨i, hi, hh⟩ := Option.map_eq_some_iff.1 ht
  simp only [Prod.mk.injEq] at hh
  obtain ⟨rfl, hsz, rfl, hzero⟩ := hh
  have hr := run_make (P := P) w t e' i z hu hi hzero k k' n n h0 (Int.le_refl _) (by
   have : ((i.bytes * n.toNat : Nat) : Int) ≤ 281474976710656 := by rw [Nat.mul_comm]; exact Int.ofNat_le.2 hb
   rw [Int.natCast_mul] at this
   rwa [Int.toNat_of_nonneg h0] at this) h63
  refine cn (v := .slice (some ⟨w.heap.size, 0, none⟩) n.toNat n.toNat) (w' := w.alloc (.cells (madeCells z.cells (n.toNat * i.size)) e')) ?_ ?_
  ·intro o ho
   simp only [execOp, ho, hx, hy, Sem.run_bind, hr, Result.andThen_ok, Sem.run_pure]
  ·have hcells : madeCells z.cells (n.toNat * i.size) = ((List.replicate n.toNat F.dflt).flatMap F.cells).toArray := by
    rw [hsz]
    apply Array.ext
    ·rw [size_madeCells, List.size_toArray, gR, List.length_replicate]
    ·intro j h1 h2
     have h1' : j < n.toNat * F.sz := by simpa [size_madeCells] using h1
     have hp : 0 < F.sz := by
      rcases Nat.eq_zero_or_pos F.sz with h | h
      ·rw [h] at h1'; simp at h1'
      ·exact h
     have hdiv : j / F.sz < n.toNat := (Nat.div_lt_iff_lt_mul hp).2 h1'
     have hmod : j % F.sz < F.sz := Nat.mod_lt _ hp
     have hg := yp F (List.replicate n.toNat F.dflt) (j / F.sz) (j % F.sz) (by simpa using hdiv) hmod
     rw [Nat.div_add_mod' j F.sz] at hg
     have e1 : (List.replicate n.toNat F.dflt).getD (j / F.sz) F.dflt = F.dflt := by simp [List.getD, hdiv]
     rw [e1] at hg
     have hzs : z.cells.size = F.sz := by rw [← F.len F.dflt, ← hz]; simp
     have hzc : z.cells[j % F.sz]! = (F.cells F.dflt)[j % F.sz]'(by rw [F.len]; exact hmod) := by
      have : z.cells = (F.cells F.dflt).toArray := by rw [← hz]
      simp [this, F.len, hmod]
     have hl : (madeCells z.cells (n.toNat * F.sz))[j]'h1 = z.cells[j % F.sz]! := by simp [madeCells, hzs]
     rw [hl, hzc]
     have h3 : (((List.replicate n.toNat F.dflt).flatMap F.cells).toArray)[j]? = some ((F.cells F.dflt)[j % F.sz]'(by rw [F.len]; exact hmod)) := by
      rw [List.getElem?_toArray, hg, List.getElem?_eq_getElem]
     exact (Array.getElem_eq_iff.2 h3).symm
   rw [hcells]
   refine tx C (Fr.alloc w _) ?_ (fun b hb => by simp [io, Value.ownBlock] at hb; omega)
   have hn : (List.replicate n.toNat F.dflt).length = n.toNat := List.length_replicate
   rw [hn]
   exact World.ownsRow_lit w _ n.toNat (Nat.zero_le _) (by simp only [maxLen]; omega) (by rw [List.size_toArray]; exact (gR F (List.replicate n.toNat F.dflt)).trans (by rw [hn]))
 ·cases ht
end
def kw (P : Program) (t : TypeId) (cs : List Value) (off : Nat) : Option Value :=
 if kq P t then cs[off]? else if bM P t == 5 || bM P t == 6 then (P.info? t).map fun i => .agg ((cs.drop off).take i.size).toArray else none
def Aw (P : Program) (cmp : TypeId → Value → Value → Option Bool) (xs ys : List Value) : List Field → Option Bool
 | [] => some true
 | f :: fs => if f.name == "_" then none else match kw P f.type xs f.offset, kw P f.type ys f.offset with
   | some a, some b => match cmp f.type a b, Aw P cmp xs ys fs with
     | some e, some r => some (e && r)
     | _, _ => none
   | _, _ => none
def Ax (P : Program) (cmp : TypeId → Value → Value → Option Bool) (e : TypeId) (c : Nat) (xs ys : List Value) : List Nat → Option Bool
 | [] => some true
 | i :: is => match kw P e xs (i * c), kw P e ys (i * c) with
   | some a, some b => match cmp e a b, Ax P cmp e c xs ys is with
     | some e, some r => some (e && r)
     | _, _ => none
   | _, _ => none
def eqV (P : Program) : Nat → TypeId → Value → Value → Option Bool
 | 0, _, _, _ => none
 | d + 1, t, x, y => match bM P t, P.underlying t, x, y with
   | 2, _, .int k a, .int k' b => if k = k' then some (a == b) else none
   | 1, _, .bool a, .bool b => some (a == b)
   | 3, _, .string a, .string b => some (a.toList == b.toList)
   | _, some (.struct fs), .agg xs, .agg ys => if P.stoodInHeld t then none else Aw P (eqV P d) xs.toList ys.toList fs.toList
   | _, some (.array n e), .agg xs, .agg ys => if (P.info? e).isSome then Ax P (eqV P d) e (P.cellsOf e) xs.toList ys.toList (List.range n) else none
   | _, _, _, _ => none
section
variable {P : Program} {w : World}
theorem lB {t : TypeId} {cs : Array Value} {off : Nat} {v : Value} (h : kw P t cs.toList off = some v) : (part t cs off).run P w = .ok v w := by
 unfold kw at h
 split at h
 ·rename_i hs
  exact yu hs (by simpa using h)
 ·split at h
  ·rename_i hs hr
   obtain ⟨i, hi, rfl⟩ := Option.map_eq_some_iff.1 h
   have hagg : (isAgg t).run P w = .ok true w := by
    unfold bM at hr
    unfold isAgg
    cases hu : P.underlying t with
    | none => simp [hu] at hr
    | some d => rw [Sem.run_bind, run_underlying hu w]; cases d <;> simp_all
   unfold part
   rw [Sem.run_bind, hagg]
   simp only [Result.andThen_ok, if_true, Sem.run_bind, sizeOf, typeInfo, run_program, hi, Sem.run_pure]
   congr 2
   apply Array.toList_inj.1
   simp [Array.toList_extract, List.extract_eq_take_drop]
  ·cases h
theorem BP : ∀ (d : Nat) (t : TypeId) (x y : Value) (r : Bool), eqV P d t x y = some r → ∀ m, d ≤ m → (Op.equalIn m t x y).run P w = .ok r w
 | 0, _, _, _, _, h => by simp [eqV] at h
 | d + 1, t, x, y, r, h => by
   intro m hm
   obtain ⟨m, rfl⟩ : ∃ q, m = q + 1 := ⟨m - 1, by omega⟩
   have ih := fun t x y r h => BP d t x y r h m (by omega)
   simp only [eqV] at h
   split at h
   ·rename_i h2
    split at h
    ·rename_i hk
     subst hk
     cases h
     obtain ⟨kk, hu⟩ := KX h2
     exact run_equalIn_int w m t _ kk _ _ hu
    ·cases h
   ·rename_i h2; cases h; exact run_equalIn_bool' w m t _ _ (Iu h2)
   ·rename_i h2; cases h; exact run_equalIn_string w m t _ _ (BH h2)
   ·rename_i fs xs ys hu
    split at h
    ·cases h
    ·rename_i hst
     have hf : P.fieldsOf t = fs := by simp [Program.fieldsOf, hu]
     rw [run_equalIn_struct (P := P) w m t _ _ (by rw [hf]; exact hu) (by simpa using hst), hf]
     have key : ∀ (fs : List Field) (r : Bool), Aw P (eqV P d) xs.toList ys.toList fs = some r → (Op.eqFields m xs ys fs).run P w = .ok r w := by
      intro fs
      induction fs with
      | nil => intro r h; simp [Aw] at h; subst h; simp [Op.eqFields]
      | cons f fs ihf =>
        intro r h
        simp only [Aw] at h
        split at h
        ·cases h
        ·rename_i hn
         have hn' : f.name ≠ "_" := by simpa using hn
         split at h
         ·rename_i a b ha hb
          split at h
          ·rename_i e s he hs
           cases h
           rw [Op.eqFields]
           simp only [if_pos hn', Sem.run_bind, lB (w := w) ha, lB (w := w) hb, ih _ _ _ _ he, Result.andThen_ok]
           cases e
           ·simp
           ·simpa using ihf s hs
          ·cases h
         ·cases h
     exact key fs.toList r h
   ·rename_i n e xs ys hu
    split at h
    ·rename_i hi
     obtain ⟨i, hi⟩ := Option.isSome_iff_exists.1 hi
     rw [run_equalIn_array w m xs ys hu hi]
     have key : ∀ (is : List Nat) (r : Bool), Ax P (eqV P d) e (P.cellsOf e) xs.toList ys.toList is = some r → (Op.eqItems m e (P.cellsOf e) xs ys is).run P w = .ok r w := by
      intro is
      induction is with
      | nil => intro r h; simp [Ax] at h; subst h; simp [Op.eqItems]
      | cons j is ihf =>
        intro r h
        simp only [Ax] at h
        split at h
        ·rename_i a b ha hb
         split at h
         ·rename_i q s he hs
          cases h
          rw [Op.eqItems]
          simp only [Sem.run_bind, lB (w := w) ha, lB (w := w) hb, ih _ _ _ _ he, Result.andThen_ok]
          cases q
          ·simp
          ·simpa using ihf s hs
         ·cases h
        ·cases h
     exact key _ r h
    ·cases h
   ·cases h
variable {ρ : Operand → Value}
theorem KY {op : BinOp} {t t' : TypeId} {x y : Operand} {xs ys : List Value} {r s : Bool} (hx : ρ x = .agg xs.toArray) (hy : ρ y = .agg ys.toArray) (hg : P.eqGuardType P.depth t = false)
 (h : eqV P 12 t (.agg xs.toArray) (.agg ys.toArray) = some r) (hs : (match op with | .eql => some r | .neq => some (!r) | _ => none) = some s) : cV P ρ (.binOp op t x y t') w (.bool s) w := by
 intro o ho
 have he : (Op.equalIn 10000 t (.agg xs.toArray) (.agg ys.toArray)).run P w = .ok r w := BP 12 t _ _ r h 10000 (by omega)
 have hgd := run_eqGuard_agg (P := P) w op t x y xs.toArray ys.toArray hg
 cases op <;> simp only at hs <;> (try (cases hs; done)) <;> cases hs
 ·simp only [execOp, ho, hx, hy, Sem.run_bind, hgd, Result.andThen_ok, run_eql_struct, he, Sem.run_pure]
 ·simp only [execOp, ho, hx, hy, Sem.run_bind, hgd, Result.andThen_ok, run_neq_struct, he, Sem.run_pure]
end
def arL {α : Type} (d : α) (n : Nat) (v : Vector α n) : List α := (List.range n).map fun i => v.toArray.getD i d
def FA {α : Type} (F : Flat α) (n : Nat) : Flat (Vector α n) :=
 ⟨n * F.sz, fun v => (arL F.dflt n v).flatMap F.cells, Vector.replicate n F.dflt, fun v => by rw [gR]; simp [arL], fun v u hu => tX F _ u hu⟩
theorem ua {α : Type} (d : α) (n : Nat) (v : Vector α n) : arL d n v = v.toList := by
 apply List.ext_getElem
 ·simp [arL]
 ·intro i h1 h2
  have h : i < n := by simpa [arL] using h1
  simp [arL, Array.getD, h]
def vAt {α : Type} (d : α) {n : Nat} (v : Vector α n) (i : Int) : α := v.toArray.getD i.toNat d
def dG {α : Type} {n : Nat} (v : Vector α n) (i : Int) (x : α) : Vector α n := v.setIfInBounds i.toNat x
theorem Hz {α : Type} (d : α) (n : Nat) (v : Vector α n) (i : Int) (x : α) : arL d n (dG v i x) = (arL d n v).set i.toNat x := by
 rw [ua, ua]; simp [dG]
section
variable {ro : Option Nat} {P : Program} {Q : Exit → Act → World → Prop} {a : Act} {w w0 : World} {c : Code} {n : Nat} {m : List (Nat × Value)} {D A : Nat → Prop} {L R : List Ent} {ρ : Operand → Value}
inductive Cells (w : World) : List (Nat × Value) → Prop where
 | nil : Cells w []
 | cons {b : Nat} {u : Value} {bx : List (Nat × Value)} : w.cell? ⟨b, 0, none⟩ = some u → Cells w bx → Cells w ((b, u) :: bx)
theorem Cells.get {w : World} : ∀ {bx : List (Nat × Value)}, Cells w bx → ∀ b u, gQ bx b = some u → w.cell? ⟨b, 0, none⟩ = some u
 | _, .nil, _, _, h => by simp [gQ] at h
 | _, .cons (b := b') (u := u') h1 h2, b, u, h => by
   simp only [gQ] at h
   by_cases e : b' = b
   ·subst e; rw [if_pos (by simp)] at h; cases h; exact h1
   ·rw [if_neg (by simpa using e)] at h; exact h2.get b u h
theorem KZ {op : BinOp} {t t' : TypeId} {x y : Operand} {k k' : IntKind} {p q : Int} {v : Value} (hx : ρ x = .int k p) (hy : ρ y = .int k' q) (hq : 0 ≤ q)
 (hv : (match op with | .shl => some (Value.int k (cq k p q)) | .shr => some (Value.int k (cW k p q)) | _ => none) = some v) : cV P ρ (.binOp op t x y t') w v w := by
 have hn : ¬ q < 0 := by omega
 cases op <;> simp only at hv <;> (try (cases hv; done)) <;> cases hv <;> exact aE (by simp only [dF, hx, hy, ly, if_neg hn]; rfl) w
theorem J0 {t : TypeId} {x y : Operand} {b off n sz : Nat} {k : IntKind} {i : Int} (hx : ρ x = .pointer (some ⟨b, off, none⟩)) (hy : ρ y = .int k i) (h0 : 0 ≤ i) (h1 : i < n) (ht : arrAt? P t = some (n, sz)) :
 cV P ρ (.indexAddr t x y) w (.pointer (some ⟨b, off + i.toNat * sz, none⟩)) w :=
 aE (by simp only [dF, hx, hy, ht]; rw [if_pos ⟨h0, h1⟩, bG]) w
theorem Ev {α : Type} (F : Flat α) {n : Nat} (vec : Vector α n) (i : Int) (h0 : 0 ≤ i) (h1 : i < n) (off : Nat) (h2 : off < F.sz) : ((FA F n).cells vec)[i.toNat * F.sz + off]? = (F.cells (vAt F.dflt vec i))[off]? := by
 have h := yp F (arL F.dflt n vec) i.toNat off (by simp [arL]; omega) h2
 have e : (arL F.dflt n vec).getD i.toNat F.dflt = vAt F.dflt vec i := by
  have hi : i.toNat < n := by omega
  simp [arL, vAt, List.getD, hi]
 rw [e] at h
 exact h
theorem K0 {α : Type} {F : Flat α} {n li b off : Nat} {T t : TypeId} {cs : List Value} {vec : Vector α n} {i : Int} {x : Operand} {u : Value} (C : Ctx w0 D A L R w) (hL : L[li]? = some (dJ false b T cs))
 (hc : (cs.drop off).take (n * F.sz) = (FA F n).cells vec) (hx : ρ x = .pointer (some ⟨b, off + i.toNat * F.sz, none⟩)) (h0 : 0 ≤ i) (h1 : i < n) (hu : F.cells (vAt F.dflt vec i) = [u]) (ht : kq P t = true) :
 cV P ρ (.load t x) w u w := by
 have hs : F.sz = 1 := by rw [← F.len (vAt F.dflt vec i), hu]; rfl
 have hg := Ev F vec i h0 h1 0 (by omega)
 rw [← hc, hu, List.getElem?_take] at hg
 have hlt : i.toNat * F.sz + 0 < n * F.sz := by rw [hs]; omega
 rw [if_pos hlt, List.getElem?_drop] at hg
 exact tW hx ((cell_of_row w b _ cs.toArray T (0, 0) (C.okL li _ hL)).trans (by simpa using hg)) ht
theorem HA {α : Type} {F : Flat α} {n li b off : Nat} {T t : TypeId} {cs cs' : List Value} {vec : Vector α n} {i : Int} {x y : Operand} {x' : α} (C : Ctx w0 D A L R w) (hL : L[li]? = some (dJ false b T cs))
 (hc : (cs.drop off).take (n * F.sz) = (FA F n).cells vec) (hx : ρ x = .pointer (some ⟨b, off + i.toNat * F.sz, none⟩)) (h0 : 0 ≤ i) (h1 : i < n) (hy : (ρ y).cells.toList = F.cells x') (hs : kT P t F.sz = true)
 (hc' : cs.take off ++ ((FA F n).cells (dG vec i x') ++ cs.drop (off + n * F.sz)) = cs') (hp : 0 < F.sz) :
 Eff P ρ (.store t x y) w (fun v' w' => v' = undef ∧ Ctx w0 D A (L.set li (dJ false b T cs')) R w') := by
 have hi : i.toNat < n := by omega
 have hlen : ((FA F n).cells vec).length = n * F.sz := (FA F n).len vec
 have hmul : (i.toNat + 1) * F.sz ≤ n * F.sz := Nat.mul_le_mul_right _ hi
 rw [Nat.add_mul, Nat.one_mul] at hmul
 have hle : n * F.sz ≤ cs.length - off := by
  rw [← hc, List.length_take, List.length_drop] at hlen; omega
 ·have hset : (FA F n).cells (dG vec i x') = ((FA F n).cells vec).take (i.toNat * F.sz) ++ F.cells x' ++ ((FA F n).cells vec).drop (i.toNat * F.sz + F.sz) := by
   have := qz F (arL F.dflt n vec) i.toNat x' (by simp [arL]; omega)
   rw [← Hz] at this
   exact this
  refine BN (us := F.cells x') C hL hx hy (by simp only [List.all_eq_true]; exact F.one x') (by rw [F.len]; have := Nat.mul_pos (show 0 < n by omega) hp; omega) (by rw [F.len]; exact hs) ?_
  rw [← hc', hset, ← hc, dq, F.len]
  have e1 : cs.take (off + i.toNat * F.sz) = cs.take off ++ (cs.drop off).take (i.toNat * F.sz) := List.take_add
  have e2 : cs.drop (off + i.toNat * F.sz + F.sz) = ((cs.drop off).take (n * F.sz)).drop (i.toNat * F.sz + F.sz) ++ cs.drop (off + n * F.sz) := by
   rw [List.drop_take, List.drop_drop]
   conv => lhs; rw [show off + i.toNat * F.sz + F.sz = off + (i.toNat * F.sz + F.sz) by omega, ← List.take_append_drop (n * F.sz - (i.toNat * F.sz + F.sz)) (cs.drop (off + (i.toNat * F.sz + F.sz)))]
   rw [List.drop_drop]
   congr 2; omega
  have e3 : ((cs.drop off).take (n * F.sz)).take (i.toNat * F.sz) = (cs.drop off).take (i.toNat * F.sz) := by rw [List.take_take, Nat.min_eq_left (by omega)]
  rw [e1, e2, e3]
  simp only [List.append_assoc]
theorem J1 {α : Type} {F : Flat α} {n : Nat} {t : TypeId} {vec : Vector α n} {k : IntKind} {i : Int} {x y : Operand} {u : Value} (hx : ρ x = .agg ((FA F n).cells vec).toArray) (hy : ρ y = .int k i) (h0 : 0 ≤ i) (h1 : i < n)
 (ht : arrAt? P t = some (n, F.sz)) (hs : (match P.underlying t with | some (.array _ e) => kq P e | _ => false) = true) (hu : F.cells (vAt F.dflt vec i) = [u]) : cV P ρ (.index t x y) w u w := by
 intro o ho
 have hsz : F.sz = 1 := by rw [← F.len (vAt F.dflt vec i), hu]; rfl
 have hg := Ev F vec i h0 h1 0 (by omega)
 rw [hu] at hg
 unfold arrAt? at ht
 split at ht
 ·rename_i nn e hun
  obtain ⟨q, hq, hh⟩ := Option.map_eq_some_iff.1 ht
  simp only [Prod.mk.injEq] at hh
  obtain ⟨rfl, hqs⟩ := hh
  rw [hun] at hs
  simp only [execOp, ho, Instr.index, hx, hy, asIntOf, Sem.run_bind, Sem.run_pure, Result.andThen_ok, run_underlying hun]
  rw [if_pos ⟨h0, h1⟩]
  simp only [Sem.run_bind, sizeOf, typeInfo, run_program, hq, Sem.run_pure, Result.andThen_ok, hqs]
  rw [yu (v := u) hs (by simpa using hg)]
  rfl
 ·cases ht
end
def frB (ops : Array Oper) (j i : Nat) : Bool := !(onB ops j i || (List.range ops.size).any fun m => onB ops j m && onB ops m i)
section
variable {P : Program} {ops : Array Oper} {Q : Exit → Act → World → Prop}
def wpE (P : Program) (ops : Array Oper) (Q : Exit → Act → World → Prop) (S : Nat → World → Prop) (q : Nat) : Nat → Array Bool → Act → World → Prop
 | 0, listed, a, w => Region.ready .any ops listed = [] ∧ Q .normal a w
 | fuel + 1, listed, a, w => (Region.ready .any ops listed = [] → Q .normal a w) ∧
   ∀ i ∈ Region.ready .any ops listed, wpOp P ops Q i (fun a' w' => (i = q ∨ ∀ x, frB ops i x = true → S x w → S x w') ∧ wpE P ops Q S q fuel (listed.setIfInBounds i true) a' w') a w
theorem BQ {S : Nat → World → Prop} {q : Nat} : ∀ (fuel : Nat) (listed : Array Bool) (a : Act) (w : World), wpE P ops Q S q fuel listed a w → wpAny P .any ops Q fuel listed a w
 | 0, _, _, _, h => h
 | fuel + 1, _, _, _, h => ⟨h.1, fun i hi => wpOp_mono (fun a' w' h' => BQ fuel _ a' w' h'.2) (h.2 i hi)⟩
theorem ub {listed : Array Bool} {j m : Nat} {oj : Oper} (hoj : ops[j]? = some oj) (hall : ∀ e ∈ oj.after, Region.binds .any e = true → listed.getD e.on false = true) (h : onB ops j m = true) : listed.getD m false = true := by
 unfold onB at h
 have e : ops.toList[j]? = some oj := by simpa using hoj
 rw [e] at h
 simp only [Option.map_some, Option.getD_some, List.any_eq_true, Bool.and_eq_true, beq_iff_eq] at h
 obtain ⟨ed, hm, hb, ho⟩ := h
 have h1 := hall ed (by simpa using hm) hb
 rwa [ho] at h1
theorem Ew {listed : Array Bool} (hcl : kS ops listed) {i j : Nat} (hi : i ∈ Region.ready .any ops listed) (hj : j ∈ Region.ready .any ops listed) : frB ops j i = true := by
 obtain ⟨hjun, oj, hoj, hall⟩ := mem_ready.1 hj
 have h0 := (mem_ready.1 hi).1
 have no : listed.getD i false = true → False := fun h1 => by
  rcases Nat.lt_or_ge i listed.size with h' | h'
  ·simp [h'] at h0 h1; rw [h0] at h1; cases h1
  ·simp [Array.getElem?_eq_none h'] at h1
 unfold frB
 rw [Bool.not_eq_true', Bool.or_eq_false_iff]
 constructor
 ·rw [← Bool.not_eq_true]
  intro h
  exact no (ub hoj hall h)
 ·rw [← Bool.not_eq_true]
  intro h
  simp only [List.any_eq_true, List.mem_range, Bool.and_eq_true] at h
  obtain ⟨m, _, h1, h2⟩ := h
  exact no (oB hcl (ub hoj hall h1) h2)
theorem yw {S : Nat → World → Prop} {q i : Nat} {oi : Oper} {v : Value} (hl : lA ops q = true) (hi : ops[i]? = some oi) (hs : Region.noSelect ops = true)
 (hQ : ∀ c a w, Q (.panic c) (a.put oi.dst v) w → Q (.panic c) a w) :
 ∀ (fuel : Nat) (listed : Array Bool) (a : Act) (w : World), kS ops listed →
  (∀ j oj, ops[j]? = some oj → j ≠ i → listed.getD j true = false → (∀ e ∈ oj.after, Region.binds .any e = true → e.on ≠ i) → oi.apart ops oj = true) →
  i ∈ Region.ready .any ops listed → YieldsIf P ops (S i) oi v a → S i w →
  wpE P ops Q S q fuel (listed.setIfInBounds i true) (a.put oi.dst v) w → wpE P ops Q S q (fuel + 1) listed a w := by
 have hsel := Region.noSelect_spec hs
 intro fuel
 induction fuel with
 | zero =>
   intro listed a w hcl _ hr hy hS H
   refine ⟨fun h => (by rw [h] at hr; cases hr), fun j hj => ?_⟩
   by_cases hji : j = i
   ·subst hji; exact hy.wpOp hi hS ⟨.inr fun _ _ h => h, H⟩
   ·have := ready_mono hj hji
    rw [H.1] at this
    cases this
 | succ fuel ih =>
   intro listed a w hcl hfree hr hy hS H
   refine ⟨fun h => (by rw [h] at hr; cases hr), fun j hj => ?_⟩
   by_cases hji : j = i
   ·subst hji; exact hy.wpOp hi hS ⟨.inr fun _ _ h => h, H⟩
   ·have h1 := H.2 j (ready_mono hj hji)
    obtain ⟨hjun, oj, hoj, hall⟩ := mem_ready.1 hj
    have hjq : j ≠ q := fun e => hji (by subst e; exact (tU hl hcl hj hr).symm)
    have hnot : ∀ e ∈ oj.after, Region.binds .any e = true → e.on ≠ i := fun e he hb heq => by
     have h1 := hall e he hb
     have h0 := (mem_ready.1 hr).1
     rw [heq] at h1
     rcases Nat.lt_or_ge i listed.size with h' | h'
     ·simp [h'] at h0 h1; rw [h0] at h1; cases h1
     ·simp [Array.getElem?_eq_none h'] at h1
    have h2 := wpOp_putIf hoj (hfree j oj hoj hji hjun hnot) (fun cs b => hsel i oi cs b hi) (fun cs b => hsel j oj cs b hoj) hQ hy h1
    have hfree' : ∀ k ok, ops[k]? = some ok → k ≠ i → (listed.setIfInBounds j true).getD k true = false →
     (∀ e ∈ ok.after, Region.binds .any e = true → e.on ≠ i) → oi.apart ops ok = true := fun k ok hk hki hun hno => by
     refine hfree k ok hk hki ?_ hno
     by_cases hjk : j = k
     ·subst hjk; exact hjun
     ·rw [getD_set_ne true hjk] at hun; exact hun
    refine wpOp_mono (fun a' w' h3 => ?_) h2
    have hk := h3.2.1.resolve_left hjq
    have hS' : S i w' := hk i (Ew hcl hr hj) hS
    refine ⟨.inr hk, ih (listed.setIfInBounds j true) a' w' (dm hcl hj) hfree' (ready_mono hr (Ne.symm hji)) h3.1 hS' ?_⟩
    rw [Array.setIfInBounds_comm _ _ hji]
    exact h3.2.2
end
def drE (P : Program) (ops : Array Oper) (Q : Exit → Act → World → Prop) (S : Nat → World → Prop) (q fuel : Nat) (l : List Nat) (a : Act) (w : World) : Prop :=
 lA ops q = true → Region.noSelect ops = true → kS ops (gj ops.size l) → wpE P ops (sJ Q) S q fuel (gj ops.size l) a w
end Go.Proofs.YtlepjakmadlkjaaGreatDoor
