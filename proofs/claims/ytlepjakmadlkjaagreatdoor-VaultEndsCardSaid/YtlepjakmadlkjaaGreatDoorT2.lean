/- Texts of the proof, put together: part 2. No condition. -/
import Derived.Test.YtlepjakmadlkjaaGreatDoorT1
import Derived.RangeFuncFrom
set_option linter.unusedVariables false
set_option linter.unusedSimpArgs false
namespace Go.Proofs.YtlepjakmadlkjaaGreatDoor
open Go
inductive Ty where
 | int (k : IntKind)
 | bool
 | str
 | unit
 | arr (n : Nat) (t : Ty)
 | pair (a b : Ty)
 | sl (e : Nat) (t : Ty)
 deriving DecidableEq, Inhabited
@[reducible] def Ty.den : Ty → Type
 | .int _ => Int
 | .bool => Bool
 | .str => ByteArray
 | .unit => Unit
 | .arr n t => Vector t.den n
 | .pair a b => a.den × b.den
 | .sl _ t => List t.den
def FU : Flat Unit := ⟨0, fun _ => [], (), fun _ => rfl, fun _ _ h => by simp at h⟩
def FP {α β : Type} (F : Flat α) (G : Flat β) : Flat (α × β) :=
 ⟨F.sz + G.sz, fun x => F.cells x.1 ++ G.cells x.2, (F.dflt, G.dflt), fun x => by simp [F.len, G.len], fun x v h => by
  rcases List.mem_append.1 h with h | h
  ·exact F.one _ v h
  ·exact G.one _ v h⟩
def FL (α : Type) : Flat (List α) := ⟨1, fun _ => [.nilFunc], [], fun _ => rfl, fun _ v h => by simp at h; subst h; rfl⟩
def am : (t : Ty) → Flat t.den
 | .int k => FK k
 | .bool => FB
 | .str => FS
 | .unit => FU
 | .arr n t => FA (am t) n
 | .pair a b => FP (am a) (am b)
 | .sl _ t => FL t.den
def Ty.sz : Ty → Nat
 | .int _ | .bool | .str | .sl _ _ => 1
 | .unit => 0
 | .arr n t => n * t.sz
 | .pair a b => a.sz + b.sz
def Ty.flat : Ty → Bool
 | .arr _ t => t.flat
 | .pair a b => a.flat && b.flat
 | .sl _ _ => false
 | _ => true
def Ty.dflt : (t : Ty) → t.den
 | .int _ => (0 : Int)
 | .bool => false
 | .str => (⟨#[]⟩ : ByteArray)
 | .unit => ()
 | .arr n t => Vector.replicate n t.dflt
 | .pair a b => (a.dflt, b.dflt)
 | .sl _ _ => []
theorem aK : ∀ t : Ty, (am t).sz = t.sz
 | .int _ | .bool | .str | .unit | .sl _ _ => rfl
 | .arr n t => by simp only [am, FA, Ty.sz, aK t]
 | .pair a b => by simp only [am, FP, Ty.sz, aK a, aK b]
theorem cR : ∀ t : Ty, (am t).dflt = t.dflt
 | .int _ | .bool | .str | .unit | .sl _ _ => rfl
 | .arr n t => by simp only [am, FA, Ty.dflt, cR t]
 | .pair a b => by simp only [am, FP, Ty.dflt, cR a, cR b]
def at_ (t : Ty) (l : List t.den) (i : Int) : t.den := l.getD i.toNat t.dflt
def Dyn : Type := (t : Ty) × t.den
def cm {a b : Ty} (x : a.den) : Option b.den := if h : a = b then some (h ▸ x) else none
theorem dk {a b : Ty} {x : a.den} {y : b.den} (h : cm x = some y) : ∃ e : a = b, e ▸ x = y := by
 unfold cm at h
 split at h
 ·rename_i e; exact ⟨e, Option.some.inj h⟩
 ·cases h
@[reducible] def HL : List Ty → Type
 | [] => Unit
 | [t] => t.den
 | t :: u :: ts => t.den × HL (u :: ts)
def toD : (ts : List Ty) → HL ts → List Dyn
 | [], _ => []
 | [t], x => [⟨t, x⟩]
 | t :: u :: ts, x => ⟨t, x.1⟩ :: toD (u :: ts) x.2
def mn : (ts : List Ty) → List Dyn → Option (HL ts)
 | [], [] => some ()
 | [t], [d] => cm d.2
 | t :: u :: ts, d :: ds => (cm d.2 : Option t.den).bind fun x => (mn (u :: ts) ds).bind fun y => some (x, y)
 | _, _ => none
theorem vN {d : Dyn} {t : Ty} {x : t.den} (h : cm d.2 = some x) : d = ⟨t, x⟩ := by
 obtain ⟨s, y⟩ := d
 obtain ⟨rfl, rfl⟩ := dk h
 rfl
theorem jy : ∀ (ts : List Ty) (ds : List Dyn) (x : HL ts), mn ts ds = some x → toD ts x = ds
 | [], [], _, _ => rfl
 | [], _ :: _, _, h => by simp [mn] at h
 | [t], [], _, h => by simp [mn] at h
 | [t], [d], x, h => by simp only [mn] at h; simp only [toD, vN h]
 | [t], _ :: _ :: _, _, h => by simp [mn] at h
 | t :: u :: ts, [], _, h => by simp [mn] at h
 | t :: u :: ts, d :: ds, x, h => by
   simp only [mn, Option.bind_eq_some_iff] at h
   obtain ⟨y, hy, z, hz, he⟩ := h
   cases he
   simp only [toD, vN hy, jy (u :: ts) ds z hz]
structure Fact where
 v : Value
 n : Nat
 sz : Nat
 cs : List Value
def gh {α : Type} (R : α → List Value → List Fact → Prop) : List α → List Value → List Fact → Prop
 | [], cs, F => cs = [] ∧ F = []
 | x :: xs, cs, F => ∃ c1 c2 F1 F2, cs = c1 ++ c2 ∧ F = F1 ++ F2 ∧ R x c1 F1 ∧ gh R xs c2 F2
def SlV (v : Value) (n : Nat) : Prop := ∃ ao c, v = .slice ao n c ∧ (ao = none → n = 0)
theorem SlV.one {v : Value} {n : Nat} (h : SlV v n) : v.oneCell' = true := by obtain ⟨_, _, rfl, _⟩ := h; rfl
def gH : (t : Ty) → t.den → List Value → List Fact → Prop
 | .sl _ t, xs, cs, F => ∃ v css F', cs = [v] ∧ SlV v xs.length ∧ F = ⟨v, xs.length, t.sz, css⟩ :: F' ∧ gh (gH t) xs css F'
 | .pair a b, x, cs, F => ∃ c1 c2 F1 F2, cs = c1 ++ c2 ∧ F = F1 ++ F2 ∧ gH a x.1 c1 F1 ∧ gH b x.2 c2 F2
 | .int k, x, cs, F => cs = (am (.int k)).cells x ∧ F = []
 | .bool, x, cs, F => cs = (am .bool).cells x ∧ F = []
 | .str, x, cs, F => cs = (am .str).cells x ∧ F = []
 | .unit, x, cs, F => cs = (am .unit).cells x ∧ F = []
 | .arr n t, x, cs, F => cs = (am (.arr n t)).cells x ∧ F = []
theorem yd {α : Type} {R : α → List Value → List Fact → Prop} {s : Nat} (h : ∀ x c F, R x c F → c.length = s) : ∀ (xs : List α) (cs : List Value) (F : List Fact), gh R xs cs F → cs.length = xs.length * s
 | [], cs, F, ⟨h1, _⟩ => by simp [h1]
 | x :: xs, cs, F, ⟨c1, c2, F1, F2, h1, _, h3, h4⟩ => by
   rw [h1, List.length_append, h x c1 F1 h3, yd h xs c2 F2 h4, List.length_cons, Nat.add_mul, Nat.one_mul, Nat.add_comm]
theorem gL : ∀ (t : Ty) (x : t.den) (cs : List Value) (F : List Fact), gH t x cs F → cs.length = t.sz
 | .sl _ t, xs, cs, F, ⟨v, css, F', h, _⟩ => by simp [h, Ty.sz]
 | .pair a b, x, cs, F, ⟨c1, c2, F1, F2, h1, _, h3, h4⟩ => by rw [h1, List.length_append, gL a _ _ _ h3, gL b _ _ _ h4]; rfl
 | .int k, x, cs, F, ⟨h, _⟩ => by rw [h, (am _).len, aK]
 | .bool, x, cs, F, ⟨h, _⟩ => by rw [h, (am _).len, aK]
 | .str, x, cs, F, ⟨h, _⟩ => by rw [h, (am _).len, aK]
 | .unit, x, cs, F, ⟨h, _⟩ => by rw [h, (am _).len, aK]
 | .arr n t, x, cs, F, ⟨h, _⟩ => by rw [h, (am _).len, aK]
theorem ye {α : Type} {R : α → List Value → List Fact → Prop} (h : ∀ x c F, R x c F → ∀ v ∈ c, v.oneCell' = true) : ∀ (xs : List α) (cs : List Value) (F : List Fact), gh R xs cs F → ∀ v ∈ cs, v.oneCell' = true
 | [], cs, F, ⟨h1, _⟩ => by simp [h1]
 | x :: xs, cs, F, ⟨c1, c2, F1, F2, h1, _, h3, h4⟩ => by
   intro v hv
   rw [h1] at hv
   rcases List.mem_append.1 hv with hv | hv
   ·exact h x c1 F1 h3 v hv
   ·exact ye h xs c2 F2 h4 v hv
theorem tG : ∀ (t : Ty) (x : t.den) (cs : List Value) (F : List Fact), gH t x cs F → ∀ v ∈ cs, v.oneCell' = true
 | .sl _ t, xs, cs, F, ⟨v, css, F', h, h1, _⟩ => by simp [h, h1.one]
 | .pair a b, x, cs, F, ⟨c1, c2, F1, F2, h1, _, h3, h4⟩ => by
   intro v hv
   rw [h1] at hv
   rcases List.mem_append.1 hv with hv | hv
   ·exact tG a _ _ _ h3 v hv
   ·exact tG b _ _ _ h4 v hv
 | .int k, x, cs, F, ⟨h, _⟩ => by rw [h]; exact (am _).one x
 | .bool, x, cs, F, ⟨h, _⟩ => by rw [h]; exact (am _).one x
 | .str, x, cs, F, ⟨h, _⟩ => by rw [h]; exact (am _).one x
 | .unit, x, cs, F, ⟨h, _⟩ => by rw [h]; exact (am _).one x
 | .arr n t, x, cs, F, ⟨h, _⟩ => by rw [h]; exact (am _).one x
theorem dE : ∀ (t : Ty), t.flat = true → ∀ (x : t.den) (cs : List Value) (F : List Fact), gH t x cs F ↔ cs = (am t).cells x ∧ F = []
 | .sl _ t, h, _, _, _ => by simp [Ty.flat] at h
 | .pair a b, h, x, cs, F => by
   simp only [Ty.flat, Bool.and_eq_true] at h
   constructor
   ·rintro ⟨c1, c2, F1, F2, rfl, rfl, h3, h4⟩
    obtain ⟨rfl, rfl⟩ := (dE a h.1 _ _ _).1 h3
    obtain ⟨rfl, rfl⟩ := (dE b h.2 _ _ _).1 h4
    exact ⟨rfl, rfl⟩
   ·rintro ⟨rfl, rfl⟩
    exact ⟨_, _, [], [], rfl, rfl, (dE a h.1 _ _ _).2 ⟨rfl, rfl⟩, (dE b h.2 _ _ _).2 ⟨rfl, rfl⟩⟩
 | .int k, _, x, cs, F => Iff.rfl
 | .bool, _, x, cs, F => Iff.rfl
 | .str, _, x, cs, F => Iff.rfl
 | .unit, _, x, cs, F => Iff.rfl
 | .arr n t, _, x, cs, F => Iff.rfl
theorem bM (t : Ty) (h : t.flat = true) : ∀ (xs : List t.den) (cs : List Value) (F : List Fact), gh (gH t) xs cs F ↔ cs = xs.flatMap (am t).cells ∧ F = []
 | [], cs, F => Iff.rfl
 | x :: xs, cs, F => by
   simp only [gh]
   constructor
   ·rintro ⟨c1, c2, F1, F2, rfl, rfl, h3, h4⟩
    obtain ⟨rfl, rfl⟩ := (dE t h _ _ _).1 h3
    obtain ⟨rfl, rfl⟩ := (bM t h _ _ _).1 h4
    simp
   ·rintro ⟨rfl, rfl⟩
    exact ⟨_, _, [], [], by simp, rfl, (dE t h _ _ _).2 ⟨rfl, rfl⟩, (bM t h xs _ _).2 ⟨rfl, rfl⟩⟩
theorem tH {α : Type} {R : α → List Value → List Fact → Prop} : ∀ (xs ys : List α) (cs ds : List Value) (F G : List Fact), gh R xs cs F → gh R ys ds G → gh R (xs ++ ys) (cs ++ ds) (F ++ G)
 | [], ys, cs, ds, F, G, ⟨h1, h2⟩, k => by subst h1 h2; exact k
 | x :: xs, ys, cs, ds, F, G, ⟨c1, c2, F1, F2, h1, h2, h3, h4⟩, k => by
   subst h1 h2
   exact ⟨c1, c2 ++ ds, F1, F2 ++ G, by simp, by simp, h3, tH xs ys c2 ds F2 G h4 k⟩
theorem jz {α : Type} {R : α → List Value → List Fact → Prop} {s : Nat} (hl : ∀ x c F, R x c F → c.length = s) : ∀ (n : Nat) (xs : List α) (cs : List Value) (F : List Fact), gh R xs cs F →
 ∃ F1 F2, F = F1 ++ F2 ∧ gh R (xs.take n) (cs.take (n * s)) F1 ∧ gh R (xs.drop n) (cs.drop (n * s)) F2
 | 0, xs, cs, F, h => ⟨[], F, rfl, by simp [gh], by simpa using h⟩
 | n + 1, [], cs, F, ⟨h1, h2⟩ => ⟨[], [], h2, by simp [h1, gh], by simp [h1, gh]⟩
 | n + 1, x :: xs, cs, F, ⟨c1, c2, F1, F2, h1, h2, h3, h4⟩ => by
   obtain ⟨G1, G2, e, k1, k2⟩ := jz hl n xs c2 F2 h4
   have hc := hl x c1 F1 h3
   refine ⟨F1 ++ G1, G2, by rw [h2, e, List.append_assoc], ?_, ?_⟩
   ·refine ⟨c1, c2.take (n * s), F1, G1, ?_, rfl, h3, k1⟩
    rw [h1, List.take_append, hc, Nat.add_mul, Nat.one_mul, Nat.add_sub_cancel, List.take_of_length_le (by omega)]
   ·have hz : c1.drop (n * s + s) = [] := List.drop_eq_nil_of_le (by omega)
    rw [h1, List.drop_append, hc, Nat.add_mul, Nat.one_mul, Nat.add_sub_cancel, hz, List.nil_append]
    exact k2
theorem DY {α : Type} {R : α → List Value → List Fact → Prop} {s : Nat} (hl : ∀ x c F, R x c F → c.length = s) (xs : List α) (cs : List Value) (F : List Fact) (h : gh R xs cs F) (i : Nat) (hi : i < xs.length) :
 ∃ F1, R (xs[i]) ((cs.drop (i * s)).take s) F1 ∧ ∀ f ∈ F1, f ∈ F := by
 obtain ⟨F1, F2, e, _, k2⟩ := jz hl i xs cs F h
 rw [List.drop_eq_getElem_cons hi] at k2
 obtain ⟨c1, c2, G1, G2, e1, e2, k3, _⟩ := k2
 refine ⟨G1, ?_, fun f hf => by rw [e, e2]; simp [hf]⟩
 rw [e1, List.take_append_of_le_length (by rw [hl _ _ _ k3]; exact Nat.le_refl _), List.take_of_length_le (by rw [hl _ _ _ k3]; exact Nat.le_refl _)]
 exact k3
def dJ (l : Bool) (F : List Fact) : Ent :=
 ⟨fun x => ∃ f ∈ F, f.cs ≠ [] ∧ aT f.v = some x, fun w => ∀ f ∈ F, Rds f.v f.n f.sz f.cs w,
  fun w h x ⟨f, hf, hx⟩ => (rdE l f.v f.n f.sz f.cs).lt w (h f hf) x hx,
  fun w w' h k f hf => (rdE l f.v f.n f.sz f.cs).loc w w' (h f hf) (fun b hb => k b ⟨f, hf, hb⟩), l⟩
structure CtxF (w0 : World) (D A : Nat → Prop) (L R : Nat → Ent) (w : World) : Prop where
 fr : Fr D w0 w
 okL : ∀ i, (L i).ok w
 okR : ∀ i, (R i).ok w
 mine : ∀ i b, (L i).dom b → D b ∨ w0.heap.size ≤ b
 sepL : ∀ i j, i ≠ j → ∀ b, (L i).dom b → ¬ (L j).dom b
 sepR : ∀ i j b, (L i).dom b → ¬ (R j).dom b
 src : ∀ i, (R i).lent = false → ∀ b, (R i).dom b → A b ∨ D b ∨ w0.heap.size ≤ b
section
variable {w0 w w' : World} {D A : Nat → Prop} {L R L' R' : Nat → Ent}
theorem jA (C : CtxF w0 D A L R w) (h : Fr nob w w') : CtxF w0 D A L R w' :=
 ⟨C.fr.then h, fun i => (L i).keep (C.okL i) h (fun _ _ => id), fun i => (R i).keep (C.okR i) h (fun _ _ => id), C.mine, C.sepL, C.sepR, C.src⟩
theorem qY (i : Nat) {E' : Ent} (C : CtxF w0 D A L R w) (h : Fr (L i).dom w w') (ok' : E'.ok w') (hd : ∀ b, E'.dom b → (L i).dom b ∨ w.heap.size ≤ b)
 (hL : ∀ j, j ≠ i → L' j = L j) (hi : L' i = E') : CtxF w0 D A L' R w' := by
 have get : ∀ j, (j = i ∧ L' j = E') ∨ (j ≠ i ∧ L' j = L j) := fun j => by
  by_cases e : j = i
  ·subst e; exact .inl ⟨rfl, hi⟩
  ·exact .inr ⟨e, hL j e⟩
 refine ⟨C.fr.trans h (fun x hx => C.mine i x hx), ?_, ?_, ?_, ?_, ?_, C.src⟩
 ·intro j
  rcases get j with ⟨_, e⟩ | ⟨hne, e⟩ <;> rw [e]
  ·exact ok'
  ·exact (L j).keep (C.okL j) h (C.sepL j i hne)
 ·intro j
  exact (R j).keep (C.okR j) h (fun b hF hE => C.sepR i j b hE hF)
 ·intro j b hb
  rcases get j with ⟨_, e⟩ | ⟨hne, e⟩ <;> rw [e] at hb
  ·rcases hd b hb with h1 | h1
   ·exact C.mine i b h1
   ·exact .inr (Nat.le_trans C.fr.size h1)
  ·exact C.mine j b hb
 ·intro j k hjk b hb hb'
  rcases get j with ⟨rfl, e⟩ | ⟨hne, e⟩ <;> rw [e] at hb <;> rcases get k with ⟨rfl, e'⟩ | ⟨hne', e'⟩ <;> rw [e'] at hb'
  ·exact hjk rfl
  ·rcases hd b hb with h1 | h1
   ·exact C.sepL _ _ hjk b h1 hb'
   ·have := (L k).lt w (C.okL k) b hb'; omega
  ·rcases hd b hb' with h1 | h1
   ·exact C.sepL _ _ hjk b hb h1
   ·have := (L j).lt w (C.okL j) b hb; omega
  ·exact C.sepL j k hjk b hb hb'
 ·intro j k b hb hb'
  rcases get j with ⟨_, e⟩ | ⟨hne, e⟩ <;> rw [e] at hb
  ·rcases hd b hb with h1 | h1
   ·exact C.sepR i k b h1 hb'
   ·have := (R k).lt w (C.okR k) b hb'; omega
  ·exact C.sepR j k b hb hb'
structure Sub1 (E F : Ent) (w : World) : Prop where
 ok : F.ok w → E.ok w
 dom : ∀ b, E.dom b → F.dom b
theorem Sub1.refl (E : Ent) (w : World) : Sub1 E E w := ⟨id, fun _ => id⟩
theorem Sub1.nil (F : Ent) (w : World) : Sub1 Ent.nil F w := ⟨fun _ => trivial, fun _ h => h.elim⟩
theorem pN (C : CtxF w0 D A L R w) (σ : Nat → Nat)
 (hL : ∀ i, (∀ b, ¬ (L' i).dom b) ∧ (L' i).ok w ∨ Sub1 (L' i) (L (σ i)) w)
 (hinj : ∀ i j, i ≠ j → (∃ b, (L' i).dom b) → (∃ b, (L' j).dom b) → σ i ≠ σ j)
 (hR : ∀ i, (∀ b, ¬ (R' i).dom b) ∧ (R' i).ok w ∨ (∃ j, Sub1 (R' i) (R j) w ∧ ((R' i).lent = false → (R j).lent = false)) ∨ (∃ j, Sub1 (R' i) (L j) w ∧ ∀ k, (∃ b, (L' k).dom b) → σ k ≠ j)) :
 CtxF w0 D A L' R' w := by
 have own : ∀ i b, (L' i).dom b → (L (σ i)).dom b := fun i b hb => by
  rcases hL i with ⟨h, _⟩ | h
  ·exact (h b hb).elim
  ·exact h.dom b hb
 refine ⟨C.fr, ?_, ?_, fun i b hb => C.mine _ b (own i b hb), fun i j hij b hb hb' => C.sepL _ _ (hinj i j hij ⟨b, hb⟩ ⟨b, hb'⟩) b (own i b hb) (own j b hb'), ?_, ?_⟩
 ·intro i
  rcases hL i with ⟨_, h⟩ | h
  ·exact h
  ·exact h.ok (C.okL _)
 ·intro i
  rcases hR i with ⟨_, h⟩ | ⟨j, h, _⟩ | ⟨j, h, _⟩
  ·exact h
  ·exact h.ok (C.okR _)
  ·exact h.ok (C.okL _)
 ·intro i j b hb hb'
  rcases hR j with ⟨h, _⟩ | ⟨k, h, _⟩ | ⟨k, h, hk⟩
  ·exact h b hb'
  ·exact C.sepR _ k b (own i b hb) (h.dom b hb')
  ·exact C.sepL _ k (hk i ⟨b, hb⟩) b (own i b hb) (h.dom b hb')
 ·intro i hl b hb
  rcases hR i with ⟨h, _⟩ | ⟨k, h, hf⟩ | ⟨k, h, hk⟩
  ·exact (h b hb).elim
  ·exact C.src k (hf hl) b (h.dom b hb)
  ·exact .inr (C.mine k b (h.dom b hb))
def oX (L : Nat → Ent) : Nat → Prop := fun b => ∃ i, (L i).dom b
def pO (R : Nat → Ent) : Nat → Prop := fun b => ∃ i, (R i).lent = false ∧ (R i).dom b
structure Part (E F Q : Ent) : Prop where
 ok : ∀ w, F.ok w ↔ E.ok w ∧ Q.ok w
 dom : ∀ b, F.dom b ↔ E.dom b ∨ Q.dom b
 sep : ∀ b, E.dom b → ¬ Q.dom b
theorem Part.refl (E : Ent) : Part E E Ent.nil := ⟨fun _ => ⟨fun h => ⟨h, trivial⟩, fun h => h.1⟩, fun _ => ⟨.inl, fun h => h.elim id (fun h => h.elim)⟩, fun _ _ h => h⟩
structure Lend (w : World) (L R Lp Rp : Nat → Ent) (σ : Nat → Nat) : Prop where
 own : ∀ i, (∀ b, ¬ (Lp i).dom b) ∧ (Lp i).ok w ∨ ∃ Q, Part (Lp i) (L (σ i)) Q
 inj : ∀ i j, i ≠ j → (∃ b, (Lp i).dom b) → (∃ b, (Lp j).dom b) → σ i ≠ σ j
 rd : ∀ i, (Rp i).ok w ∧ ∀ b, (Rp i).dom b → (∃ j, (R j).dom b ∧ ((Rp i).lent = false → (R j).lent = false)) ∨
  ((Rp i).lent = true ∧ (∃ j, (L j).dom b) ∧ ∀ k, ¬ (Lp k).dom b)
theorem GQ {Lp Rp : Nat → Ent} {σ : Nat → Nat} (C : CtxF w0 D A L R w) (h : Lend w L R Lp Rp σ) : CtxF w (oX Lp) (pO Rp) Lp Rp w := by
 have own : ∀ i b, (Lp i).dom b → (L (σ i)).dom b := fun i b hb => by
  rcases h.own i with ⟨h, _⟩ | ⟨Q, h⟩
  ·exact (h b hb).elim
  ·exact (h.dom b).2 (.inl hb)
 refine ⟨Fr.refl _ _, ?_, ?_, fun i b hb => .inl ⟨i, hb⟩, fun i j hij b hb hb' => C.sepL _ _ (h.inj i j hij ⟨b, hb⟩ ⟨b, hb'⟩) b (own i b hb) (own j b hb'), ?_, fun i hl b hb => .inl ⟨i, hl, hb⟩⟩
 ·intro i
  rcases h.own i with ⟨_, h⟩ | ⟨Q, h⟩
  ·exact h
  ·exact ((h.ok w).1 (C.okL _)).1
 ·intro i
  exact (h.rd i).1
 ·intro i j b hb hb'
  rcases (h.rd j).2 b hb' with ⟨k, h, _⟩ | ⟨_, _, hk⟩
  ·exact C.sepR _ k b (own i b hb) h
  ·exact hk i hb
theorem GR {Lp Rp Lo Ro : Nat → Ent} {σ : Nat → Nat} (fc : Nat → Nat → Prop) (C : CtxF w0 D A L R w) (h : Lend w L R Lp Rp σ) (CC : CtxF w (oX Lp) (pO Rp) Lo Ro w')
 (hL : ∀ i, (∀ b, ¬ (L' i).dom b) ∧ (L' i).ok w' ∨ (∃ j, fc i j ∧ L' i = Lo j) ∨ (L' i = L i ∧ ∀ k, (∃ b, (Lp k).dom b) → σ k ≠ i) ∨ (L' i = L i ∧ ∃ j Q, fc i j ∧ σ j = i ∧ (∃ b, (Lp j).dom b) ∧ Lo j = Lp j ∧ Part (Lp j) (L i) Q))
 (hinj : ∀ i i' j, fc i j → fc i' j → i = i')
 (hR : ∀ i, (∀ b, ¬ (R' i).dom b) ∧ (R' i).ok w' ∨ R' i = R i ∨ ∃ j, R' i = Ro j ∧ (R' i).lent = false) : CtxF w0 D A L' R' w' := by
 have own : ∀ b, oX Lp b → ∃ i, (Lp i).dom b ∧ (L (σ i)).dom b := by
  rintro b ⟨i, hb⟩
  rcases h.own i with ⟨h, _⟩ | ⟨Q, h⟩
  ·exact (h b hb).elim
  ·exact ⟨i, hb, (h.dom b).2 (.inl hb)⟩
 have away : ∀ i, (∀ k, (∃ b, (Lp k).dom b) → σ k ≠ i) → ∀ b, (L i).dom b → ¬ oX Lp b := by
  intro i hi b hb ha
  obtain ⟨k, hk, hkb⟩ := own b ha
  exact C.sepL i (σ k) (hi k ⟨b, hk⟩).symm b hb hkb
 have awayQ : ∀ i j Q, σ j = i → (∃ b, (Lp j).dom b) → Part (Lp j) (L i) Q → ∀ b, Q.dom b → ¬ oX Lp b := by
  intro i j Q hs hd hp b hb ha
  obtain ⟨k, hk, hkb⟩ := own b ha
  by_cases hkj : k = j
  ·subst hkj; exact hp.sep b hk hb
  ·exact C.sepL (σ k) (σ j) (h.inj k j hkj ⟨b, hk⟩ hd) b hkb (by rw [hs]; exact (hp.dom b).2 (.inr hb))
 have awayR : ∀ i b, (R i).dom b → ¬ oX Lp b := by
  intro i b hb ha
  obtain ⟨k, _, hkb⟩ := own b ha
  exact C.sepR (σ k) i b hkb hb
 have where_ : ∀ i b, (L' i).dom b → (∃ j, fc i j ∧ (Lo j).dom b) ∨ ((L i).dom b ∧ ¬ oX Lp b) := by
  intro i b hb
  rcases hL i with ⟨h, _⟩ | ⟨j, hf, e⟩ | ⟨e, hk⟩ | ⟨e, j, Q, hf, hs, hd, ho, hp⟩
  ·exact (h b hb).elim
  ·exact .inl ⟨j, hf, e ▸ hb⟩
  ·rw [e] at hb; exact .inr ⟨hb, away i hk b hb⟩
  ·rw [e] at hb
   rcases (hp.dom b).1 hb with h1 | h1
   ·exact .inl ⟨j, hf, by rw [ho]; exact h1⟩
   ·exact .inr ⟨hb, awayQ i j Q hs hd hp b h1⟩
 have cross : ∀ i j b, (L i).dom b → ¬ oX Lp b → ¬ (Lo j).dom b := by
  intro i j b hb hk hb'
  rcases CC.mine j b hb' with h1 | h1
  ·exact hk h1
  ·have := (L i).lt w (C.okL i) b hb; omega
 refine ⟨C.fr.trans CC.fr (fun x hx => ?_), ?_, ?_, ?_, ?_, ?_, ?_⟩
 ·obtain ⟨i, _, hb⟩ := own x hx
  exact C.mine _ x hb
 ·intro i
  rcases hL i with ⟨_, h⟩ | ⟨j, _, e⟩ | ⟨e, hk⟩ | ⟨e, j, Q, hf, hs, hd, ho, hp⟩
  ·exact h
  ·rw [e]; exact CC.okL j
  ·rw [e]; exact (L i).keep (C.okL i) CC.fr (fun b hb => away i hk b hb)
  ·rw [e]
   have h1 := CC.okL j
   rw [ho] at h1
   exact (hp.ok w').2 ⟨h1, Q.keep ((hp.ok w).1 (C.okL i)).2 CC.fr (fun b hb => awayQ i j Q hs hd hp b hb)⟩
 ·intro i
  rcases hR i with ⟨_, h⟩ | e | ⟨j, e, _⟩
  ·exact h
  ·rw [e]; exact (R i).keep (C.okR i) CC.fr (fun b hb => awayR i b hb)
  ·rw [e]; exact CC.okR j
 ·intro i b hb
  rcases where_ i b hb with ⟨j, _, hb⟩ | ⟨hb, _⟩
  ·rcases CC.mine j b hb with h1 | h1
   ·obtain ⟨k, _, hkb⟩ := own b h1; exact C.mine _ b hkb
   ·exact .inr (Nat.le_trans C.fr.size h1)
  ·exact C.mine i b hb
 ·intro i i' hij b hb hb'
  rcases where_ i b hb with ⟨j, e, hb1⟩ | ⟨hb1, hk⟩
  ·rcases where_ i' b hb' with ⟨j', e', hb2⟩ | ⟨hb2, hk'⟩
   ·by_cases hjj : j = j'
    ·subst hjj; exact hij (hinj i i' j e e')
    ·exact CC.sepL j j' hjj b hb1 hb2
   ·exact cross i' j b hb2 hk' hb1
  ·rcases where_ i' b hb' with ⟨j', e', hb2⟩ | ⟨hb2, hk'⟩
   ·exact cross i j' b hb1 hk hb2
   ·exact C.sepL i i' hij b hb1 hb2
 ·intro i i' b hb hb'
  rcases hR i' with ⟨h0, _⟩ | e | ⟨q, e, hl⟩
  ·exact h0 b hb'
  ·rw [e] at hb'
   rcases where_ i b hb with ⟨j, _, hb1⟩ | ⟨hb1, _⟩
   ·rcases CC.mine j b hb1 with h3 | h3
    ·exact awayR i' b hb' h3
    ·have := (R i').lt w (C.okR i') b hb'; omega
   ·exact C.sepR i i' b hb1 hb'
  ·rw [e] at hb' hl
   rcases where_ i b hb with ⟨j, _, hb1⟩ | ⟨hb1, hk⟩
   ·exact CC.sepR j q b hb1 hb'
   ·rcases CC.src q hl b hb' with ⟨p, hpl, hpb⟩ | h3 | h3
    ·rcases (h.rd p).2 b hpb with ⟨k, h1, _⟩ | ⟨h1, _⟩
     ·exact C.sepR i k b hb1 h1
     ·rw [hpl] at h1; cases h1
    ·exact hk h3
    ·have := (L i).lt w (C.okL i) b hb1; omega
 ·intro i hl b hb
  rcases hR i with ⟨h0, _⟩ | e | ⟨q, e, hl'⟩
  ·exact (h0 b hb).elim
  ·rw [e] at hb hl; exact C.src i hl b hb
  ·rw [e] at hb hl
   rcases CC.src q hl b hb with ⟨p, hpl, hpb⟩ | h3 | h3
   ·rcases (h.rd p).2 b hpb with ⟨k, h1, hf⟩ | ⟨h1, _⟩
    ·exact C.src k (hf hpl) b h1
    ·rw [hpl] at h1; cases h1
   ·obtain ⟨k, _, hkb⟩ := own b h3; exact .inr (C.mine _ b hkb)
   ·exact .inr (.inr (Nat.le_trans C.fr.size h3))
end
end Go.Proofs.YtlepjakmadlkjaaGreatDoor
namespace Go.Proofs.YtlepjakmadlkjaaGreatDoor
open Go
inductive Md where
 | own
 | rd
 | lent
 deriving DecidableEq
inductive ASh where
 | fl (t : Ty)
 | sl (o : Nat)
 | ptr (b off : Nat)
 | pel (o off : Nat)
 | asl (b off n : Nat)
 | nil0
 | nilp
 | nilf
 | nili
 | un
 deriving DecidableEq
inductive VSh where
 | a (x : ASh)
 | fn (f : Nat) (fs cs : List ASh)
 | st (ls : List ASh)
 deriving DecidableEq
inductive SSh where
 | v (x : VSh)
 | tup (xs : List VSh)
 deriving DecidableEq
structure Kd where
 n : Nat
 l : Bool
 deriving DecidableEq
inductive OSh where
 | box (T : Nat) (ls : List ASh)
 | row (e : Nat) (t : Ty) (m : Md)
 | fleet (e : Nat) (d : Kd)
 | gone
 deriving DecidableEq
def regs0 : List (Nat × List OSh) := [(61, [.box 113 [.fl (.int .i64), .fl (.int .i64), .sl 1, .sl 2, .ptr 3 0, .fl (.int .i64), .fl (.int .i64), .fl (.arr 32 (.int .u8)), .fl (.int .i64), .fl (.arr 32 (.int .u8))], .row 38 (.arr 32 (.int .u8)) .rd, .row 36 (.pair (.int .i64) (.pair (.int .i64) (.pair (.int .i64) .str))) .rd, .box 169 [.fl (.int .i64), .sl 4], .row 38 (.arr 32 (.int .u8)) .rd]), (125, [.box 175 [.fl (.int .i64), .fl (.int .i64), .fl (.int .i64), .sl 1, .fl (.int .i64), .fl (.int .i64), .fl (.arr 32 (.int .u8)), .fl (.int .i64), .fl (.arr 32 (.int .u8))], .row 36 (.pair (.int .i64) (.pair (.int .i64) (.pair (.int .i64) .str))) .own])]
def cdA : ASh → List Ty
 | .fl t => [t]
 | .pel _ _ => [.int .i64]
 | _ => []
def cdL (ls : List ASh) : List Ty := ls.flatMap cdA
def yf : List Ty → Ty
 | [] => .unit
 | [t] => t
 | t :: ts => .pair t (yf ts)
def cdP : OSh → List Ty
 | .box _ ls => cdL ls
 | .row e t _ => [.sl e t]
 | _ => []
structure Reg where
 pt : Nat
 ps : List OSh
def Cs (d : Kd) : List OSh := ((regs0.map fun p => Reg.mk p.1 p.2).getD d.n ⟨0, []⟩).ps
def DZ (d : Kd) : List Ty := (Cs d).flatMap cdP
def bl (d : Kd) : Ty := yf (DZ d)
def Kd.lent (d : Kd) : Kd := ⟨d.n, true⟩
inductive At where
 | fl (t : Ty) (x : t.den)
 | lit (b : Bool)
 | sl (o : Nat)
 | nils (e : Nat) (t : Ty)
 | nil0
 | nilr (e : Nat) (d : Kd)
 | ptr (b off : Nat)
 | pel (o : Nat) (k : Int) (off : Nat)
 | asl (b off n : Nat)
 | nilp
 | nilf
 | nili
 | un
inductive V1 where
 | a (x : At)
 | elp (o sz : Nat) (i : Int) (off : Nat)
 | arp (b off : Nat) (t : Ty) (n : Nat) (i : Int)
 | fn (f : Nat) (fs cs : List At)
 | st (ls : List At)
 | cutf (o : Nat)
inductive SV where
 | v (x : V1)
 | tup (xs : List V1)
inductive Ob where
 | box (T : Nat) (ls : List At)
 | row (e : Nat) (t : Ty) (xs : List t.den) (m : Md) (full : Bool)
 | fleet (e : Nat) (d : Kd) (xs : List (bl d).den) (hole : Option Nat)
 | gone
def mB : Nat := 1000000
structure NSh where
 slots : List (Nat × SSh)
 boxes : List (Nat × OSh)
 news : List OSh
 deriving DecidableEq
inductive Ek where
 | normal
 | exit (i : Nat)
 | ret
 deriving DecidableEq
structure Cls where
 cls : List (Ek × NSh)
 M : List Nat
 sy : List Nat
 deriving DecidableEq
inductive Plan where
 | nil
 | b (ps : List Plan)
 | n (p : Plan)
 | j (c : Cls) (p : Plan) (ps : List Plan)
 | l (hd oc : Cls) (hs os : List Plan)
 | r (hd oc : Cls) (hs ns os : List Plan)
 | d (st : List Nat) (ex : List (Nat × List Nat)) (tab : List (Nat × Nat)) (p : Plan)
 | t (p : Plan)
def Plan.kid : Plan → Nat → Plan
 | .b ps, i => ps.getD i .nil
 | _, _ => .nil
structure GV0 where
 v : Value
 one : v.oneCell' = true
 b : Nat
 cs : List Value
 fs : List Fact
structure GV where
 v : Value
 one : v.oneCell' = true
 bb : Nat × (Nat → Nat)
 cs : List Value
 fs : List Fact
 ks : List (Nat → GV0)
@[reducible] def GV.b (G : GV) : Nat := G.bb.1
abbrev Env := Nat → GV
def gv0 : GV0 := ⟨.nilFunc, rfl, 0, [], []⟩
def GV0.up (G : GV0) : GV := ⟨G.v, G.one, (G.b, fun _ => 0), G.cs, G.fs, []⟩
def dK (G : GV) (k : Nat) : Env := fun j => ((G.ks.getD k (fun _ => gv0)) j).up
def gi (G : GV) (k : Nat) : Nat := G.bb.2 k
def mH (G : GV) (k : Int) (off : Nat) : Option Addr := some ⟨gi G k.toNat, off, none⟩
def gI : At → Bool
 | .un => false
 | _ => true
def ba (g : Env) : At → List Value
 | .fl t x => (am t).cells x
 | .lit b => [.bool b]
 | .sl o => [(g o).v]
 | .nils _ _ => [.slice none 0 0]
 | .nil0 => [.slice none 0 0]
 | .nilr _ _ => [.slice none 0 0]
 | .ptr b off => [.pointer (some ⟨(g b).b, off, none⟩)]
 | .pel o k off => [.pointer (mH (g o) k off)]
 | .asl b off n => [.slice (some ⟨(g b).b, off, none⟩) n n]
 | .nilp => [.pointer none]
 | .nilf => [.nilFunc]
 | .nili => [.nilIface]
 | .un => [undef]
def av (g : Env) (ls : List At) : List Value := ls.flatMap (ba g)
def aJ (g : Env) : At → Value
 | .fl (.int k) x => .int k x
 | .fl .bool x => .bool x
 | .fl .str x => .string x
 | .fl (.sl _ _) _ => .nilFunc
 | .fl .unit x => .agg ((am .unit).cells x).toArray
 | .fl (.arr n t) x => .agg ((am (.arr n t)).cells x).toArray
 | .fl (.pair a b) x => .agg ((am (.pair a b)).cells x).toArray
 | .lit b => .bool b
 | .sl o => (g o).v
 | .nils _ _ => .slice none 0 0
 | .nil0 => .slice none 0 0
 | .nilr _ _ => .slice none 0 0
 | .ptr b off => .pointer (some ⟨(g b).b, off, none⟩)
 | .pel o k off => .pointer (mH (g o) k off)
 | .asl b off n => .slice (some ⟨(g b).b, off, none⟩) n n
 | .nilp => .pointer none
 | .nilf => .nilFunc
 | .nili => .nilIface
 | .un => undef
def ka : Value → Value
 | .slice ao n _ => .slice ao n n
 | v => v
def aU (g : Env) : V1 → Value
 | .a x => aJ g x
 | .elp o sz i off => .pointer (some ((ib (g o).v (i.toNat * sz)).add off))
 | .arp b off t n i => .pointer (some ⟨(g b).b, off + i.toNat * t.sz, none⟩)
 | .fn f fs cs => .func (.func f) (fs.map (aJ g)).toArray (cs.map (aJ g)).toArray
 | .st ls => .agg (av g ls).toArray
 | .cutf o => ka (g o).v
def aq (g : Env) : SV → Value
 | .v x => aU g x
 | .tup xs => .tuple (xs.map (aU g)).toArray
structure St where
 slots : List (Nat × SV)
 obs : List Ob
 mods : List Nat
 pl : Plan
def At.sz : At → Nat
 | .fl t _ => t.sz
 | _ => 1
def St.ob (S : St) (i : Nat) : Ob := S.obs.getD i .gone
def az : List (Nat × SV) → Nat → Option SV
 | [], _ => none
 | (i, v) :: m, t => if i == t then some v else az m t
def Ct : List (Nat × SV) → Nat → List (Nat × SV)
 | [], _ => []
 | (i, v) :: m, t => if i == t then Ct m t else (i, v) :: Ct m t
def GS (m : List (Nat × SV)) : Option Nat → SV → List (Nat × SV)
 | none, _ => m
 | some d, v => (d, v) :: Ct m d
def St.kid (S : St) (i : Nat) : St := { S with pl := S.pl.kid i }
def St.to (S : St) (p : Plan) : St := { S with pl := p }
def St.put (S : St) (d : Option Nat) (v : SV) : St := { S with slots := GS S.slots d v }
def St.add (S : St) (news : List Ob) : St := { S with obs := S.obs ++ news }
def St.setOb (S : St) (i : Nat) (o : Ob) : St := { S with obs := S.obs.set i o, mods := i :: S.mods }
def SV.int (k : IntKind) (x : Int) : SV := .v (.a (.fl (.int k) x))
def SV.bool (b : Bool) : SV := .v (.a (.fl .bool b))
def SV.lit (b : Bool) : SV := .v (.a (.lit b))
def SV.str (s : ByteArray) : SV := .v (.a (.fl .str s))
def yg (P : Program) : Nat → TypeId → Option Ty
 | 0, _ => none
 | d + 1, t => match P.underlying t with
   | some .bool => some .bool
   | some (.int k) => some (.int k)
   | some .string => some .str
   | some (.array n e) => (yg P d e).bind fun u => if u.flat then some (.arr n u) else none
   | some (.slice e) => (yg P d e).map (.sl e)
   | some (.struct fs) => ((fs.toList.map (·.type)).mapM (yg P d)).map yf
   | _ => none
def depth : Nat := 8
def D0 (e : Nat) : List (Nat × List OSh) → Nat → Option Nat
 | [], _ => none
 | p :: r, d => if p.1 = e then some d else D0 e r (d + 1)
def D8 (e : Nat) : Option Kd := (D0 e regs0 0).map fun d => ⟨d, false⟩
def D9 (P : Program) (t : TypeId) : At :=
 match P.underlying t with
 | some (.slice e) => match yg P depth e with
   | some u => .nils e u
   | none => match D8 e with
     | some d => .nilr e d
     | none => .nil0
 | _ => .nil0
def vO (P : Program) (t : TypeId) : At → At
 | .nil0 => D9 P t
 | a => a
def cd (P : Program) (t : TypeId) : SV → SV
 | .v (.a x) => .v (.a (vO P t x))
 | v => v
def aN : At → List Nat
 | .sl o => [o]
 | .ptr b _ => [b]
 | .pel o _ _ => [o]
 | .asl b _ _ => [b]
 | _ => []
def H1 (P : Program) : Nat → TypeId → Option (List At)
 | 0, _ => none
 | d + 1, t => match P.underlying t with
   | some .bool => some [.lit false]
   | some (.int k) => some [.fl (.int k) (0 : Int)]
   | some .string => some [.fl .str (⟨#[]⟩ : ByteArray)]
   | some (.pointer _) => some [.nilp]
   | some (.slice _) => some [D9 P t]
   | some (.func _ _ _) => some [.nilf]
   | some (.interface _) => some [.nili]
   | some (.array n e) => (yg P d t).map fun u => [.fl u u.dflt]
   | some (.struct fs) => ((fs.toList.map (·.type)).mapM (H1 P d)).map List.flatten
   | _ => none
def cellsOf (P : Program) (t : TypeId) : Option Nat := (P.info? t).map (·.size)
def Ea : Value → Value → Bool
 | .int k a, .int l b => decide (k = l ∧ a = b)
 | .bool a, .bool b => decide (a = b)
 | .string a, .string b => decide (a.data.toList = b.data.toList)
 | .pointer none, .pointer none => true
 | .slice none 0 0, .slice none 0 0 => true
 | .nilFunc, .nilFunc => true
 | .nilIface, .nilIface => true
 | _, _ => false
def oY : List Value → List Value → Bool
 | [], [] => true
 | a :: as, b :: bs => Ea a b && oY as bs
 | _, _ => false
def vu : Env := fun _ => ⟨.nilFunc, rfl, (0, fun _ => 0), [], [], []⟩
def yh (P : Program) (t : TypeId) : Option (List At) :=
 match H1 P depth t, sg P t with
 | some ls, some cs => if oY cs (av vu ls) && ls.all gI && (ls.flatMap aN).isEmpty then some ls else none
 | _, _ => none
def yi (P : Program) (t : TypeId) (u : Ty) : Bool :=
 match sg P t with
 | some cs => oY cs ((am u).cells u.dflt)
 | none => false
def cst : Value → Option At
 | .int k n => some (.fl (.int k) n)
 | .bool b => some (.lit b)
 | .string s => some (.fl .str s)
 | .slice none 0 0 => some .nil0
 | .pointer none => some .nilp
 | .nilFunc => some .nilf
 | .nilIface => some .nili
 | _ => none
def shift : Nat := 5000
def rG : Nat := 1000 * shift
def yj (l : List (Nat × SV)) (b : Nat) : Option SV :=
 match l.find? fun p => decide (rG ≤ p.1) && decide (p.1 % shift = b) with
 | some p => match az l p.1 with
   | some (.v (.a (.ptr o 0))) => some (.v (.a (.ptr o 0)))
   | _ => none
 | none => none
def opA (S : St) : Operand → Option SV
 | .tmp t => if t < shift then az S.slots t else none
 | .const v => (cst v).map fun a => .v (.a a)
 | .func f => some (.v (.fn f [] []))
 | .global b => yj S.slots b
def LG : SV → Option Value
 | .v (.a (.fl (.int k) x)) => some (.int k x)
 | .v (.a (.fl .bool b)) => some (.bool b)
 | .v (.a (.lit b)) => some (.bool b)
 | .v (.a (.fl .str s)) => some (.string s)
 | .v (.a .nilp) => some (.pointer none)
 | .v (.a .nilf) => some .nilFunc
 | _ => none
def mI : List At → Nat → Option (List At)
 | _, 0 => some []
 | [], _ => none
 | a :: ls, n + 1 => if a.sz ≤ n + 1 then (mI ls (n + 1 - a.sz)).map (a :: ·) else none
def gz : List At → Nat → Option (List At)
 | ls, 0 => some ls
 | [], _ => none
 | a :: ls, n + 1 => if a.sz ≤ n + 1 then gz ls (n + 1 - a.sz) else none
def Ag (ls : List At) (off n : Nat) : Option (List At) := (gz ls off).bind fun r => mI r n
def bR (ls : List At) : Nat := (ls.map At.sz).sum
def Ah (ls : List At) (off : Nat) (us : List At) : Option (List At) :=
 (mI ls off).bind fun pre => (gz ls off).bind fun r => (mI r (bR us)).bind fun _ => (gz r (bR us)).map fun post => pre ++ us ++ post
def sj : SV → Option (List At)
 | .v (.a x) => if gI x then some [x] else none
 | .v (.st ls) => if ls.all gI then some ls else none
 | _ => none
def Eb : At → Bool
 | .fl (.int _) _ | .fl .bool _ | .fl .str _ => true
 | .fl _ _ | .un => false
 | _ => true
def iE (P : Program) (t : TypeId) (ls : List At) : Option SV :=
 match bL P t with
 | 5 => some (.v (.st ls))
 | 6 => match ls with
   | [.fl (.arr n u) x] => some (.v (.a (.fl (.arr n u) x)))
   | _ => none
 | 0 => none
 | _ => match ls with
   | [a] => if Eb a then some (.v (.a a)) else none
   | _ => none
def bg : V1 → List Nat
 | .a x => aN x
 | .elp o _ _ _ => [o]
 | .arp b _ _ _ _ => [b]
 | .fn _ fs cs => fs.flatMap aN ++ cs.flatMap aN
 | .st ls => ls.flatMap aN
 | .cutf o => [o]
def aM : SV → List Nat
 | .v x => bg x
 | .tup xs => xs.flatMap bg
def bm (m : Md) : (t : Ty) → t.den → Nat → List At × List Ob
 | .pair a b, x, n => let (l1, o1) := bm m a x.1 n; let (l2, o2) := bm m b x.2 (n + o1.length); (l1 ++ l2, o1 ++ o2)
 | .sl e t, xs, n => ([.sl n], [.row e t xs m false])
 | .unit, _, _ => ([], [])
 | .int k, x, _ => ([.fl (.int k) x], [])
 | .bool, x, _ => ([.fl .bool x], [])
 | .str, x, _ => ([.fl .str x], [])
 | .arr n t, x, _ => ([.fl (.arr n t) x], [])
def Ec (S : St) (e : Nat) (t : Ty) : At → Option (List t.den)
 | .sl o => match S.ob o with
   | .row e' u xs .rd _ => if e' = e then cm (a := .sl 0 u) (b := .sl 0 t) xs else none
   | _ => none
 | .nils _ _ => some []
 | _ => none
def H2 : At → Option Bool
 | .lit b => some b
 | .fl u x => cm (a := u) (b := .bool) x
 | _ => none
def vP (t : Ty) : At → Option t.den
 | .fl u x => cm (a := u) (b := t) x
 | _ => none
def mu (S : St) : (t : Ty) → List At → Option (t.den × List At)
 | .pair a b, ls => (mu S a ls).bind fun (x, r) => (mu S b r).map fun (y, r') => ((x, y), r')
 | .unit, ls => some ((), ls)
 | .sl _ _, [] => none
 | .sl e t, a :: r => (Ec S e t a).map (·, r)
 | .bool, [] => none
 | .bool, a :: r => (H2 a).map (·, r)
 | .int _, [] => none
 | .int k, a :: r => (vP (.int k) a).map (·, r)
 | .str, [] => none
 | .str, a :: r => (vP .str a).map (·, r)
 | .arr _ _, [] => none
 | .arr n t, a :: r => (vP (.arr n t) a).map (·, r)
structure Qt where
 p : Prop
 dp : Decidable p
 news : List Ob
 v : SV
def q0 (v : SV) : Qt := ⟨True, inferInstance, [], v⟩
def qp (p : Prop) [d : Decidable p] (v : SV) : Qt := ⟨p, d, [], v⟩
def mJ (P : Program) (t : TypeId) (f : Nat) : Option (TypeId × Nat) :=
 match P.underlying t with
 | some (.struct fs) => (fs[f]?).map fun fd => (fd.type, fd.offset)
 | _ => none
def sEq (a b : ByteArray) : Bool := a.data.toList == b.data.toList
def Bx (a b : ByteArray) : Bool := Op.bytesLess a.data.toList b.data.toList
def Jw (op : BinOp) (k : IntKind) (a b : Int) : Option Qt :=
 match op with
 | .add => some (q0 (.int k (WK k (a + b))))
 | .sub => some (q0 (.int k (WK k (a - b))))
 | .mul => some (q0 (.int k (WK k (a * b))))
 | .quo => some (qp (b ≠ 0) (.int k (WK k (a.tdiv b))))
 | .rem => some (qp (b ≠ 0) (.int k (a.tmod b)))
 | .and => some (q0 (.int k (be k a b)))
 | .or => some (q0 (.int k (orK k a b)))
 | .xor => some (q0 (.int k (cI k a b)))
 | .andNot => some (q0 (.int k (k.wrap (BitVec.ofInt k.bits a &&& ~~~(BitVec.ofInt k.bits b)).toNat)))
 | .eql => some (q0 (.bool (a == b)))
 | .neq => some (q0 (.bool (a != b)))
 | .lss => some (q0 (.bool (decide (a < b))))
 | .leq => some (q0 (.bool (decide (a ≤ b))))
 | .gtr => some (q0 (.bool (decide (a > b))))
 | .geq => some (q0 (.bool (decide (a ≥ b))))
 | _ => none
def Jx (op : BinOp) (a b : ByteArray) : Option Qt :=
 match op with
 | .add => some (qp (a.size + b.size ≤ 9223372036854775807) (.str (a ++ b)))
 | .eql => some (q0 (.bool (sEq a b)))
 | .neq => some (q0 (.bool (!(sEq a b))))
 | .lss => some (q0 (.bool (Bx a b)))
 | .leq => some (q0 (.bool (Bx a b || sEq a b)))
 | .gtr => some (q0 (.bool (!(Bx a b || sEq a b))))
 | .geq => some (q0 (.bool (!(Bx a b))))
 | _ => none
def toB : At → Option Bool
 | .fl .bool b => some b
 | .lit b => some b
 | _ => none
def lD (op : BinOp) (same : Bool) : Option Qt :=
 match op with
 | .eql => some (q0 (.lit same))
 | .neq => some (q0 (.lit (!same)))
 | _ => none
def By (P : Program) (ls : List At) (ft : TypeId) (off : Nat) : Option SV :=
 match cellsOf P ft with
 | some n => (Ag ls off n).bind (iE P ft)
 | none => none
def GT (P : Program) (cmp : TypeId → SV → SV → Option Bool) (xs ys : List At) : List Field → Option Bool
 | [] => some true
 | f :: fs => if f.name == "_" then none else match By P xs f.type f.offset, By P ys f.type f.offset with
   | some a, some b => match cmp f.type a b, GT P cmp xs ys fs with
     | some e, some r => some (e && r)
     | _, _ => none
   | _, _ => none
def tI (n : Nat) (x y : Vector Int n) : List Nat → Bool
 | [] => true
 | i :: is => (x.toList.getD i 0 == y.toList.getD i 0) && tI n x y is
def Ed (P : Program) : Nat → TypeId → SV → SV → Option Bool
 | 0, _, _, _ => none
 | d + 1, t, x, y => match x, y with
   | .v (.a (.fl (.int k) a)), .v (.a (.fl (.int k') b)) => if bL P t = 2 ∧ k = k' then some ((a : Int) == b) else none
   | .v (.a (.fl .str a)), .v (.a (.fl .str b)) => if bL P t = 3 then some (sEq a b) else none
   | .v (.st xs), .v (.st ys) => match P.underlying t with
     | some (.struct fs) => if P.stoodInHeld t then none else GT P (Ed P d) xs ys fs.toList
     | _ => none
   | .v (.a (.fl (.arr n (.int k)) a)), .v (.a (.fl (.arr n' (.int k')) b)) => match P.underlying t with
     | some (.array m e) => if h : n = n' ∧ k = k' then if m = n ∧ 0 < d ∧ (P.info? e).isSome = true ∧ P.cellsOf e = 1 ∧ jV P e = true ∧ bL P e = 2 then
      some (tI n a (h.1 ▸ (b : Vector Int n')) (List.range n)) else none else none
     | _ => none
   | .v (.a x), .v (.a y) => match toB x, toB y with
     | some a, some b => if bL P t = 1 then some (a == b) else none
     | _, _ => none
   | _, _ => none
def wY : SV → Bool
 | .v (.st _) | .v (.a (.fl (.arr _ _) _)) => true
 | _ => false
def eqS (P : Program) (S : St) (op : BinOp) (t : TypeId) (x y : SV) : Option Qt :=
 if wY x = true ∧ wY y = true ∧ P.eqGuardType P.depth t = false then match Ed P 12 t x y with
  | some r => match op with
    | .eql => some (q0 (.bool r))
    | .neq => some (q0 (.bool (!r)))
    | _ => none
  | none => none
 else none
def Jy (P : Program) (S : St) (op : BinOp) (t : TypeId) (x y : SV) : Option Qt :=
 match x, y with
 | .v (.a (.fl (.int k) a)), .v (.a (.fl (.int k') b)) =>
   match op with
   | .shl => some (qp (0 ≤ (b : Int)) (.int k (cj k a b)))
   | .shr => some (qp (0 ≤ (b : Int)) (.int k (cV k a b)))
   | _ => if k = k' then Jw op k a b else none
 | .v (.a (.fl .str a)), .v (.a (.fl .str b)) => Jx op a b
 | .v (.a .nilp), .v (.a .nilp) => if bL P t = 7 then lD op true else none
 | .v (.a .nilp), .v (.a (.ptr _ _)) => if bL P t = 7 then lD op false else none
 | .v (.a (.ptr _ _)), .v (.a .nilp) => if bL P t = 7 then lD op false else none
 | .v (.a .nilp), .v (.a (.pel _ _ _)) => if bL P t = 7 then lD op false else none
 | .v (.a (.pel _ _ _)), .v (.a .nilp) => if bL P t = 7 then lD op false else none
 | .v (.a .nilf), .v (.a .nilf) => if bL P t = 9 then lD op true else none
 | .v (.fn _ _ _), .v (.a .nilf) => if bL P t = 9 then lD op false else none
 | .v (.a x), .v (.a y) => match toB x, toB y with
   | some a, some b => if bL P t = 1 then match op with
    | .eql => some (q0 (.bool (a == b)))
    | .neq => some (q0 (.bool (!(a == b))))
    | _ => none
     else none
   | _, _ => eqS P S op t (.v (.a x)) (.v (.a y))
 | x, y => eqS P S op t x y
def unS (op : UnOp) : SV → Option Qt
 | .v (.a (.lit b)) => match op with
   | .not => some (q0 (.lit (!b)))
   | _ => none
 | .v (.a (.fl .bool b)) => match op with
   | .not => some (q0 (.bool (!b)))
   | _ => none
 | .v (.a (.fl (.int k) n)) => match op with
   | .neg => some (q0 (.int k (WK k (0 - n))))
   | .xor => some (q0 (.int k (cI k (if k.signed then -1 else k.max) n)))
   | _ => none
 | _ => none
def Jz (P : Program) (S : St) (t : TypeId) : SV → Option Qt
 | .v (.a (.fl .str s)) => if bL P t = 3 then some (q0 (.int .i64 (s.size : Int))) else none
 | .v (.a (.sl o)) => if bL P t = 4 then match S.ob o with
  | .row _ _ xs _ _ => some (q0 (.int .i64 (xs.length : Int)))
  | .fleet _ _ xs _ => some (q0 (.int .i64 (xs.length : Int)))
  | _ => none
   else none
 | .v (.a (.nils _ _)) => if bL P t = 4 then some (q0 (.int .i64 (0 : Int))) else none
 | .v (.a .nil0) => if bL P t = 4 then some (q0 (.int .i64 (0 : Int))) else none
 | .v (.a (.nilr _ _)) => if bL P t = 4 then some (q0 (.int .i64 (0 : Int))) else none
 | _ => none
def GU (big : Bool) : List SV → Option Qt
 | [.v (.a (.fl (.int k) a)), .v (.a (.fl (.int _) b))] => some (q0 (.int k (if big then mxI a b else mnI a b)))
 | [.v (.a (.fl (.int k) a)), .v (.a (.fl (.int _) b)), .v (.a (.fl (.int _) c))] => some (q0 (.int k (if big then mxI (mxI a b) c else mnI (mnI a b) c)))
 | _ => none
def JA (P : Program) (S : St) (t : TypeId) : SV → SV → Option Qt
 | .v (.a (.sl o)), .v (.a (.fl (.int k) i)) => match S.ob o with
   | .row _ u xs _ _ => if bZ P t = some u.sz then some (qp (0 ≤ (i : Int) ∧ (i : Int) < xs.length) (.v (.elp o u.sz i 0))) else none
   | .fleet _ _ xs _ => if bZ P t = some 1 then some (qp (0 ≤ (i : Int) ∧ (i : Int) < xs.length) (.v (.elp o 1 i 0))) else none
   | _ => none
 | .v (.a (.ptr b off)), .v (.a (.fl (.int k) i)) => match S.ob b with
   | .box _ ls => match gz ls off with
     | some (.fl (.arr n u) _ :: _) => if arrAt? P t = some (n, u.sz) then some (qp (0 ≤ (i : Int) ∧ (i : Int) < n) (.v (.arp b off u n i))) else none
     | _ => none
   | _ => none
 | _, _ => none
def Ty.sc1 : Ty → Bool
 | .int _ | .bool | .str => true
 | _ => false
def JB (P : Program) (t : TypeId) : Bool :=
 match P.underlying t with
 | some (.array _ e) => jV P e
 | _ => false
def idx (P : Program) (t : TypeId) : SV → SV → Option Qt
 | .v (.a (.fl .str s)), .v (.a (.fl (.int k) i)) => if bL P t = 3 then some (qp (0 ≤ (i : Int) ∧ (i : Int) < (s.size : Int)) (.int .u8 (sAt s i))) else none
 | .v (.a (.fl (.arr n u) x)), .v (.a (.fl (.int k) i)) => if arrAt? P t = some (n, u.sz) ∧ u.sc1 = true ∧ JB P t = true then
  some (qp (0 ≤ (i : Int) ∧ (i : Int) < n) (.v (.a (.fl u (vAt u.dflt x i))))) else none
 | _, _ => none
def fiA : ASh → List Dyn → Option (At × List Dyn)
 | .fl t, d :: ds => (cm (a := d.1) (b := t) d.2).map fun x => (.fl t x, ds)
 | .fl _, [] => none
 | .sl o, ds => some (.sl o, ds)
 | .ptr b off, ds => some (.ptr b off, ds)
 | .pel o off, d :: ds => (cm (a := d.1) (b := .int .i64) d.2).map fun (k : Int) => (.pel o k off, ds)
 | .pel _ _, [] => none
 | .asl b off n, ds => some (.asl b off n, ds)
 | .nil0, ds => some (.nil0, ds)
 | .nilp, ds => some (.nilp, ds)
 | .nilf, ds => some (.nilf, ds)
 | .nili, ds => some (.nili, ds)
 | .un, ds => some (.un, ds)
def bn {α β : Type} (f : α → List Dyn → Option (β × List Dyn)) : List α → List Dyn → Option (List β × List Dyn)
 | [], ds => some ([], ds)
 | x :: xs, ds => match f x ds with
   | some (y, ds1) => match bn f xs ds1 with
     | some (ys, ds2) => some (y :: ys, ds2)
     | none => none
   | none => none
def fiV : VSh → List Dyn → Option (V1 × List Dyn)
 | .a x, ds => (fiA x ds).map fun p => (.a p.1, p.2)
 | .fn f fs cs, ds => match bn fiA fs ds with
   | some (a, ds1) => (bn fiA cs ds1).map fun p => (.fn f a p.1, p.2)
   | none => none
 | .st ls, ds => (bn fiA ls ds).map fun p => (.st p.1, p.2)
def fiS : SSh → List Dyn → Option (SV × List Dyn)
 | .v x, ds => (fiV x ds).map fun p => (.v p.1, p.2)
 | .tup xs, ds => (bn fiV xs ds).map fun p => (.tup p.1, p.2)
def fiO : OSh → List Dyn → Option (Ob × List Dyn)
 | .box T ls, ds => (bn fiA ls ds).map fun p => (.box T p.1, p.2)
 | .row e t m, d :: ds => (cm (a := d.1) (b := .sl e t) d.2).map fun (xs : List t.den) => (.row e t xs m false, ds)
 | .row _ _ _, [] => none
 | .fleet e d, x :: ds => (cm (a := x.1) (b := .sl 0 (bl d)) x.2).map fun (xs : List (bl d).den) => (.fleet e d xs none, ds)
 | .fleet _ _, [] => none
 | .gone, ds => some (.gone, ds)
def GW : (ts : List Ty) → (yf ts).den → List Dyn
 | [], _ => []
 | [t], x => [⟨t, x⟩]
 | t :: u :: ts, x => ⟨t, x.1⟩ :: GW (u :: ts) x.2
def jB (d : Kd) (x : (bl d).den) : Option (List Ob) := match bn fiO (Cs d) (GW (DZ d) x) with
 | some (os, []) => some os
 | _ => none
def inner : Md → Md
 | .lent => .lent
 | _ => .rd
def sk : Bool → Md → Md
 | true, _ => .lent
 | false, m => m
def aY (l : Bool) : Ob → Ob
 | .row e t xs m fu => .row e t xs (sk l m) fu
 | o => o
def wZ (l : Bool) (os : List Ob) : List At → Nat → Option (List At × List Ob)
 | [], _ => some ([], [])
 | .fl t x :: r, n => (wZ l os r n).map fun p => (.fl t x :: p.1, p.2)
 | .sl j :: r, n => match aY l (os.getD j .gone) with
   | .row e t xs .rd _ => (wZ l os r (n + 1)).map fun p => (.sl n :: p.1, .row e t xs .rd false :: p.2)
   | .row e t xs .lent _ => (wZ l os r (n + 1)).map fun p => (.sl n :: p.1, .row e t xs .lent false :: p.2)
   | _ => none
 | _ :: _, _ => none
def ldS (P : Program) (S : St) (t : TypeId) : SV → Option Qt
 | .v (.a (.ptr b off)) => match S.ob b, cellsOf P t with
   | .box _ ls, some n => ((Ag ls off n).bind (iE P t)).map q0
   | _, _ => none
 | .v (.elp o sz i off) => match S.ob o, cellsOf P t with
   | .row _ u xs m _, some n =>
     let (ls, news) := bm (inner m) u (at_ u xs i) S.obs.length
     ((Ag ls off n).bind (iE P t)).map fun v => ⟨True, inferInstance, if (aM v).isEmpty then [] else news, v⟩
   | .fleet _ _ xs none, _ => if sz = 1 ∧ off = 0 ∧ jV P t = true then some (qp (0 ≤ i ∧ i < (xs.length : Int)) (.v (.a (.pel o i 0)))) else none
   | _, _ => none
 | .v (.a (.pel o k off)) => match S.ob o, cellsOf P t with
   | .fleet _ d xs none, some n => match jB d (at_ (bl d) xs k) with
     | some (.box T ls :: os) => match Ag ls off n with
       | some seg => match wZ d.l (.box T ls :: os) seg S.obs.length with
         | some (seg', news) => (iE P t seg').map fun v => ⟨0 ≤ k ∧ k < (xs.length : Int), inferInstance, news, v⟩
         | none => none
       | none => none
     | _ => none
   | _, _ => none
 | .v (.arp b off u n i) => match S.ob b with
   | .box _ ls => match gz ls off with
     | some (.fl (.arr n' u') x :: _) => if u' = u ∧ n' = n ∧ u'.sc1 = true ∧ jV P t = true then some (q0 (.v (.a (.fl u' (vAt u'.dflt x i))))) else none
     | _ => none
   | _ => none
 | _ => none
def Ai (P : Program) (t : TypeId) (f : Nat) : SV → Option Qt
 | .v (.st ls) => match mJ P t f with
   | some (ft, off) => match cellsOf P ft with
     | some n => ((Ag ls off n).bind (iE P ft)).map q0
     | none => none
   | none => none
 | _ => none
def Aj (P : Program) (t : TypeId) (f : Nat) : SV → Option Qt
 | .v (.a (.ptr b off)) => (fieldAt? P t f).map fun fo => q0 (.v (.a (.ptr b (off + fo))))
 | .v (.a (.pel o k off)) => (fieldAt? P t f).map fun fo => q0 (.v (.a (.pel o k (off + fo))))
 | .v (.elp o sz i off) => (fieldAt? P t f).map fun fo => q0 (.v (.elp o sz i (off + fo)))
 | _ => none
def yk (P : Program) (t : TypeId) : List At → List (Nat × SV) → Option (List At)
 | zs, [] => some zs
 | zs, (j, v) :: ps => match mJ P t j with
   | some (ft, off) => match sj (cd P ft v) with
     | some us => if cellsOf P ft = some (bR us) then (Ah zs off us).bind fun zs' => yk P t zs' ps else none
     | none => none
   | none => none
def gA (u : Ty) : List u.den → List (Nat × SV) → Option (List u.den)
 | xs, [] => some xs
 | xs, (j, .v (.a (.fl w x))) :: ps => match cm (a := w) (b := u) x with
   | some y => if j < xs.length then gA u (xs.set j y) ps else none
   | none => none
 | _, _ => none
def vQ (P : Program) (t : TypeId) : Bool :=
 match P.underlying t with
 | some (.struct fs) => (jh P fs.toList).isSome
 | _ => false
def Ak (P : Program) (t : TypeId) (ps : List (Nat × SV)) : Option Qt :=
 match bL P t with
 | 5 => match yh P t with
   | some zs => if vQ P t then (yk P t zs ps).map fun ls => q0 (.v (.st ls)) else none
   | none => none
 | 6 => match yg P depth t with
   | some (.arr n u) => match (if yi P t (.arr n u) && (arrAt? P t == some (n, u.sz)) && u.flat then gA u (List.replicate n u.dflt) ps else none) with
     | some xs => if h : xs.length = n then some (q0 (.v (.a (.fl (.arr n u) (⟨xs.toArray, by simpa using h⟩ : Vector u.den n))))) else none
     | none => none
   | _ => none
 | _ => none
def ats : List SV → Option (List At)
 | [] => some []
 | .v (.a x) :: r => (ats r).map (x :: ·)
 | _ => none
def mv : Option SV → Option (Option Int)
 | none => some none
 | some (.v (.a (.fl (.int _) i))) => some (some i)
 | _ => none
def oM : Option SV → Option IntKind
 | some (.v (.a (.fl (.int k) _))) => some k
 | _ => none
def yl {α : Type} (h : Option Int) (xs : List α) : List α :=
 match h with
 | some h => xs.take h.toNat
 | none => xs
def ym {α : Type} (l : Option Int) (xs : List α) : List α :=
 match l with
 | some l => xs.drop l.toNat
 | none => xs
def Ee (P : Program) (S : St) (t : TypeId) (x : SV) (lo hi mx : Option SV) : Option Qt :=
 match x, mv lo, mv hi, mv mx with
 | .v (.a (.fl .str s)), some l, some h, some none => if bL P t = 3 then
  some (qp (0 ≤ l.getD 0 ∧ l.getD 0 ≤ h.getD (s.size : Int) ∧ h.getD (s.size : Int) ≤ (s.size : Int)) (.str (s.extract (l.getD 0).toNat (h.getD (s.size : Int)).toNat))) else none
 | .v (.a (.sl o)), some l, some h, some m => match S.ob o with
   | .row e u xs md _ => if md = .own then none else if bZ P t = some u.sz ∧ (m.isSome = true → h.isSome = true ∧ oM hi = oM mx) then
    some ⟨0 ≤ l.getD 0 ∧ l.getD 0 ≤ h.getD (xs.length : Int) ∧ h.getD (xs.length : Int) ≤ (xs.length : Int) ∧ m.getD (h.getD (xs.length : Int)) = h.getD (xs.length : Int), inferInstance, [.row e u (ym l (yl h xs)) md m.isSome], .v (.a (.sl S.obs.length))⟩
     else none
   | .fleet _ _ xs none => if bZ P t = some 1 ∧ l = none ∧ m.isSome = true ∧ h.isSome = true ∧ oM hi = oM mx then
    some (qp (h.getD (xs.length : Int) = (xs.length : Int) ∧ m.getD (h.getD (xs.length : Int)) = h.getD (xs.length : Int)) (.v (.cutf o))) else none
   | _ => none
 | .v (.a (.ptr b off)), some none, some none, some none => match S.ob b with
   | .box _ ls => match gz ls off with
     | some (.fl (.arr n u) _ :: _) => if arrAt? P t = some (n, u.sz) ∧ n ≤ 9223372036854775807 then some (q0 (.v (.a (.asl b off n)))) else none
     | _ => none
   | _ => none
 | _, _, _, _ => none
def Bz (u : Ty) (xs : List u.den) : Option (List Int) := cm (a := .sl 0 u) (b := .sl 0 (.int .u8)) xs
def Ef (P : Program) (S : St) (src dst : TypeId) : SV → Option Qt
 | .v (.a (.fl (.int _) n)) => match P.underlying src, P.underlying dst with
   | some _, some (.int k) => some (q0 (.int k (WK k n)))
   | _, _ => none
 | .v (.a (.sl o)) => match S.ob o with
   | .row _ u xs _ _ => if mG P src dst = true then (Bz u xs).map fun l => q0 (.str (strOfNums l)) else none
   | _ => none
 | .v (.a (.nils _ _)) => if mG P src dst = true then some (q0 (.str (strOfNums []))) else none
 | .v (.a (.asl b off n)) => match S.ob b with
   | .box _ ls => match gz ls off with
     | some (.fl (.arr n' u) x :: _) => if mG P src dst = true ∧ n' = n ∧ n ≤ 9223372036854775807 then (Bz u x.toList).map fun l => q0 (.str (strOfNums l)) else none
     | _ => none
   | _ => none
 | _ => none
def tJ (S : St) (l : List Operand) : Option (List SV) := l.mapM (opA S)
def opO (S : St) : Option Operand → Option (Option SV)
 | none => some none
 | some x => (opA S x).map some
def parts (S : St) : List (Nat × Operand) → Option (List (Nat × SV))
 | [] => some []
 | (j, x) :: r => match opA S x, parts S r with
   | some v, some vs => some ((j, v) :: vs)
   | _, _ => none
def pP (P : Program) (S : St) (ty : TypeId) (op : Op) : Option Qt :=
 match op with
 | .move x | .assign x => (opA S x).map fun v => q0 (cd P ty v)
 | .pick c x y => match opA S c with
   | some (.v (.a (.lit b))) => (opA S (if b then x else y)).map fun v => q0 (cd P ty v)
   | _ => none
 | .nilCheck x => match opA S x with
   | some (.v (.a (.ptr b o))) => some (q0 (.v (.a (.ptr b o))))
   | some (.v (.a (.pel o k off))) => some (q0 (.v (.a (.pel o k off))))
   | some (.v (.elp o s i f)) => some (q0 (.v (.elp o s i f)))
   | some (.v (.arp b o t n i)) => some (q0 (.v (.arp b o t n i)))
   | _ => none
 | .binOp op t x y _ => match opA S x, opA S y with
   | some a, some b => Jy P S op t a b
   | _, _ => none
 | .unOp op _ x => (opA S x).bind (unS op)
 | .extract x i => match opA S x with
   | some (.tup vs) => (vs[i]?).map fun v => q0 (.v v)
   | _ => none
 | .field t x f => (opA S x).bind (Ai P t f)
 | .fieldAddr t x f => (opA S x).bind (Aj P t f)
 | .indexAddr t x i => match opA S x, opA S i with
   | some a, some b => JA P S t a b
   | _, _ => none
 | .index t x i => match opA S x, opA S i with
   | some a, some b => idx P t a b
   | _, _ => none
 | .load t x => (opA S x).bind (ldS P S t)
 | .build t ps => (parts S ps.toList).bind (Ak P t)
 | .makeFunc (.func f) fs cs => match (tJ S fs.toList).bind ats, (tJ S cs.toList).bind ats with
   | some a, some b => some (q0 (.v (.fn f a b)))
   | _, _ => none
 | .slice t x l h m => match opA S x, opO S l, opO S h, opO S m with
   | some x, some l, some h, some m => Ee P S t x l h m
   | _, _, _, _ => none
 | .convert s d x => (opA S x).bind (Ef P S s d)
 | .call { callee := .builtin .len, args, argTypes } => match args.toList, argTypes.toList with
   | [x], [t] => (opA S x).bind (Jz P S t)
   | _, _ => none
 | .call { callee := .builtin .min, args, .. } => (tJ S args.toList).bind (GU false)
 | .call { callee := .builtin .max, args, .. } => (tJ S args.toList).bind (GU true)
 | _ => none
def Lh (Ti Ts : TypeId) : Code := .region 0
 #[{ dst := some 4, op := .load Ts (.tmp 1), type := Ts, pos := "iter.go:28", after := #[], guard := none },
  { dst := some 5, op := .call { callee := .builtin .len, args := #[.tmp 4], argTypes := #[Ts] }, type := Ti, pos := "iter.go:28", after := #[{ on := 0, ground := .data }], guard := none },
  { dst := some 6, op := .binOp .sub Ti (.tmp 5) (.const (.int .i64 1)) Ti, type := Ti, pos := "iter.go:28", after := #[{ on := 1, ground := .data }], guard := none },
  { dst := some 3, op := .assign (.tmp 6), type := Ti, pos := "iter.go:28", after := #[{ on := 2, ground := .data }, { on := 0, ground := .phase }, { on := 1, ground := .phase }, { on := 2, ground := .phase }], guard := none }]
 false
def Li (Ti Tb : TypeId) : Code := .region 1
 #[{ dst := some 7, op := .move (.tmp 3), type := Ti, pos := "iter.go:28", after := #[], guard := none },
  { dst := some 8, op := .binOp .geq Ti (.tmp 7) (.const (.int .i64 0)) Ti, type := Tb, pos := "iter.go:28", after := #[{ on := 0, ground := .data }], guard := none }]
 false
def Lj (Ti Tb Ts Te Ty : TypeId) : Code := .region 3
 #[{ dst := some 11, op := .move (.tmp 0), type := Ty, pos := "iter.go:29", after := #[], guard := none },
  { dst := some 12, op := .move (.tmp 3), type := Ti, pos := "iter.go:29", after := #[], guard := none },
  { dst := some 13, op := .load Ts (.tmp 1), type := Ts, pos := "iter.go:29", after := #[], guard := none },
  { dst := some 14, op := .move (.tmp 3), type := Ti, pos := "iter.go:29", after := #[], guard := none },
  { dst := some 15, op := .indexAddr Ts (.tmp 13) (.tmp 14), type := 0, pos := "iter.go:29", after := #[{ on := 2, ground := .data }, { on := 3, ground := .data }], guard := none },
  { dst := some 16, op := .load Te (.tmp 15), type := Te, pos := "iter.go:29", after := #[{ on := 4, ground := .data }], guard := none },
  { dst := some 17, op := .call { callee := .value (.tmp 11), args := #[.tmp 12, .tmp 16], argTypes := #[Ti, Te] }, type := Tb, pos := "iter.go:29", after := #[{ on := 0, ground := .data }, { on := 1, ground := .data }, { on := 5, ground := .data }], guard := none },
  { dst := some 18, op := .unOp .not Tb (.tmp 17), type := Tb, pos := "iter.go:29", after := #[{ on := 6, ground := .data }], guard := none }]
 false
def Lk (Ti : TypeId) : Code := .region 2
 #[{ dst := some 9, op := .move (.tmp 3), type := Ti, pos := "iter.go:28", after := #[], guard := none },
  { dst := some 10, op := .binOp .sub Ti (.tmp 9) (.const (.int .i64 1)) Ti, type := Ti, pos := "iter.go:28", after := #[{ on := 0, ground := .data }], guard := none },
  { dst := some 3, op := .assign (.tmp 10), type := Ti, pos := "iter.go:28", after := #[{ on := 1, ground := .data }, { on := 0, ground := .phase }, { on := 1, ground := .phase }], guard := none }]
 false
def Eg (Ti Tb Ts Te Ty : TypeId) : Code :=
 (Lh Ti Ts).seq (.block 0 ((((Li Ti Tb).seq (.cond (.tmp 8) .skip (.exit 0))).seq ((Code.block 1 ((Lj Ti Tb Ts Te Ty).seq (.cond (.tmp 18) .ret .skip))).seq (Lk Ti))).loop))
structure Bk where
 gf : Nat
 Ti : Nat
 Tb : Nat
 Ts : Nat
 Te : Nat
 Ty : Nat
structure BkOk (P : Program) (B : Bk) : Prop where
 fn : ∃ fn, P.funcs[B.gf]? = some fn ∧ fn.body = some (Eg B.Ti B.Tb B.Ts B.Te B.Ty) ∧ fn.ntmps = 19 ∧ fn.results = #[]
 en : tw P B.gf = true
 sl : bL P B.Ts = 4
theorem jC {x : Int} (h1 : -9223372036854775808 ≤ x) (h2 : x ≤ 9223372036854775807) : IntKind.wrap .i64 x = x := by
 simp only [IntKind.wrap, IntKind.bits, IntKind.signed]
 simp
 split <;> omega
section
variable {P : Program} {B : Bk}
theorem Eh {ro : Option Nat} {m k : Nat} {c : Code} {Q : Exit → Act → World → Prop} {a : Act} {w : World} (h : c.wpIn (FR ro) m P Q a w) : c.wpIn (FR ro) k P Q a w :=
 fun b kk cs h1 h2 _ => h b kk cs h1 h2 (fun d hd => by cases hd)
def kF (l : Nat) : Value := .func (.yield l) #[] #[]
theorem Ei {n l i : Nat} {m : List (Nat × Value)} {a : Act} {w : World} {ops : Array Oper} {Q : Exit → Act → World → Prop} {d : Option Tmp} {x : Operand} {xs : Array Operand} {ts : Array TypeId} {R : Value → World → Prop}
 (hS : Sl n m a) (hs : sig ops i = some (d, .call { callee := .value x, args := xs, argTypes := ts }, none)) (hd : wid n d = true) (hk : iD m (.call { callee := .value x, args := xs, argTypes := ts }) = true)
 (hx : ev m x = kF l) {A : Array Value} (hA : xs.map (ev m) = A) (hy : YieldAt (FR none) 2 P l A w fun e w' => ∃ v, e = .returned v ∧ R v w')
 (k : ∀ v w', R v w' → ∀ a', Sl n (pF m d v) a' → wl none P ops Q (i + 1) a' w') : wl none P ops Q i a w := by
 obtain ⟨o, h1, h2, h3, h4, h5⟩ := kV hs
 simp only at h3 h4 h5
 subst h3
 unfold wl
 rw [h2]
 unfold wpListIn
 rw [if_pos (by rw [gv hS (t := true) (by rw [h5]; rfl)])]
 obtain ⟨fn, tmps, assign, body, hr, hround⟩ := hy
 refine ⟨fun _ _ => trivial, ?_⟩
 have hop : iD m o.op = true := by rw [h4]; exact hk
 rw [Oper.semAt_eq _ _ _ (by intro c; rw [h4]; simp), ig hS hop]
 have e : (execOp (ev m) o).run P w = .ok (.round l fn tmps assign body) w := by
  simp only [execOp, h4, resolve, hx, kF, Deferred.ofValue, Sem.run_bind, Sem.run_pure, Result.andThen_ok, invoke]
  have e : #[] ++ xs.map (ev m) = A := by rw [hA]; simp
  simp only [Array.append_empty, e]
  exact hr
 rw [e, Oper.uponIn_round]
 refine ⟨fun _ => by decide, hround.mono ?_⟩
 rintro e w' ⟨v, rfl, hR⟩
 exact k v w' hR _ (hS.put _ _ hd)
theorem Cu (hB : BkOk P B) {l bb N sz : Nat} {v : Value} (J : Nat → World → Prop) (X : World → Prop) {W1 : World} (hsz : bZ P B.Ts = some sz) (hsh : Shp v N) (hN : N ≤ 9223372036854775807) (hJ : J N W1)
 (hbox : W1.cell? ⟨bb, 0, none⟩ = some v)
 (hread : ∀ m W, m < N → J (m + 1) W → W.cell? ⟨bb, 0, none⟩ = some v ∧ ∃ y, (∀ ρ x, ρ x = .pointer (some (ib v (m * sz))) → cQ P ρ (.load B.Te x) W y W) ∧
  YieldAt (FR none) 2 P l #[.int .i64 m, y] W fun e W' => (e = .returned (.bool true) ∧ J m W') ∨ (e = .returned (.bool false) ∧ X W')) :
 Calls P B.gf #[kF l, .pointer (some ⟨bb, 0, none⟩)] W1 fun e W' => (∃ v, e = .returned v) ∧ (J 0 W' ∨ X W') := by
 obtain ⟨fn, hf, hb, hnt, hres⟩ := hB.fn
 have hsc : jV P B.Ts = true := by unfold jV; simp [hB.sl]
 refine calls_of_wp hf hb ?_
 have start : ∀ a : Act, Sl 19 [(0, kF l), (1, .pointer (some ⟨bb, 0, none⟩))] a → (Eg B.Ti B.Tb B.Ts B.Te B.Ty).wpIn (FR none) 3 P (bodyPost P fn fun e W' => (∃ v, e = .returned v) ∧ (J 0 W' ∨ X W')) a W1 := by
  intro a hS
  have fin : ∀ (m : List (Nat × Value)) (a : Act) (W : World), Sl 19 m a → (J 0 W ∨ X W) → bodyPost P fn (fun e W' => (∃ v, e = .returned v) ∧ (J 0 W' ∨ X W')) .ret a W := fun m a W hS h =>
   se hS (vs := []) (by rw [hres]; rfl) ⟨⟨_, rfl⟩, h⟩
  have fin' : ∀ (m : List (Nat × Value)) (a : Act) (W : World), Sl 19 m a → (J 0 W ∨ X W) → bodyPost P fn (fun e W' => (∃ v, e = .returned v) ∧ (J 0 W' ∨ X W')) .normal a W := fun m a W hS h =>
   Kk hS (vs := []) (by rw [hres]; rfl) ⟨⟨_, rfl⟩, h⟩
  refine bv rfl (aO rfl ?_)
  refine bw hS (v := v) rfl rfl (tA rfl hbox hsc) fun a1 h1 => ?_
  refine bw h1 (v := .int .i64 (N : Int)) rfl rfl (si hsh rfl (by simp [hB.sl])) fun a2 h2 => ?_
  refine bw h2 (v := .int .i64 ((N : Int) - 1)) rfl rfl (aE (by simp [dC, kU, vr, ev, gJ, pF, del]; exact jC (by omega) (by omega)) _) fun a3 h3 => ?_
  refine bw h3 (v := .int .i64 ((N : Int) - 1)) rfl rfl (aE rfl _) fun a4 h4 => bK rfl ?_
  refine wS (i := 0) rfl ?_
  have h4 := h4.keep [0, 1, 3] (m' := [(0, kF l), (1, .pointer (some ⟨bb, 0, none⟩)), (3, .int .i64 ((N : Int) - 1))]) rfl
  refine DF (I := fun k a W => ∃ m, k = m ∧ m ≤ N ∧ J m W ∧ Sl 19 [(0, kF l), (1, .pointer (some ⟨bb, 0, none⟩)), (3, .int .i64 ((m : Int) - 1))] a) rfl N ⟨N, rfl, Nat.le_refl _, hJ, h4⟩ ?_
  rintro m a5 W ⟨_, rfl, hm, hj, h5⟩
  refine bv rfl (bv rfl (aO rfl ?_))
  refine bw h5 (v := .int .i64 ((m : Int) - 1)) rfl rfl (aE rfl _) fun a6 h6 => ?_
  refine bw h6 (v := .bool (decide ((m : Int) - 1 ≥ 0))) rfl rfl (aE rfl _) fun a7 h7 => bK rfl ?_
  refine iU (t := decide ((m : Int) - 1 ≥ 0)) rfl (h7.ev rfl) (fun ht => ?_) (fun ht => ?_)
  ·obtain ⟨m, rfl⟩ : ∃ k, m = k + 1 := ⟨m - 1, by simp at ht; omega⟩
   refine mD rfl ?_
   obtain ⟨hbx, y, hy, hround⟩ := hread m W (by omega) hj
   have e0 : ((m + 1 : Nat) : Int) - 1 = (m : Int) := by omega
   rw [e0] at h7
   refine bv rfl (wS (i := 1) rfl (bv rfl (aO rfl ?_)))
   refine bw h7 (v := kF l) rfl rfl (aE rfl _) fun b1 g1 => ?_
   refine bw g1 (v := .int .i64 (m : Int)) rfl rfl (aE rfl _) fun b2 g2 => ?_
   refine bw g2 (v := v) rfl rfl (tA rfl hbx hsc) fun b3 g3 => ?_
   refine bw g3 (v := .int .i64 (m : Int)) rfl rfl (aE rfl _) fun b4 g4 => ?_
   refine bw g4 (v := .pointer (some (ib v (m * sz)))) rfl rfl (DP (i := (m : Int)) hsh rfl rfl (by omega) (by omega) hsz) fun b5 g5 => ?_
   refine bw g5 (v := y) rfl rfl (hy _ _ rfl) fun b6 g6 => ?_
   refine Ei g6 (R := fun v W' => (v = .bool true ∧ J m W') ∨ (v = .bool false ∧ X W')) (A := #[.int .i64 (m : Int), y]) rfl rfl rfl rfl (by simp [ev, gJ, pF, del]) ?_ ?_
   ·obtain ⟨fn, tmps, assign, body, hr, hround⟩ := hround
    refine ⟨fn, tmps, assign, body, hr, hround.mono ?_⟩
    rintro e W' (⟨rfl, h⟩ | ⟨rfl, h⟩)
    ·exact ⟨_, rfl, .inl ⟨rfl, h⟩⟩
    ·exact ⟨_, rfl, .inr ⟨rfl, h⟩⟩
   ·rintro v1 W' hv0 b7 g7
    obtain ⟨t, ht, hv⟩ : ∃ t : Bool, v1 = .bool t ∧ ((t = true ∧ J m W') ∨ (t = false ∧ X W')) := by
     rcases hv0 with ⟨rfl, h⟩ | ⟨rfl, h⟩
     ·exact ⟨_, rfl, .inl ⟨rfl, h⟩⟩
     ·exact ⟨_, rfl, .inr ⟨rfl, h⟩⟩
    clear hv0
    subst ht
    refine bw g7 (v := .bool (!t)) rfl rfl (aE rfl _) fun b8 g8 => bK rfl ?_
    refine iU (t := !t) rfl (g8.ev rfl) (fun ht => ?_) (fun ht => ?_)
    ·rcases hv with ⟨rfl, h⟩ | ⟨rfl, h⟩
     ·simp at ht
     ·exact pG rfl (fin _ _ _ g8 (.inr h))
    ·rcases hv with ⟨rfl, h⟩ | ⟨rfl, h⟩
     ·refine mD rfl (Lf (bj (aO rfl ?_)))
      refine bw g8 (v := .int .i64 (m : Int)) rfl rfl (aE rfl _) fun b9 g9 => ?_
      refine bw g9 (v := .int .i64 ((m : Int) - 1)) rfl rfl (aE (by simp [dC, kU, vr, ev, gJ, pF, del]; exact jC (by omega) (by omega)) _) fun b10 g10 => ?_
      refine bw g10 (v := .int .i64 ((m : Int) - 1)) rfl rfl (aE rfl _) fun b11 g11 => bK rfl ?_
      exact bj ⟨m, by omega, m, rfl, by omega, h, g11.keep [0, 1, 3] rfl⟩
     ·simp at ht
  ·have hm0 : m = 0 := by simp at ht; omega
   subst hm0
   exact zX rfl (fin' _ _ _ h7 (.inl hj))
 have := start _ (Sl.start [kF l, .pointer (some ⟨bb, 0, none⟩)] 17 _ (fun t u hu => by have := (oV [kF l, .pointer (some ⟨bb, 0, none⟩)] 0 t u hu).2; rwa [Nat.sub_zero] at this))
 have this : Code.wpIn Fence.wide 3 P _ _ _ W1 := this
 exact wpIn_wide.1 (by simpa [hnt] using this)
end
def yn : List Nat → Nat
 | [] => 0
 | i :: l => yn l ||| (1 <<< i)
def vv (a b : Nat) : Bool := a &&& b == a
def gP (n : Nat) (l : List Nat) : Nat := yn (l.filter fun i => decide (i < n))
def Ku (ops : Array Oper) (i : Nat) : List Nat := match ops.toList[i]? with
 | some o => (o.after.toList.filter fun e => Region.binds .any e).map (·.on)
 | none => []
def Kv (ops : Array Oper) (i : Nat) : List Nat := match ops.toList[i]? with
 | some oi => (List.range ops.size).filter fun j => !(j == i) && !(match ops.toList[j]? with
  | some oj => oj.after.toList.any (fun e => Region.binds .any e && e.on == i) || oi.apart ops oj
  | none => true)
 | none => []
def mK (ops : Array Oper) (i : Nat) : Nat × Nat := (yn (Ku ops i), yn (Kv ops i))
def oN (ops : Array Oper) : List (Nat × Nat) := (List.range ops.size).map (mK ops)
def yo (ops : Array Oper) (tab : List (Nat × Nat)) : Bool := decide (oN ops = tab)
def mL (lm : Nat) : List (Nat × Nat) → Nat → List Nat
 | [], _ => []
 | p :: t, i => if (!(lm.testBit i) && vv p.1 lm) = true then i :: mL lm t (i + 1) else mL lm t (i + 1)
def Ej (tab : List (Nat × Nat)) (lm : Nat) (j : Nat) : Bool := match tab[j]? with
 | some p => !(lm.testBit j) && (vv p.1 lm && vv p.2 lm)
 | none => false
theorem mM : ∀ (l : List Nat) (i : Nat), (yn l).testBit i = decide (i ∈ l)
 | [], i => by simp [yn]
 | j :: l, i => by
   rw [yn, Nat.testBit_or, mM l i, Nat.one_shiftLeft, Nat.testBit_two_pow]
   by_cases h : j = i
   ·simp [h]
   ·simp [h, Ne.symm h]
theorem yp (l : List Nat) (b : Nat) : vv (yn l) b = l.all fun i => b.testBit i := by
 rw [Bool.eq_iff_iff]
 simp only [vv, beq_iff_eq, List.all_eq_true]
 constructor
 ·intro h i hi
  have h1 := congrArg (fun n => n.testBit i) h
  simp only [Nat.testBit_and, mM, hi, decide_true, Bool.true_and] at h1
  exact h1
 ·intro h
  apply Nat.eq_of_testBit_eq
  intro i
  rw [Nat.testBit_and, mM]
  by_cases hi : i ∈ l
  ·simp [hi, h i hi]
  ·simp [hi]
theorem xa (n : Nat) : ∀ (l : List Nat) (i : Nat), (ge n l)[i]? = if i < n then some (decide (i ∈ l)) else none
 | [], i => by
   rw [ge, Array.getElem?_replicate]
   simp
 | j :: l, i => by
   have hs : ∀ l, (ge n l).size = n := fun l => by
    induction l with
    | nil => simp [ge]
    | cons a l ih => simp [ge, ih]
   rw [ge, Array.getElem?_setIfInBounds]
   by_cases h : j = i
   ·subst h
    by_cases hn : j < n
    ·simp [hs, hn]
    ·simp [hs, hn]
   ·rw [if_neg h, xa n l i]
    simp [Ne.symm h]
theorem Cv (n : Nat) (l : List Nat) (i : Nat) : (ge n l).getD i false = (gP n l).testBit i := by
 rw [Array.getD_eq_getD_getElem?, xa, gP, mM]
 by_cases h : i < n
 ·simp [h]
 ·simp [h]
theorem qZ (n : Nat) (l : List Nat) (i : Nat) (h : i < n) : (ge n l).getD i true = (gP n l).testBit i := by
 rw [Array.getD_eq_getD_getElem?, xa, gP, mM]
 simp [h]
theorem oZ (lm : Nat) (f : Nat → Nat × Nat) : ∀ (n s : Nat), mL lm ((List.range' s n).map f) s = (List.range' s n).filter fun i => !(lm.testBit i) && vv (f i).1 lm
 | 0, s => rfl
 | n + 1, s => by
   rw [List.range'_succ, List.map_cons, mL, oZ lm f n (s + 1), List.filter_cons]
theorem vR {ops : Array Oper} {tab : List (Nat × Nat)} (h : yo ops tab = true) (l : List Nat) : mL (gP ops.size l) tab 0 = Region.ready .any ops (ge ops.size l) := by
 obtain rfl : oN ops = tab := by simpa [yo] using h
 rw [oN, List.range_eq_range', oZ, ← List.range_eq_range', Region.ready]
 apply List.filter_congr
 intro i hi
 have hi := List.mem_range.1 hi
 rw [qZ _ _ _ hi]
 congr 1
 have ho : ops.toList[i]? = some ops[i] := by rw [Array.getElem?_toList]; exact Array.getElem?_eq_getElem hi
 have ho' : ops[i]? = some ops[i] := Array.getElem?_eq_getElem hi
 simp only [mK, yp, Ku, ho, ho', Option.map_some, Option.getD_some, List.all_map, List.all_filter]
 rw [← Array.all_toList]
 congr 1
 funext e
 rw [Cv]
 rfl
theorem GX {ops : Array Oper} {tab : List (Nat × Nat)} (h : yo ops tab = true) (l : List Nat) (j : Nat) : Ej tab (gP ops.size l) j = oW ops l j := by
 have hr := vR h l
 obtain rfl : oN ops = tab := by simpa [yo] using h
 rw [oW, ← hr]
 by_cases hj : j < ops.size
 ·have ht : (oN ops)[j]? = some (mK ops j) := by
   rw [oN, List.getElem?_map, List.getElem?_range hj]; rfl
  have ho : ops.toList[j]? = some ops[j] := by rw [Array.getElem?_toList]; exact Array.getElem?_eq_getElem hj
  have ho' : ops[j]? = some ops[j] := Array.getElem?_eq_getElem hj
  have hc : (mL (gP ops.size l) (oN ops) 0).contains j = (!((gP ops.size l).testBit j) && vv (mK ops j).1 (gP ops.size l)) := by
   rw [oN, List.range_eq_range', oZ, ← List.range_eq_range', Bool.eq_iff_iff]
   simp [hj]
  have hf : Region.free .any ops (ge ops.size l) j = vv (mK ops j).2 (gP ops.size l) := by
   simp only [Region.free, ho', mK, yp, Kv, ho, List.all_filter]
   rw [Bool.eq_iff_iff, List.all_eq_true, List.all_eq_true]
   constructor
   ·intro h i hi
    have hin := List.mem_range.1 hi
    have h := h i hi
    have hoi : ops.toList[i]? = some ops[i] := by rw [Array.getElem?_toList]; exact Array.getElem?_eq_getElem hin
    have hoi' : ops[i]? = some ops[i] := Array.getElem?_eq_getElem hin
    rw [qZ _ _ _ hin] at h
    simp only [hoi, hoi', Array.any_toList] at h ⊢
    revert h
    cases (i == j) <;> cases (gP ops.size l).testBit i <;> cases (Array.any ops[i].after fun e => Region.binds .any e && e.on == j) <;> cases ops[j].apart ops ops[i] <;> simp
   ·intro h i hi
    have hin := List.mem_range.1 hi
    have h := h i hi
    have hoi : ops.toList[i]? = some ops[i] := by rw [Array.getElem?_toList]; exact Array.getElem?_eq_getElem hin
    have hoi' : ops[i]? = some ops[i] := Array.getElem?_eq_getElem hin
    rw [qZ _ _ _ hin]
    simp only [hoi, hoi', Array.any_toList] at h ⊢
    revert h
    cases (i == j) <;> cases (gP ops.size l).testBit i <;> cases (Array.any ops[i].after fun e => Region.binds .any e && e.on == j) <;> cases ops[j].apart ops ops[i] <;> simp
  rw [Ej, ht, hc, hf]
  simp only
  cases (gP ops.size l).testBit j <;> cases vv (mK ops j).1 (gP ops.size l) <;> cases vv (mK ops j).2 (gP ops.size l) <;> rfl
 ·have ht : (oN ops)[j]? = none := by
   rw [oN, List.getElem?_map, List.getElem?_eq_none (by simpa using Nat.le_of_not_lt hj)]; rfl
  have hc : Region.free .any ops (ge ops.size l) j = false := by
   simp only [Region.free, Array.getElem?_eq_none (Nat.le_of_not_lt hj)]
  rw [Ej, ht, hc]
  rfl
structure Nst where
 slots : List (Nat × SV)
 boxes : List (Nat × Ob)
 news : List Ob
def shA : At → ASh
 | .fl t _ => .fl t
 | .lit _ => .fl .bool
 | .sl o => .sl o
 | .ptr b off => .ptr b off
 | .pel o _ off => .pel o off
 | .asl b off n => .asl b off n
 | .nil0 => .nil0
 | .nilp => .nilp
 | .nilf => .nilf
 | .nili => .nili
 | _ => .un
def shV : V1 → VSh
 | .a x => .a (shA x)
 | .fn f fs cs => .fn f (fs.map shA) (cs.map shA)
 | .st ls => .st (ls.map shA)
 | _ => .a .un
def shS : SV → SSh
 | .v x => .v (shV x)
 | .tup xs => .tup (xs.map shV)
def shO : Ob → OSh
 | .box T ls => .box T (ls.map shA)
 | .row e t _ m _ => .row e t m
 | .fleet e d _ _ => .fleet e d
 | .gone => .gone
def shN (N : Nst) : NSh := ⟨N.slots.map fun p => (p.1, shS p.2), N.boxes.map fun p => (p.1, shO p.2), N.news.map shO⟩
def coA : At → List Dyn
 | .fl t x => [⟨t, x⟩]
 | .lit b => [⟨.bool, b⟩]
 | .pel _ k _ => [⟨.int .i64, k⟩]
 | _ => []
def coL (ls : List At) : List Dyn := ls.flatMap coA
def coV : V1 → List Dyn
 | .a x => coA x
 | .fn _ fs cs => coL fs ++ coL cs
 | .st ls => coL ls
 | _ => []
def coS : SV → List Dyn
 | .v x => coV x
 | .tup xs => xs.flatMap coV
def coO : Ob → List Dyn
 | .box _ ls => coL ls
 | .row e t xs _ _ => [⟨.sl e t, xs⟩]
 | .fleet _ d xs _ => [⟨.sl 0 (bl d), xs⟩]
 | .gone => []
def coN (N : Nst) : List Dyn := N.slots.flatMap (fun p => coS p.2) ++ N.boxes.flatMap (fun p => coO p.2) ++ N.news.flatMap coO
def cdV : VSh → List Ty
 | .a x => cdA x
 | .fn _ fs cs => cdL fs ++ cdL cs
 | .st ls => cdL ls
def cdS : SSh → List Ty
 | .v x => cdV x
 | .tup xs => xs.flatMap cdV
def cdO : OSh → List Ty
 | .box _ ls => cdL ls
 | .row e t _ => [.sl e t]
 | .fleet _ d => [.sl 0 (bl d)]
 | .gone => []
def NSh.codes (s : NSh) : List Ty := s.slots.flatMap (fun p => cdS p.2) ++ s.boxes.flatMap (fun p => cdO p.2) ++ s.news.flatMap cdO
def fiP {α β : Type} (f : α → List Dyn → Option (β × List Dyn)) (p : Nat × α) (ds : List Dyn) : Option ((Nat × β) × List Dyn) := (f p.2 ds).map fun q => ((p.1, q.1), q.2)
def fiN (s : NSh) (ds : List Dyn) : Option Nst :=
 match bn (fiP fiS) s.slots ds with
 | some (sl, ds1) => match bn (fiP fiO) s.boxes ds1 with
   | some (bx, ds2) => (bn fiO s.news ds2).map fun p => ⟨sl, bx, p.1⟩
   | none => none
 | none => none
def bp (d : Kd) (x : (bl d).den) (j : Nat) : Ob := ((jB d x).getD []).getD j .gone
inductive Src where
 | ob (o : Nat)
 | nil (e : Nat) (t : Ty)
 | nilr (e : Nat) (d : Kd)
def eN (o : Nat) : List Src → Nat → Option Nat
 | [], _ => none
 | .ob p :: r, j => if p = o then some j else eN o r (j + 1)
 | .nil _ _ :: r, j => eN o r (j + 1)
 | .nilr _ _ :: r, j => eN o r (j + 1)
def iK (nb o : Nat) (pl : List Src) : Nat × List Src :=
 match eN o pl 0 with
 | some j => (nb + j, pl)
 | none => (nb + pl.length, pl ++ [.ob o])
def kG (S : St) (nb : Nat) (sy : List Nat) : At → List Src → Option (At × List Src)
 | .fl t x, pl => some (.fl t x, pl)
 | .lit b, pl => some (.fl .bool b, pl)
 | .sl o, pl => match S.ob o with
   | .row _ _ _ .own _ => if decide (o < nb) && sy.elem o then some (.sl o, pl) else some (.sl (iK nb o pl).1, (iK nb o pl).2)
   | .row _ _ _ _ _ => some (.sl (nb + pl.length), pl ++ [.ob o])
   | .fleet _ _ _ none => if decide (o < nb) && sy.elem o then some (.sl o, pl) else some (.sl (iK nb o pl).1, (iK nb o pl).2)
   | _ => none
 | .nils e t, pl => some (.sl (nb + pl.length), pl ++ [.nil e t])
 | .nil0, pl => some (.nil0, pl)
 | .nilr e d, pl => some (.sl (nb + pl.length), pl ++ [.nilr e d])
 | .pel o k off, pl => match S.ob o with
   | .fleet _ _ _ none => if decide (o < nb) && sy.elem o then some (.pel o k off, pl) else some (.pel (iK nb o pl).1 k off, (iK nb o pl).2)
   | _ => none
 | .ptr b off, pl => if b < nb then some (.ptr b off, pl) else some (.ptr (iK nb b pl).1 off, (iK nb b pl).2)
 | .asl b off n, pl => if b < nb then some (.asl b off n, pl) else some (.asl (iK nb b pl).1 off n, (iK nb b pl).2)
 | .nilp, pl => some (.nilp, pl)
 | .nilf, pl => some (.nilf, pl)
 | .nili, pl => some (.nili, pl)
 | .un, pl => some (.un, pl)
def eP {α : Type} (f : α → List Src → Option (α × List Src)) : List α → List Src → Option (List α × List Src)
 | [], pl => some ([], pl)
 | x :: xs, pl => match f x pl with
   | some (y, pl1) => match eP f xs pl1 with
     | some (ys, pl2) => some (y :: ys, pl2)
     | none => none
   | none => none
def Al (S : St) (nb : Nat) (sy : List Nat) : V1 → List Src → Option (V1 × List Src)
 | .a x, pl => (kG S nb sy x pl).map fun p => (.a p.1, p.2)
 | .fn f fs cs, pl => match eP (kG S nb sy) fs pl with
   | some (a, pl1) => (eP (kG S nb sy) cs pl1).map fun p => (.fn f a p.1, p.2)
   | none => none
 | .st ls, pl => (eP (kG S nb sy) ls pl).map fun p => (.st p.1, p.2)
 | _, _ => none
def GY (S : St) (nb : Nat) (sy : List Nat) : SV → List Src → Option (SV × List Src)
 | .v x, pl => (Al S nb sy x pl).map fun p => (.v p.1, p.2)
 | .tup xs, pl => (eP (Al S nb sy) xs pl).map fun p => (.tup p.1, p.2)
def bS (S : St) (nb : Nat) (sy : List Nat) : List Nat → List Src → List (Nat × SV) × List Src
 | [], pl => ([], pl)
 | t :: ts, pl => match (az S.slots t).bind fun v => GY S nb sy v pl with
   | some (v, pl1) => ((t, v) :: (bS S nb sy ts pl1).1, (bS S nb sy ts pl1).2)
   | none => bS S nb sy ts pl
def iL (S : St) (nb : Nat) (sy : List Nat) : List Nat → List Src → Option (List (Nat × Ob) × List Src)
 | [], pl => some ([], pl)
 | b :: bs, pl => match S.ob b with
   | .box T ls => match eP (kG S nb sy) ls pl with
     | some (ls', pl1) => (iL S nb sy bs pl1).map fun p => ((b, .box T ls') :: p.1, p.2)
     | none => none
   | .row e t xs m _ => (iL S nb sy bs pl).map fun p => ((b, if sy.elem b then .row e t xs m false else .gone) :: p.1, p.2)
   | .fleet e d xs none => (iL S nb sy bs pl).map fun p => ((b, if sy.elem b then .fleet e d xs none else .gone) :: p.1, p.2)
   | .fleet _ _ _ _ => none
   | .gone => (iL S nb sy bs pl).map fun p => ((b, .gone) :: p.1, p.2)
def ji (S : St) (nb : Nat) (sy : List Nat) : Nat → Nat → List Src → Option (List Ob × List Src)
 | 0, _, _ => none
 | fuel + 1, j, pl => match pl[j]? with
   | none => some ([], pl)
   | some (.nil e t) => (ji S nb sy fuel (j + 1) pl).map fun p => (.row e t [] .own false :: p.1, p.2)
   | some (.nilr e d) => (ji S nb sy fuel (j + 1) pl).map fun p => (.fleet e d [] none :: p.1, p.2)
   | some (.ob o) => match S.ob o with
     | .box T ls => match eP (kG S nb sy) ls pl with
       | some (ls', pl1) => (ji S nb sy fuel (j + 1) pl1).map fun p => (.box T ls' :: p.1, p.2)
       | none => none
     | .row e t xs m _ => (ji S nb sy fuel (j + 1) pl).map fun p => (.row e t xs m false :: p.1, p.2)
     | .fleet e d xs none => (ji S nb sy fuel (j + 1) pl).map fun p => (.fleet e d xs none :: p.1, p.2)
     | .fleet _ _ _ _ => none
     | .gone => none
def tK (nb : Nat) (sy M C : List Nat) (S : St) : Option (Nst × List Src) :=
 match iL S nb sy M (bS S nb sy C []).2 with
 | some (bx, pl1) => (ji S nb sy 200 0 pl1).map fun p => (⟨(bS S nb sy C []).1, bx, p.1⟩, p.2)
 | none => none
def mN (S : St) (nb : Nat) (pl : List Src) : List Nat := pl.filterMap fun
 | .ob o => match S.ob o with
   | .row _ _ _ .own _ => if o < nb then some o else none
   | .fleet _ _ _ _ => if o < nb then some o else none
   | _ => none
 | _ => none
def leM : Md → Md → Bool
 | .own, _ => true
 | .rd, .own => false
 | .rd, _ => true
 | .lent, .lent => true
 | .lent, _ => false
def leO (c : Bool) : OSh → OSh → Bool
 | .row e t m, .row e' t' m' => decide (e = e' ∧ t = t') && leM m m'
 | .fleet e d, .fleet e' d' => decide (e = e') && (decide (d = d') || (c && decide (d.lent = d')))
 | a, b => decide (a = b)
def sK (c : Bool) : List OSh → List OSh → Bool
 | [], [] => true
 | a :: as, b :: bs => leO c a b && sK c as bs
 | _, _ => false
def leN (c : Bool) (a b : NSh) : Bool := decide (a.slots = b.slots) && decide (a.boxes.map (·.1) = b.boxes.map (·.1)) && sK c (a.boxes.map (·.2)) (b.boxes.map (·.2)) && sK c a.news b.news
def nO (e : Ek) (s : NSh) : List (Ek × NSh) → Nat → Option Nat
 | [], _ => none
 | (e', s') :: r, i => if e = e' ∧ leN false s s' = true then some i else nO e s r (i + 1)
@[reducible] def fx : List (List Ty) → Type
 | [] => Empty
 | [c] => HL c
 | c :: d :: r => HL c ⊕ fx (d :: r)
def yq : (cs : List (List Ty)) → Nat → List Dyn → Option (fx cs)
 | [c], 0, ds => mn c ds
 | c :: _ :: _, 0, ds => (mn c ds).map .inl
 | _ :: d :: r, i + 1, ds => (yq (d :: r) i ds).map .inr
 | _, _, _ => none
def bJ {α β R : Type} (x : α ⊕ β) (f : α → R) (g : β → R) : R :=
 match x with
 | .inl a => f a
 | .inr b => g b
def eh {R : Type} : (cs : List (List Ty)) → fx cs → (Nat → List Dyn → R) → R
 | [], x, _ => nomatch x
 | [c], x, f => f 0 (toD c x)
 | c :: d :: r, x, f => bJ x (fun x => f 0 (toD c x)) (fun y => eh (d :: r) y (fun i => f (i + 1)))
def bit (b t : Nat) : Bool := b.testBit t
def El : Operand → Nat
 | .tmp t => 1 <<< t
 | _ => 0
def JC (xs : List Operand) : Nat := xs.foldl (fun b x => b ||| El x) 0
def Ll (a b : Nat) : Nat := a ^^^ (a &&& b)
def BA (all : List Oper) : List Oper → Nat → Nat
 | [], out => out
 | o :: os, out =>
   let l := BA all os out
   let l := match o.dst with
    | some d => Ll l (1 <<< d)
    | none => l
   let l := l ||| JC o.op.operands.toList
   match o.guard with
   | some (g, _) => match (all[g]?).bind (·.dst) with
     | some d => l ||| (1 <<< d)
     | none => l
   | none => l
def Am (ex : List (Nat × Nat)) (i : Nat) : Nat :=
 match ex with
 | [] => 0
 | (j, b) :: r => if j = i then b else Am r i
def mo : Code → List (Nat × Nat) → Nat → Nat → Nat
 | .region _ ops _, _, _, out => BA ops.toList ops.toList out
 | .seq a b, ex, rl, out => mo a ex rl (mo b ex rl out)
 | .cond c t e, ex, rl, out => El c ||| mo t ex rl out ||| mo e ex rl out
 | .block i b, ex, rl, out => mo b ((i, out) :: ex) rl out
 | .loop b, ex, rl, _ => mo b ex rl 0
 | .scope b, ex, rl, out => mo b ex rl out
 | .rangeFunc f _ a b, ex, rl, out => El f ||| mo a ex rl (mo b ex rl 0) ||| out
 | .exit i, ex, _, _ => Am ex i
 | .ret, _, rl, _ => rl
 | _, _, _, out => out
def jj : List Oper → Nat
 | [] => 0
 | o :: os => (match o.dst with | some d => 1 <<< d | none => 0) ||| jj os
def ic : Code → Nat
 | .region _ ops _ => jj ops.toList
 | .seq a b => ic a ||| ic b
 | .cond _ t e => ic t ||| ic e
 | .block _ b => ic b
 | .loop b => ic b
 | .scope b => ic b
 | .rangeFunc _ ps a b => ps.toList.foldl (fun x p => x ||| (1 <<< p)) 0 ||| ic a ||| ic b
 | _ => 0
def tL (n : Nat) (b : Nat) : List Nat := (List.range n).filter (bit b)
structure Alg (R : Type) where
 fail : String → R
 miss : Nat → NSh → R
 ite : Bool → R → R → R
 guard : (p : Prop) → Decidable p → R → R
 bind : (cs : List (List Ty)) → Option (fx cs) → (Nat → List Dyn → R) → R
 bind2 : (cs ds : List (List Ty)) → Option (fx cs ⊕ fx ds) → (Nat → List Dyn → R) → (Nat → List Dyn → R) → R
 both : List Nat → (Unit → R) → (Unit → R) → R
noncomputable def tM {α : Type} (x y : Option α) : Option α := open Classical in if x = y then x else none
theorem tN {α : Type} (x : Option α) : tM x x = x := by unfold tM; rw [if_pos rfl]
theorem An {α : Type} {x y : Option α} {o : α} (h : tM x y = some o) : x = some o ∧ y = some o := by
 unfold tM at h
 split at h
 ·rename_i e; exact ⟨h, e ▸ h⟩
 ·cases h
def ai {α : Type} (b : Bool) (x y : Option α) : Option α :=
 match b with
 | true => x
 | false => y
noncomputable def aw (α : Type) : Alg (Option α) :=
 ⟨fun _ => none, fun _ _ => none, ai, fun p d x => if p then x else none, fun cs o f => o.bind fun y => eh cs y f,
  fun cs ds o f g => o.bind fun y => bJ y (fun a => eh cs a f) (fun b => eh ds b g), fun _ x y => tM (x ()) (y ())⟩
def aP {H E : Type} : Nat → (H → Option (H ⊕ E)) → H → Option E
 | 0, _, _ => none
 | k + 1, step, x => (step x).bind fun y => bJ y (fun h => aP k step h) some
def yr {α H E : Type} : List α → (H → α → Option (H ⊕ E)) → H → Option (H ⊕ E)
 | [], _, h => some (.inl h)
 | a :: l, step, h => (step h a).bind fun y => bJ y (fun h => yr l step h) (fun e => some (.inr e))
def je {α H : Type} : List α → (H → α → Option H) → H → Option H
 | [], _, h => some h
 | a :: l, step, h => (step h a).bind fun h => je l step h
def kc {α : Type} (xs : List α) : List (Int × α) := (xs.zipIdx.map fun p => ((p.2 : Int), p.1)).reverse
def fT (S : St) (dfs : Nat) (N : Nst) : St :=
 ⟨(S.slots.filter fun p => !(bit dfs p.1)) ++ N.slots, N.boxes.foldl (fun l p => l.set p.1 p.2) S.obs ++ N.news, N.boxes.map (·.1) ++ S.mods, S.pl⟩
structure Con where
 fn : Nat
 pat : NSh
 out : List NSh
 f : Nat → HL pat.codes → Option (fx (out.map NSh.codes))
def pQ (S : St) (pl : List Nat) (i : Nat) : Nat := if i < pl.length then pl.getD i 0 else S.obs.length + (i - pl.length)
def mvA (g : Nat → Nat) : At → At
 | .sl o => .sl (g o)
 | .ptr b off => .ptr (g b) off
 | .pel o k off => .pel (g o) k off
 | .asl b off n => .asl (g b) off n
 | a => a
def mvV (g : Nat → Nat) : V1 → V1
 | .a x => .a (mvA g x)
 | .fn f fs cs => .fn f (fs.map (mvA g)) (cs.map (mvA g))
 | .st ls => .st (ls.map (mvA g))
 | v => v
def mvS (g : Nat → Nat) : SV → SV
 | .v x => .v (mvV g x)
 | .tup xs => .tup (xs.map (mvV g))
def mvO (g : Nat → Nat) : Ob → Ob
 | .box T ls => .box T (ls.map (mvA g))
 | o => o
def mO : List (Nat × SV) → Option (List V1)
 | [] => some []
 | (_, .v x) :: l => (mO l).map (x :: ·)
 | (_, .tup _) :: _ => none
def results : List (Nat × SV) → Option SV
 | [(_, v)] => some v
 | l => (mO l).map .tup
def ra : Ob → Bool
 | .fleet _ d _ _ => !d.l
 | .row _ _ _ .lent _ => false
 | _ => true
def kH : List Nat → Bool
 | [] => true
 | x :: l => !(l.elem x) && kH l
def xc (S : St) (pl : List Nat) (N : Nst) : Option (St × SV) :=
 if (N.boxes.all fun p => decide (p.1 < pl.length) && ra p.2) && N.news.all ra && kH (N.boxes.map fun p => pQ S pl p.1) then
  (results (N.slots.map fun p => (p.1, mvS (pQ S pl) p.2))).map fun v =>
   (⟨S.slots, N.boxes.foldl (fun l p => l.set (pQ S pl p.1) (mvO (pQ S pl) p.2)) S.obs ++ N.news.map (mvO (pQ S pl)), N.boxes.map (fun p => pQ S pl p.1) ++ S.mods, S.pl⟩, v)
 else none
def bq (S : St) : List Nat → List OSh → St
 | o :: pl, .row _ _ .rd :: os => match S.ob o with
   | .row e t xs .own fu => bq (S.setOb o (.row e t xs .rd fu)) pl os
   | _ => bq S pl os
 | _ :: pl, _ :: os => bq S pl os
 | _, _ => S
def cu : List Src → List Ob
 | [] => []
 | .nil e t :: pl => .row e t [] .own false :: cu pl
 | .nilr e d :: pl => .fleet e d [] none :: cu pl
 | .ob _ :: pl => .gone :: cu pl
def plB (n : Nat) : List Src → Bool
 | [] => true
 | .ob o :: pl => decide (o < n) && plB n pl
 | .nil _ _ :: pl => plB n pl
 | .nilr _ _ :: pl => plB n pl
def gB : Nat → List Src → List Nat
 | _, [] => []
 | n, .nil _ _ :: pl => n :: gB (n + 1) pl
 | n, .nilr _ _ :: pl => n :: gB (n + 1) pl
 | n, .ob o :: pl => o :: gB (n + 1) pl
def nP (f : Nat) (s : NSh) : List Con → Option Con
 | [] => none
 | c :: r => if c.fn = f ∧ leN true s c.pat = true then some c else nP f s r
def bT {α : Type} : Nat → List α → List (Nat × α)
 | _, [] => []
 | i, x :: xs => (i, x) :: bT (i + 1) xs
def cL (P : Program) (f : Nat) (xs : List SV) : List SV :=
 match P.funcs[f]? with
 | some fn => xs.zipIdx.map fun (x, i) => match fn.params[i]? with
   | some t => cd P t x
   | none => x
 | none => xs
def H3 : At → Bool
 | .pel _ _ _ => false
 | _ => true
def ii : Ob → Bool
 | .box _ ls => ls.all H3
 | .row _ _ _ m fu => decide (m ≠ .lent) && !fu
 | _ => false
def fv (S : St) (o e : Nat) (d : Kd) (xs : List (bl d).den) (k : Nat) (os : List Ob) : St :=
 { S with obs := S.obs.set o (.fleet e d xs (some k)) ++ os.map (fun ob => mvO (· + S.obs.length) (aY d.l ob)), mods := o :: S.mods }
def eQ (S : St) (o e : Nat) (d : Kd) (xs : List (bl d).den) (b n : Nat) : St :=
 { S with obs := (S.obs.zipIdx.map fun p => if b ≤ p.2 ∧ p.2 < b + n then .gone else p.1).set o (.fleet e d xs none) }
def toP : (ts : List Ty) → HL ts → (yf ts).den
 | [], _ => ()
 | [_], x => x
 | _ :: u :: ts, x => (x.1, toP (u :: ts) x.2)
def Em (d : Kd) (ds : List Dyn) : Option (bl d).den := (mn (DZ d) ds).map (toP (DZ d))
def sL : Ob → Bool
 | .box _ _ => true
 | .row _ _ _ .own _ => true
 | _ => false
def cF (S : St) : List Nat → St
 | [] => S
 | o :: l => if sL (S.ob o) then cF (S.setOb o .gone) l else cF S l
def xd : List Ob → Bool
 | .box _ _ :: _ => true
 | _ => false
def En (b : Nat) : List Src → Bool
 | .ob b' :: _ => decide (b' = b)
 | _ => false
def xe (S : St) (o e : Nat) (d : Kd) (put : (bl d).den → List (bl d).den) (b : Nat) : Option St :=
 match tK 0 [] [] [0] { S with slots := [(0, .v (.a (.ptr b 0)))] } with
 | some (N, pl) => if (plB S.obs.length pl && sK false (N.news.map shO) (Cs d) && !d.l && En b pl) = true then
  match Em d (N.news.flatMap coO) with
  | some x => match jB d x with
    | some os => if (os.all ii && xd os) = true then
     some ((cF (S.add (cu pl)) (gB S.obs.length pl)).setOb o (.fleet e d (put x) none)) else none
    | none => none
  | none => none
   else none
 | none => none
abbrev Inl := Nat → List SV → (R : Type) → Alg R → St → (St → SV → R) → R
section
variable {R : Type} (A : Alg R) (P : Program) (Γ : List Con) (inl : List Nat) (H : Inl) (k : Nat)
def Ao (f : Nat) : String := match P.funcs[f]? with | some fn => fn.name | none => "?"
def Eo (S : St) : List Nat := (S.slots.filter fun p => decide (rG ≤ p.1)).map fun p => p.1 % shift
def Ap (S : St) (gs : List Nat) : List (Nat × SV) := gs.filterMap fun b => (yj S.slots b).map fun v => (rG + b, v)
def BB (gs : List Nat) (S : St) (f : Nat) (xs : List SV) (K : St → SV → R) : R :=
 match tK 0 [] [] (List.range xs.length ++ gs.map (rG + ·)) { S with slots := bT 0 xs ++ Ap S gs } with
 | some (N, pl) => if N.slots.map (·.1) = List.range xs.length ++ gs.map (rG + ·) ∧ plB S.obs.length pl = true ∧ (gs.all (fun b => decide (b < shift)) && decide (xs.length ≤ rG)) = true then match nP f (shN N) Γ with
   | some c => match mn c.pat.codes (coN N) with
     | some x => A.bind (c.out.map NSh.codes) (c.f k x) fun i ds => match c.out[i]? with
       | some s => match fiN s ds with
         | some N' => match xc (bq (S.add (cu pl)) (gB S.obs.length pl) c.pat.news) (gB S.obs.length pl) N' with
           | some (S', v) => match c.out with
             | [_] => K S' v
             | _ => K (S'.kid i) v
           | none => A.fail "results"
         | none => A.fail "a result's shape"
       | none => A.fail "no such class"
     | none => A.fail ("arguments of " ++ Ao P f)
   | none => A.miss f (shN N)
   else A.fail "arguments that can't be told"
 | none => A.fail "arguments"
def JD (S : St) (f : Nat) (xs : List SV) : Bool :=
 match tK 0 [] [] (List.range xs.length) { S with slots := bT 0 xs } with
 | some (N, _) => (nP f (shN N) Γ).isSome
 | none => false
def re (X : St → List SV → (St → SV → R) → R) : List Nat → St → List SV → (St → SV → R) → R
 | [], S, xs, K => X S xs K
 | j :: js, S, xs, K => match xs[j]? with
   | some (.v (.a (.pel o k off))) => match S.ob o with
     | .fleet e d ys none => match jB d (at_ (bl d) ys k) with
       | some os => if os.all ii = true then
        A.guard (0 ≤ k ∧ k < (ys.length : Int)) inferInstance <|
         re X js { fv S o e d ys k.toNat os with mods := [] } (xs.set j (.v (.a (.ptr S.obs.length off)))) fun S2 v =>
          if S2.mods.elem o then A.fail "a row of pointers is written to" else
          if (S2.mods.all fun i => decide (i < S.obs.length) || decide (S.obs.length + os.length ≤ i)) = true then K { eQ S2 o e d ys S.obs.length os.length with mods := S2.mods ++ S.mods } v else
          match xe S2 o e d (fun x => ys.set k.toNat x) S.obs.length with
           | some S3 => K { S3 with mods := S3.mods ++ o :: S.mods } v
           | none => A.fail "what a row points to has other parts"
         else A.fail "parts of what a row points to"
       | none => A.fail "what a row points to"
     | _ => A.fail "a pointer into what"
   | _ => re X js S xs K
def Aq (S : St) (f : Nat) (xs : List SV) (K : St → SV → R) : R :=
 if (Eo S).isEmpty || JD Γ S f xs then BB A P Γ k [] S f xs K else BB A P Γ k (Eo S) S f xs K
def mP (S : St) (f : Nat) (xs : List SV) (K : St → SV → R) : R :=
 re A (fun S xs K => Aq A P Γ k S f xs K) (List.range xs.length) S (cL P f xs) K
def dU (S : St) : SV → St × SV
 | .v (.a (.nils e t)) => (S.add [.row e t [] .own false], .v (.a (.sl S.obs.length)))
 | .v (.a (.nilr e d)) => (S.add [.fleet e d [] none], .v (.a (.sl S.obs.length)))
 | v => (S, v)
def kd (S : St) : List At → St
 | [] => S
 | .sl o :: r => match S.ob o with
   | .row e t xs .own fu => kd (S.setOb o (.row e t xs .rd fu)) r
   | _ => kd S r
 | _ :: r => kd S r
def xf (S : St) : SV → St
 | .v (.a x) => kd S [x]
 | .v (.st ls) => kd S ls
 | _ => S
def pT (S : St) (vs : List (Nat × SV)) : St := vs.foldl (fun S p => xf S p.2) S
def rg (P : Program) (t : TypeId) (n : Nat) : Option (Array Value) :=
 match P.underlying t with
 | some (.slice e) => match P.info? e with
   | some i => (if n * i.size = 0 then some #[] else i.zero.map (·.cells)).map fun z => (Array.range (n * i.size)).map (z[· % z.size]!)
   | none => none
 | _ => none
def kY (S : St) (P : Program) (e : TypeId) (u : Ty) : List (Nat × SV) → Nat → Option (List u.den)
 | [], _ => some []
 | (i, v) :: ps, j => if i = j then match (sj (cd P e v)).bind (mu S u) with
  | some (x, []) => (kY S P e u ps (j + 1)).map (x :: ·)
  | _ => none
   else none
def ce (s : ByteArray) : List Int := s.data.toList.map fun b => (b.toNat : Int)
def Ar (S : St) (t : TypeId) (x y : SV) (K : St → SV → R) : R :=
 match sj (cd P t y) with
 | none => A.fail "store of what"
 | some us => if cellsOf P t = some (bR us) then match x with
   | .v (.a (.ptr b off)) => match S.ob b with
     | .box T ls => match Ah ls off us with
       | some ls' => K (S.setOb b (.box T ls')) (.v (.a .un))
       | none => A.fail "store: parts"
     | _ => A.fail "store: no variable"
   | .v (.elp o sz i off) => match S.ob o with
     | .row e u xs .own _ => match Ah (bm .rd u (at_ u xs i) 0).1 off us with
       | some ls' => match mu S u ls' with
         | some (x', []) => if u.flat then K (S.setOb o (.row e u (xs.set i.toNat x') .own false)) (.v (.a .un)) else A.fail "store: deep"
         | _ => A.fail "store: pack"
       | none => A.fail "store: parts of an element"
     | _ => A.fail "store into what is not owned"
   | .v (.arp b off u n i) => match S.ob b with
     | .box T ls => match gz ls off with
       | some (.fl (.arr n' u') vec :: _) => if u' = u ∧ n' = n ∧ u'.flat = true ∧ 0 < u'.sz then match mu S u' us with
        | some (x', []) => match Ah ls off [.fl (.arr n' u') (ee vec i x')] with
          | some ls' => K (S.setOb b (.box T ls')) (.v (.a .un))
          | none => A.fail "store: array"
        | _ => A.fail "store: array's pack"
         else A.fail "store: array's type"
       | _ => A.fail "store: no array"
     | _ => A.fail "store: no array's variable"
   | _ => A.fail "store: where"
   else A.fail "store: size"
def St.cutPl (inl : List Nat) (S : St) : Option St := match S.pl with
 | .t p => some (S.to p)
 | _ => none
def Kw (x : R) : R := x
def tO (S : St) (t : TypeId) (s x : SV) (K : St → SV → R) : R :=
 let (S, s) := dU S (cd P t s)
 match s, bo P t with
 | .v (.a (.sl o)), some (e, sz, by_, some z) => match S.ob o with
   | .row e' u xs m fu =>
     let go (ys : List u.den) : R :=
      A.guard ((xs.length + ys.length) * by_ ≤ 140737488355328) inferInstance <|
       if m = .own then K (({ S with mods := o :: S.mods, obs := S.obs.set o .gone } : St).add [.row e' u (xs ++ ys) .own false]) (.v (.a (.sl S.obs.length)))
       else if fu = true then K (S.add [.row e' u (xs ++ ys) m false]) (.v (.a (.sl S.obs.length))) else A.fail "append to what is read"
     if e' = e ∧ sz = u.sz ∧ 0 < sz ∧ 0 < by_ ∧ z.cells.size = sz ∧ e < mB then match cd P t x with
      | .v (.a (.nils _ _)) => A.fail "append of nil"
      | .v (.a (.sl o')) => if o' = o then A.fail "append of itself" else match S.ob o' with
        | .row _ u' ys m' _ => if u.flat = true ∨ m' = .rd ∨ (m' = .own) then match cm (a := .sl 0 u') (b := .sl 0 u) ys with
         | some ys => go ys
         | none => A.fail "append: types"
          else A.fail "append of lent"
        | _ => A.fail "append of no row"
      | _ => A.fail "append of what"
     else A.fail "append: sizes"
   | _ => A.fail "append to no row"
 | _, _ => A.fail "append to what"
structure Aft where
 p : Prop
 dp : Decidable p
 S : St
 v : SV
def As : SV → Option (Nat × Bool)
 | .v (.a (.sl o)) => some (o, false)
 | .v (.cutf o) => some (o, true)
 | _ => none
def H4 (S : St) (t : TypeId) (s x : SV) : Option Aft :=
 match As s, bo P t, cd P t x with
 | some (o, c), some (e, sz, by_, some z), .v (.a (.sl o')) => match S.ob o, S.ob o' with
   | .fleet e1 d xs none, .fleet e2 d2 ys none => if h : d2 = d then
    if e1 = e ∧ e2 = e ∧ sz = 1 ∧ 0 < by_ ∧ z.cells.size = 1 ∧ e < mB ∧ o' ≠ o then
     some ⟨(xs.length + (h ▸ ys : List (bl d).den).length) * by_ ≤ 140737488355328 ∧ (c = true → (h ▸ ys : List (bl d).den).length ≠ 0), inferInstance,
      ({ S with mods := o' :: o :: S.mods, obs := (S.obs.set o .gone).set o' .gone } : St).add [.fleet e d (xs ++ (h ▸ ys : List (bl d).den)) none], .v (.a (.sl S.obs.length))⟩
    else none
     else none
   | _, _ => none
 | _, _, _ => none
def xg (S : St) (t : TypeId) (s x : SV) (K : St → SV → R) : R :=
 match H4 P (dU S (cd P t s)).1 t (dU S (cd P t s)).2 x with
 | some q => A.guard q.p q.dp (K q.S q.v)
 | none => tO A P S t s x K
def vCp {α : Type} {n m : Nat} (v : Vector α n) (y : Vector α m) : Vector α n := ⟨(y.toList.take n ++ v.toList.drop m).toArray, by simp; omega⟩
def Ep (S : St) (t : TypeId) (s x : SV) (K : St → SV → R) : R :=
 match s, x with
 | .v (.a (.asl b off n)), .v (.a (.asl c off2 m)) => match S.ob b, S.ob c with
   | .box T ls, .box _ ls2 => match gz ls off, gz ls2 off2 with
     | some (.fl (.arr n' u) v :: _), some (.fl (.arr m' u') y :: _) =>
       if n' = n ∧ m' = m ∧ m ≤ n ∧ m ≤ 9223372036854775807 ∧ bZ P t = some u.sz then match cm (a := .arr m' u') (b := .arr m' u) y with
        | some y => match Ah ls off [.fl (.arr n' u) (vCp v y)] with
          | some ls' => K (S.setOb b (.box T ls')) (.v (.a (.fl (.int .i64) (m : Int))))
          | none => A.fail "copy: array"
        | none => A.fail "copy: types"
       else A.fail "copy: sizes"
     | _, _ => A.fail "copy: no arrays"
   | _, _ => A.fail "copy: no variables"
 | _, _ => A.fail "a builtin: copy"
def JE (S : St) (ty : TypeId) (op : Op) (K : St → SV → R) : R :=
 match op with
 | .alloc t => match yh P t with
   | some ls => K (S.add [.box t ls]) (.v (.a (.ptr S.obs.length 0)))
   | none => A.fail "alloc"
 | .box t x => match (opA S x).bind fun v => sj (cd P t v) with
   | some ls => if cellsOf P t = some (bR ls) then K (S.add [.box t ls]) (.v (.a (.ptr S.obs.length 0))) else A.fail "box: size"
   | none => A.fail "box"
 | .store t x y => match opA S x, opA S y with
   | some x, some y => Ar A P S t x y K
   | _, _ => A.fail "store"
 | .buildSlice t n ps => match bo P t, parts S ps.toList with
   | some (e, sz, _, some z), some vs => match yg P depth e with
     | some u =>
       let S := pT S vs
       if sz = u.sz ∧ vs.length = n ∧ n * sz ≤ 16777216 ∧ n ≤ 16777216 ∧ (rg P t n).isSome = true ∧ e < mB then match kY S P e u vs 0 with
        | some xs => K (S.add [.row e u xs .own false]) (.v (.a (.sl S.obs.length)))
        | none => A.fail "a slice's elements"
       else A.fail "a slice's size"
     | none => match D8 e, vs with
       | some d, [(0, .v (.a (.ptr b 0)))] => if sz = 1 ∧ n = 1 ∧ (rg P t 1).isSome = true ∧ e < mB then
        match xe (S.add [.fleet e d [(bl d).dflt] (some 0)]) S.obs.length e d (fun x => [x]) b with
        | some S' => K S' (.v (.a (.sl S.obs.length)))
        | none => A.fail "a row of what is pointed to"
         else A.fail "a row of a pointer: size"
       | _, _ => A.fail "a slice's type"
   | _, _ => A.fail "a slice"
 | .makeSlice t x y => match opA S x, opA S y, bo P t with
   | some (.v (.a (.fl (.int _) n))), some (.v (.a (.fl (.int _) c))), some (e, sz, by_, some z) => match yg P depth e with
     | some u => if sz = u.sz ∧ u.flat = true ∧ yi P e u = true ∧ e < mB then
      A.guard (0 ≤ (n : Int) ∧ (c : Int) = n ∧ (n : Int).toNat * by_ ≤ 140737488355328 ∧ (n : Int) ≤ 9223372036854775807) inferInstance
       (K (S.add [.row e u (List.replicate (n : Int).toNat u.dflt) .own false]) (.v (.a (.sl S.obs.length))))
       else A.fail "make: size"
     | none => A.fail "make: type"
   | _, _, _ => A.fail "make"
 | .convert s d x => match opA S x with
   | some (.v (.a (.fl .str b))) => match P.underlying d with
     | some (.slice e) => if mG P d s = true then A.guard (b.size ≤ 9223372036854775807) inferInstance (K (S.add [.row (mB + e) (.int .u8) (ce b) .own false]) (.v (.a (.sl S.obs.length)))) else A.fail "convert a string to what"
     | _ => A.fail "convert a string"
   | _ => A.fail "convert"
 | .slice t x l h m => match opA S x with
   | some (.v (.a (.sl o))) => match S.ob o with
     | .row e u xs .own fu => match S.cutPl inl, l, h, m with
       | some S2, none, some y, none => match opA S y, bZ P t with
         | some (.v (.a (.fl (.int .i64) hi))), some sz => if sz = u.sz ∧ e < mB then Kw (A.guard (0 ≤ hi ∧ hi ≤ (xs.length : Int)) inferInstance (K (({ S2 with mods := o :: S2.mods, obs := S2.obs.set o .gone } : St).add [.row e u (xs.take hi.toNat) .own false]) (.v (.a (.sl S2.obs.length))))) else A.fail "cut: sizes"
         | _, _ => A.fail "cut: what"
       | _, _, _, _ =>
         let S1 := S.setOb o (.row e u xs .rd fu)
         match opO S1 l, opO S1 h, opO S1 m with
         | some l, some h, some m => match Ee P S1 t (.v (.a (.sl o))) l h m with
           | some q => A.guard q.p q.dp (K (S1.add q.news) q.v)
           | none => A.fail "cut"
         | _, _, _ => A.fail "cut: bounds"
     | _ => A.fail "cut of no row"
   | some (.v (.a (.nils e u))) => A.fail "cut of nil"
   | _ => A.fail "cut of what"
 | .call { callee := .builtin .append, args, argTypes } => match args.toList, argTypes.toList with
   | [s, x], [t, t'] => match opA S s, opA S x with
     | some s, some x => if t = t' then xg A P S t s x K else A.fail "append: types"
     | _, _ => A.fail "append"
   | _, _ => A.fail "append: arguments"
 | .call { callee := .builtin .copy, args, argTypes } => match args.toList, argTypes.toList with
   | [s, x], [t, t'] => match opA S s, opA S x with
     | some s, some x => Ep A P S t s x K
     | _, _ => A.fail "copy"
   | _, _ => A.fail "copy: arguments"
 | .call { callee := .value x, args, .. } => match opA S x, tJ S args.toList with
   | some (.v (.fn f fs cs)), some xs =>
     if tw P f then
      let xs := fs.map (fun a => .v (.a a)) ++ xs ++ cs.map (fun a => .v (.a a))
      if inl.elem f then H f (cL P f xs) R A S K else mP A P Γ k S f xs K
     else A.fail "a call of what has no body"
   | _, _ => A.fail "a call of what"
 | .call { callee := .builtin b, .. } => A.fail "a builtin"
 | .lookup .. => A.fail "lookup"
 | .load .. => A.fail "load"
 | .index .. => A.fail "index"
 | .indexAddr .. => A.fail "indexAddr"
 | .build .. => A.fail "build"
 | .binOp .. => A.fail "binOp"
 | .move .. => A.fail "move"
 | .field .. => A.fail "field"
 | .fieldAddr .. => A.fail "fieldAddr"
 | .nilCheck .. => A.fail "nilCheck"
 | .makeFunc .. => A.fail "makeFunc"
 | .pick .. => A.fail "pick"
 | .extract .. => A.fail "extract"
 | .range .. => A.fail "range"
 | .next .. => A.fail "next"
 | .mapUpdate .. => A.fail "mapUpdate"
 | .makeMap .. => A.fail "makeMap"
 | .makeInterface .. => A.fail "makeInterface"
 | _ => A.fail "operation"
def Au (S : St) (ty : TypeId) (op : Op) (K : St → SV → R) : R :=
 match pP P S ty op with
 | some q => A.guard q.p q.dp (K (S.add q.news) q.v)
 | none => JE A P Γ inl H k S ty op K
def mQ (ops : List Oper) (S : St) : Option (Nat × Bool) → Option (Bool ⊕ (Nat × Bool × Bool))
 | none => some (.inl true)
 | some (g, want) => match (ops[g]?).bind (·.dst) with
   | some d => match az S.slots d with
     | some (.v (.a (.lit b))) => some (.inl (b == want))
     | some (.v (.a (.fl .bool b))) => some (.inr (d, b, want))
     | some (.v (.a .un)) => some (.inl false)
     | _ => none
   | none => none
def Er : SV := .v (.a .un)
def lE (all : List Oper) : List Oper → St → (St → R) → R
 | [], S, K => K S
 | o :: os, S, K =>
   let yes (S : St) : R := Au A P Γ inl H k S o.type o.op fun S' v => lE all os (S'.put o.dst v) K
   let no (S : St) : R := lE all os (S.put o.dst Er) K
   match mQ all S o.guard with
   | some (.inl true) => yes S
   | some (.inl false) => no S
   | some (.inr (d, b, want)) =>
     let t := (S.put (some d) (.lit true)).kid 0; let f := (S.put (some d) (.lit false)).kid 1
     if want then A.ite b (yes t) (no f) else A.ite b (no t) (yes f)
   | none => A.fail "a guard"
def aC (S : St) (st : List Nat) : St := { S with obs := S.obs.zipIdx.map fun p => if st.elem p.2 then p.1 else .gone }
def GZ (st : List Nat) : V1 → Bool
 | .elp o _ _ _ => st.elem o
 | _ => true
def yt (st : List Nat) : SV → Bool
 | .v x => GZ st x
 | .tup xs => xs.all (GZ st)
def exl (ex : List (Nat × List Nat)) (i : Nat) : List Nat := (ex.filter fun p => p.1 == i).flatMap (·.2)
def BC (S : St) (st e : List Nat) (o : Oper) : Option Qt :=
 match pP P (aC S st) o.type o.op with
 | some q => if yt st q.v = true then some q else none
 | none => match pP P (aC S (st ++ e)) o.type o.op with
   | some q => if yt (st ++ e) q.v = true ∧ q.news.isEmpty = true then some q else none
   | none => none
def tP (can : List Nat → Nat → Bool) (ops : Array Oper) (ex : List (Nat × List Nat)) (dead : List Nat) (S : St) (st l : List Nat) : List Nat → Option (Nat × Oper × Option Qt)
 | [] => none
 | j :: r => match ops.toList[j]? with
   | some o => if can l j && !(dead.elem j) then match mQ ops.toList S o.guard with
    | some (.inl true) => match BC P S st (exl ex j) o with
      | some q => some (j, o, some q)
      | none => tP can ops ex dead S st l r
    | some (.inl false) => some (j, o, none)
    | _ => tP can ops ex dead S st l r
     else tP can ops ex dead S st l r
   | none => none
def yu (ops : Array Oper) (S : St) : List Nat → Option (Nat × Bool)
 | [] => none
 | j :: r => match ops.toList[j]? with
   | some o => match mQ ops.toList S o.guard with
     | some (.inr (d, b, _)) => some (d, b)
     | _ => yu ops S r
   | none => none
def Kx (a b : List Nat) : Bool := a.all fun x => !(b.elem x)
def Ky (ops : Array Oper) (ex : List (Nat × List Nat)) (dead : List Nat) (j : Nat) (M : List Nat) : Bool := ex.all fun p => !(frB ops j p.1) || (!(dead.elem p.1) && Kx M p.2)
def tQ (ops : Array Oper) (ex : List (Nat × List Nat)) (j : Nat) : List Nat := (ex.filter fun p => !(frB ops j p.1)).map (·.1)
def yw (rs : List Nat) (act : Nat → St → R) : List Nat → St → R
 | [], _ => A.fail "a region: nothing comes up"
 | [j], S => act j S
 | j :: r, S => A.both rs (fun _ => act j (S.kid 0)) (fun _ => yw rs act r (S.kid 1))
def jD (rdy : List Nat → List Nat) (can : List Nat → Nat → Bool) (ops : Array Oper) (pre : Option (St → R)) (q : Nat) (ex : List (Nat × List Nat)) : Nat → Nat → List Nat → List Nat → List Nat → St → (St → R) → R
 | 0, _, _, _, _, _, _ => A.fail "a region's end"
 | fu + 1, fuel, l, dead, st, S, K =>
   let rs := rdy l
   match fuel with
   | 0 => if rs = [] then K S else A.fail "a region isn't at its end"
   | fuel + 1 =>
     match tP P can ops ex dead S st l rs with
     | some (j, o, some qq) => A.guard qq.p qq.dp (jD rdy can ops pre q ex fu fuel (j :: l) dead (st ++ List.range' S.obs.length qq.news.length) ((S.add qq.news).put o.dst qq.v) K)
     | some (j, o, none) => jD rdy can ops pre q ex fu fuel (j :: l) dead st (S.put o.dst Er) K
     | none => match yu ops S rs with
       | some (d, b) => A.ite b (jD rdy can ops pre q ex fu (fuel + 1) l dead st ((S.put (some d) (.lit true)).kid 0) K) (jD rdy can ops pre q ex fu (fuel + 1) l dead st ((S.put (some d) (.lit false)).kid 1) K)
       | none => yw A rs (fun j S => match ops.toList[j]? with
        | some o => match mQ ops.toList S o.guard with
          | some (.inl true) => if j = q then match pre with
           | some f => f S
           | none => if fuel = 0 ∧ rdy (j :: l) = [] then Au A P Γ inl H k S o.type o.op fun S' v => K (S'.put o.dst v) else A.fail "a region's last one isn't the last one"
            else Au A P Γ inl H k S o.type o.op fun S' v =>
             if pre.isSome = true ∨ (Kx S'.mods st && Ky ops ex dead j S'.mods) = true then jD rdy can ops pre q ex fu fuel (j :: l) (dead ++ tQ ops ex j) st (S'.put o.dst v) K else A.fail "a region: what is read early is written"
          | _ => A.fail "a region's guard"
        | none => A.fail "a region's number") rs S
end
section
variable (P : Program) (Γ : List Con) (inl : List Nat) (H : Inl) (bk : List Bk) (k : Nat)
def Lm (base : St) (dfs : Nat) (sy M : List Nat) (live : Nat) (S : St) : Option (Nst × List Src) :=
 tK base.obs.length sy M (tL 600 (live &&& dfs)) S
def Et (out : Nat) (ex : List (Nat × Nat)) (rl : Nat) : Ek → Nat
 | .normal => out
 | .exit i => Am ex i
 | .ret => rl
def Cls.T (c : Cls) : List (List Ty) := c.cls.map fun p => p.2.codes
def sM (base : St) (dfs : Nat) (c : Cls) (lv : Ek → Nat) (e : Ek) (S : St) : Option (fx c.T) :=
 match Lm base dfs c.sy c.M (lv e) S with
 | some (N, pl) => if (mN S base.obs.length pl).all (c.M.elem ·) && (S.mods.filter (· < base.obs.length)).all (c.M.elem ·) then match nO e (shN N) c.cls 0 with
  | some i => yq c.T i (coN N)
  | none => none
   else none
 | none => none
def fy {R : Type} (A : Alg R) (base : St) (dfs : Nat) (cls : List (Ek × NSh)) (ps : List Plan) (K : Ek → St → R) (i : Nat) (ds : List Dyn) : R :=
 match cls[i]? with
 | some (e, s) => match fiN s ds with
   | some N => K e ((fT base dfs N).to (ps.getD i .nil))
   | none => A.fail "a class's parts"
 | none => A.fail "no such class"
def aQ (S : St) : St := { S with mods := [] }
abbrev Run := (R : Type) → Alg R → St → (Ek → St → R) → R
noncomputable def Eu {R : Type} (A : Alg R) (S : St) (dfs : Nat) (lv : Ek → Nat) (c : Cls) (p : Plan) (ps : List Plan) (run : Run) (K : Ek → St → R) : R :=
 A.bind c.T (run _ (aw _) ((aQ S).to p) (sM (aQ S) dfs c lv)) (fy A S dfs c.cls ps K)
noncomputable def pU (S0 : St) (dfs : Nat) (lv : Ek → Nat) (run : Run) (hd oc : Cls) (hs : List Plan) (x : fx hd.T) : Option (fx hd.T ⊕ fx oc.T) :=
 eh hd.T x (fy (aw (fx hd.T ⊕ fx oc.T)) S0 dfs hd.cls hs fun _ S' => run _ (aw (fx hd.T ⊕ fx oc.T)) S' fun e S2 =>
  if e = .normal then (sM S0 dfs hd lv .normal S2).map .inl else (sM S0 dfs oc lv e S2).map .inr)
noncomputable def Ev {R : Type} (A : Alg R) (S : St) (dfs : Nat) (lv : Ek → Nat) (run : Run) (K : Ek → St → R) (hd oc : Cls) (hs os : List Plan) : R :=
 A.bind oc.T ((sM (aQ S) dfs hd lv .normal (aQ S)).bind fun x0 => aP k (pU (aQ S) dfs lv run hd oc hs) x0) (fy A S dfs oc.cls os K)
noncomputable def yx (S0 : St) (run : Run) (hd : Cls) (hs : List Plan) (x : fx hd.T) : Option (fx hd.T) :=
 eh hd.T x (fy (aw (fx hd.T)) S0 0 hd.cls hs fun _ S' => run _ (aw (fx hd.T)) S' fun e S2 => if e = .normal then sM S0 0 hd (fun _ => 0) .normal S2 else none)
noncomputable def Av {R : Type} (A : Alg R) (S : St) {α : Type} (xs : List α) (run : α → Run) (K : Ek → St → R) (hd oc : Cls) (hs ns os : List Plan) : R :=
 match oc.cls with
 | [] => A.bind hd.T ((sM (aQ S) 0 hd (fun _ => 0) .normal (aQ S)).bind fun x0 => je xs (fun h x => yx (aQ S) (run x) hd hs h) x0) (fy A S 0 hd.cls ns fun _ S' => K .normal S')
 | _ => A.bind2 hd.T oc.T ((sM (aQ S) 0 hd (fun _ => 0) .normal (aQ S)).bind fun x0 => yr xs (fun h x => pU (aQ S) 0 (fun _ => 0) (run x) hd oc hs h) x0)
  (fy A S 0 hd.cls ns fun _ S' => K .normal S') (fy A S 0 oc.cls os K)
def BD {R : Type} (A : Alg R) (ops : Array Oper) (S : St) (st : List Nat) (ex : List (Nat × List Nat)) (tab : List (Nat × Nat)) (p : Plan) (K : St → R) : R :=
 let last := ops.size - 1
 let q := if kW ops last then last else ops.size
 if (Region.noSelect ops = true ∧ (st ++ ex.flatMap (·.2)).all (fun i => decide (i < S.obs.length)) = true) ∧ yo ops tab = true then jD A P Γ inl H k (fun l => mL (gP ops.size l) tab 0) (fun l j => Ej tab (gP ops.size l) j) ops none q ex (2 * ops.size + 2) ops.size [] [] st ((aQ S).to p) (fun S' => K { S' with mods := S'.mods ++ S.mods }) else A.fail "a region that selects"
def JF (P : Program) (e : TypeId) (u : Ty) (m : Md) (y : u.den) (len : Nat) : Option Qt :=
 match cellsOf P e with
 | some n => ((Ag (bm (inner m) u y len).1 0 n).bind (iE P e)).map fun v => ⟨True, inferInstance, if (aM v).isEmpty then [] else (bm (inner m) u y len).2, v⟩
 | none => none
def rh (S : St) (b o : Nat) (e : TypeId) (u : Ty) (m : Md) (ps : List Nat) (asg body : Run) (x : Int × u.den) : Run := fun R A S' K =>
 if S'.mods.elem b || S'.mods.elem o then A.fail "a range over what is written" else
 match JF P e u m x.2 S'.obs.length, ps with
 | some q, [p, r] =>
   asg R A (((S'.add q.news).put (some p) (.int .i64 x.1)).put (some r) q.v) fun e S2 =>
    if e = .normal then body R A S2 fun e S3 => K e { S3 with slots := S.slots } else A.fail "a range's assignment"
 | _, _ => A.fail "a range's element"
def xh (gf : Nat) : List Bk → Option Bk
 | [] => none
 | B :: r => if B.gf = gf then some B else xh gf r
def Ew : Code → Bool
 | .region _ _ _ | .ret | .exit _ | .skip | .label _ => true
 | _ => false
noncomputable def exec {R : Type} (A : Alg R) (c : Code) (ex : List (Nat × Nat)) (rl out : Nat) (S : St) (K : Ek → St → R) : R :=
 match c with
 | .skip => K .normal S
 | .label _ => K .normal S
 | .ret => K .ret S
 | .exit i => K (.exit i) S
 | .scope b => exec A b ex rl out S K
 | .block i b => exec A b ((i, out) :: ex) rl out S fun e S' => if e = .exit i then K .normal S' else K e S'
 | .region _ ops d => if d then match S.pl with
  | .d st ex tab p => BD P Γ inl H k A ops S st ex tab p (K .normal)
  | .t (.d st ex tab p) => BD P Γ inl H k A ops (kd S ((ex.flatMap (·.2)).map .sl)) st ex tab p (K .normal)
  | _ => A.fail "a plan: draw"
   else lE A P Γ inl H k ops.toList ops.toList S (K .normal)
 | .cond c t e => match opA S c with
   | some (.v (.a (.lit b))) => if b then exec A t ex rl out S K else exec A e ex rl out S K
   | some (.v (.a (.fl .bool b))) => A.ite b (exec A t ex rl out (S.kid 0) K) (exec A e ex rl out (S.kid 1) K)
   | _ => A.fail "a test"
 | .seq a b =>
   let mid := mo b ex rl out
   let then_ : Ek → St → R := fun e S' => if e = .normal then exec A b ex rl out S' K else K e S'
   if Ew a || Ew b then exec A a ex rl mid S then_
   else match S.pl with
    | .n p => exec A a ex rl mid (S.to p) then_
    | .j c p ps => Eu A S (ic a) (Et mid ex rl) c p ps (fun _ A' S' K' => exec A' a ex rl mid S' K') then_
    | _ => A.fail "a plan: join"
 | .loop b =>
   let hl := mo (.loop b) ex rl out
   match S.pl with
   | .l hd oc hs os => Ev k A S (ic b) (Et hl ex rl) (fun _ A' S' K' => exec A' b ex rl hl S' K') K hd oc hs os
   | _ => A.fail "a plan: loop"
 | .rangeFunc g ps asg body =>
   match opA S g with
   | some (.v (.fn gf [] [.ptr b 0])) => match xh gf bk with
     | some B => match S.ob b with
       | .box _ [.sl o] => match S.ob o with
         | .row e u xs m _ => if B.Te = e ∧ bZ P B.Ts = some u.sz then match S.pl with
          | .r hd oc hs ns os => Av A S (kc xs) (rh P S b o e u m ps.toList
           (fun _ A' S' K' => exec A' asg [] 0 (mo body ex rl 0) S' K') (fun _ A' S' K' => exec A' body ex rl 0 S' K')) K hd oc hs ns os
          | _ => A.fail "a plan: range"
           else A.fail "a range over other types"
         | _ => A.fail "a range over no row"
       | _ => A.fail "a range over no variable"
     | none => A.fail ("a range over a function " ++ toString gf ++ Ao P gf)
   | some (.v (.fn gf _ _)) => A.fail ("a range over a function with " ++ toString gf ++ Ao P gf)
   | _ => A.fail "a range over what"
 | .goto _ => A.fail "goto"
 | .refuse _ => A.fail "refused"
def rB : Nat := 100000
def ke (l : List (Nat × SV)) : List (Nat × SV) := l.map fun p => (p.1 + shift, p.2)
def gC (l : List (Nat × SV)) : List (Nat × SV) := (l.filter fun p => decide (shift ≤ p.1)).map fun p => (p.1 - shift, p.2)
def ldB (P : Program) (S : St) (t : TypeId) : SV → Option Qt
 | .v (.a (.ptr b off)) => ldS P S t (.v (.a (.ptr b off)))
 | _ => none
def tT (P : Program) (S : St) : List (ResultVar × TypeId) → Nat → Option (List (Nat × SV))
 | [], _ => some []
 | (.tmp u, t) :: l, i => match opA S (.tmp u), tT P S l (i + 1) with
   | some v, some vs => some ((rB + i, cd P t v) :: vs)
   | _, _ => none
 | (.cell u ty, t) :: l, i => match (opA S (.tmp u)).bind (ldB P S ty), tT P S l (i + 1) with
   | some q, some vs => if q.news.isEmpty = true then some ((rB + i, cd P t q.v) :: vs) else none
   | _, _ => none
def lF (P : Program) (fn : Func) (S : St) : Option St :=
 if fn.results.size = fn.resultTypes.size then (tT P S (fn.results.toList.zip fn.resultTypes.toList) 0).map fun l => { S with slots := l } else none
def tc (fn : Func) : Nat := fn.results.toList.foldl (fun b r => b ||| match r with | .tmp t => 1 <<< t | .cell t _ => 1 <<< t) 0
def iM (pat : NSh) (x : HL pat.codes) : Option St := (fiN pat (toD pat.codes x)).map fun N => fT ⟨[], [], [], .nil⟩ 0 N
def JG (np : Nat) (sy M : List Nat) (n : Nat) (S : St) : Option (Nst × List Src) := tK np sy M ((List.range n).map (rB + ·)) S
def Ha (np n : Nat) (c : Cls) (S : St) : Option (fx ((c.cls.map (·.2)).map NSh.codes)) :=
 match JG np c.sy c.M n S with
 | some (N, pl) => if (mN S np pl).all (c.M.elem ·) && (S.mods.filter (· < np)).all (c.M.elem ·) && decide (N.slots.map (·.1) = (List.range n).map (rB + ·)) && (results N.slots).isSome && decide (n < 1000) then match nO .ret (shN N) c.cls 0 with
  | some i => yq _ i (coN N)
  | none => none
   else none
 | none => none
noncomputable def JH (fn : Func) (body : Code) (pat : NSh) (c : Cls) (p : Plan) (x : HL pat.codes) : Option (fx ((c.cls.map (·.2)).map NSh.codes)) :=
 match iM pat x with
 | some S => exec P Γ inl H bk k (aw _) body [] (tc fn) 0 ((aQ S).to p) fun e S' => match e with
   | .exit _ => none
   | _ => match lF P fn S' with
     | some S2 => Ha S.obs.length fn.results.size c S2
     | none => none
 | none => none
end
def BE : Op → Bool
 | .defer _ => false
 | _ => true
def vS (n : Nat) (os : List Oper) : Bool := os.all fun o => (match o.dst with
 | some d => decide (d < n)
 | none => true) && BE o.op
def cW : Code → Bool
 | .seq a b => cW a && cW b
 | .cond _ a b => cW a && cW b
 | .block _ b => cW b
 | .loop b => cW b
 | .scope b => cW b
 | .rangeFunc _ _ _ _ => false
 | _ => true
def okC (n : Nat) : Code → Bool
 | .region _ ops _ => vS n ops.toList
 | .seq a b => okC n a && okC n b
 | .cond _ a b => okC n a && okC n b
 | .block _ b => okC n b
 | .loop b => okC n b
 | .scope b => okC n b
 | .rangeFunc _ ps a b => ps.all (fun p => decide (p < n)) && okC n a && okC n b && cW a && cW b
 | _ => true
def so (P : Program) (f : Nat) (m : Nat) : Bool :=
 match P.funcs[f]? with
 | some fn => match fn.body with
   | some body => okC fn.ntmps body && decide (fn.ntmps ≤ shift) && decide (m ≤ fn.ntmps)
   | none => false
 | none => false
def Ln (l : List (Nat × SV)) : Bool := l.all fun p => decide (p.1 + shift < rG) || decide (rG ≤ p.1)
noncomputable def Cw (P : Program) (Γ : List Con) (inl : List Nat) (bk : List Bk) (k : Nat) : Nat → Inl
 | 0, _, _, _, A, _, _ => A.fail "too deep in place"
 | d + 1, f, xs, _, A, S, K => match P.funcs[f]? with
   | some fn => match fn.body with
     | some body => if (so P f xs.length && Ln S.slots) = true then exec P Γ inl (Cw P Γ inl bk k d) bk k A body [] (tc fn) 0 { S with slots := bT 0 xs ++ ke S.slots } fun e S' => match e with
       | .exit _ => A.fail "an exit in place"
       | _ => match lF P fn S' with
         | some S2 => match results S2.slots with
           | some v => K { S' with slots := gC S'.slots } v
           | none => A.fail "results in place"
         | none => A.fail "results in place"
       else A.fail "not to be walked in place"
     | none => A.fail "no body in place"
   | none => A.fail "no function in place"
def Hb : Nat := 6
noncomputable def yy (P : Program) (Γ : List Con) (inl : List Nat) (bk : List Bk) (f : Nat) (pat : NSh) (c : Cls) (p : Plan) : Con :=
 ⟨f, pat, c.cls.map (·.2), fun k x => match P.funcs[f]? with
  | some fn => match fn.body with
    | some body => JH P Γ inl (Cw P Γ inl bk k Hb) bk k fn body pat c p x
    | none => none
  | none => none⟩
theorem Ex (g : Env) (a : At) : (ba g a).length = a.sz := by
 cases a <;> first | rfl | (simp only [ba, (am _).len, aK, At.sz])
theorem bt (g : Env) : ∀ ls : List At, (av g ls).length = bR ls
 | [] => rfl
 | a :: ls => by
   have := bt g ls
   simp only [av, bR] at this ⊢
   simp only [List.flatMap_cons, List.length_append, Ex, List.map_cons, List.sum_cons, this]
theorem kZ (g : Env) (a b : List At) : av g (a ++ b) = av g a ++ av g b := by simp [av]
theorem Cy {v : Value} (h : v.oneCell' = true) : v.cells = #[v] := by
 cases v <;> first | rfl | (simp [Value.oneCell'] at h)
theorem Ey (g : Env) (a : At) (h : gI a = true) : ∀ v ∈ ba g a, v.oneCell' = true := by
 cases a <;> first
  | (intro v hv; simp only [ba, List.mem_singleton] at hv; subst hv; first | rfl | exact (g _).one)
  | (exact (am _).one _)
  | (cases h)
theorem tU (g : Env) (ls : List At) (h : ls.all gI = true) : ∀ v ∈ av g ls, v.oneCell' = true := by
 intro v hv
 obtain ⟨a, ha, hv⟩ := List.mem_flatMap.1 hv
 exact Ey g a (List.all_eq_true.1 h a ha) v hv
theorem tV (g : Env) (a : At) (h : gI a = true) : (aJ g a).cells.toList = ba g a := by
 cases a with
 | fl t x => cases t <;> rfl
 | sl o => simp only [aJ, ba, Cy (g o).one]
 | un => cases h
 | _ => rfl
def JI (w : World) (e sz : Nat) (v : Value) (n : Nat) (xs : List Value) : Prop :=
 xs.length = n * sz ∧ (v = .slice none 0 0 ∧ n = 0 ∨ ∃ (g cap : Nat) (cur : Array Value) (fz : Nat × Nat), v = .slice (some ⟨g, 0, none⟩) n cap ∧ w.heap[g]? = some (.cells cur e fz) ∧ cur.size ≤ fz.1 ∧ n ≤ cap ∧ cap ≤ maxLen ∧ cur.size = cap * sz ∧ cur.toList.take (n * sz) = xs)
def OwnR (w : World) (e sz : Nat) (v : Value) (n : Nat) (xs : List Value) : Prop := if e < mB then w.ownsRow 0 e sz v n xs else JI w (e - mB) sz v n xs
theorem OwnR.see {w : World} {e sz n : Nat} {v : Value} {xs : List Value} (h : OwnR w e sz v n xs) :
 xs.length = n * sz ∧ (v = .slice none 0 0 ∧ n = 0 ∨ ∃ (g cap : Nat) (cur : Array Value) (e' : Nat) (fz : Nat × Nat), v = .slice (some ⟨g, 0, none⟩) n cap ∧ w.heap[g]? = some (.cells cur e' fz) ∧ n ≤ cap ∧ cap ≤ maxLen ∧ cur.size = cap * sz ∧ cur.toList.take (n * sz) = xs) := by
 unfold OwnR at h
 split at h
 ·refine ⟨h.1, ?_⟩
  rcases h.2 with h | ⟨g, cap, cur, h1, _, h2, h3⟩
  ·exact .inl h
  ·exact .inr ⟨g, cap, cur, _, _, h1, h2, h3⟩
 ·refine ⟨h.1, ?_⟩
  rcases h.2 with h | ⟨g, cap, cur, fz, h1, h2, _, h3⟩
  ·exact .inl h
  ·exact .inr ⟨g, cap, cur, _, _, h1, h2, h3⟩
def eU (v : Value) (e sz n : Nat) (xs : List Value) : Ent :=
 ⟨fun x => v.ownBlock = some x, fun w => OwnR w e sz v n xs, fun w h x hx => by
  rcases h.see.2 with ⟨rfl, _⟩ | ⟨g, cap, cur, e', fz, rfl, h1, _⟩
  ·simp [Value.ownBlock] at hx
  ·simp only [Value.ownBlock, Option.some.injEq] at hx
   subst hx
   exact (Array.getElem?_eq_some_iff.1 h1).1,
    fun w w' h f => by
  unfold OwnR at h ⊢
  split
  ·rename_i he
   rw [if_pos he] at h
   exact (ie v e sz n xs).loc w w' h f
  ·rename_i he
   rw [if_neg he] at h
   refine ⟨h.1, ?_⟩
   rcases h.2 with hn | ⟨g, cap, cur, fz, rfl, h1, rest⟩
   ·exact .inl hn
   ·exact .inr ⟨g, cap, cur, fz, rfl, (f g (by simp [Value.ownBlock])).trans h1, rest⟩, false⟩
theorem dV {v : Value} {e sz n : Nat} {xs : List Value} {w : World} (h : e < mB) : (eU v e sz n xs).ok w ↔ (ie v e sz n xs).ok w := by
 show OwnR w e sz v n xs ↔ w.ownsRow 0 e sz v n xs
 unfold OwnR
 rw [if_pos h]
theorem pV (v : Value) (e sz n : Nat) (xs : List Value) : (eU v e sz n xs).dom = (ie v e sz n xs).dom := rfl
theorem xi (w : World) (e sz : Nat) : OwnR w e sz (.slice none 0 0) 0 [] := by
 unfold OwnR
 split
 ·exact World.ownsRow_nil _ _ _ _
 ·exact ⟨by simp, .inl ⟨rfl, rfl⟩⟩
theorem kf {w : World} {v : Value} {e sz n : Nat} {xs : List Value} (h : OwnR w e sz v n xs) : Rds v n sz xs w := by
 refine ⟨h.see.1, ?_⟩
 rcases h.see.2 with ⟨rfl, h0⟩ | ⟨g, cap, cur, e', fz, rfl, hg, h1, h2, h3, h4⟩
 ·subst h0
  have : xs = [] := List.eq_nil_of_length_eq_zero (by simpa using h.see.1)
  subst this
  exact ⟨none, 0, rfl, Nat.le_refl _, by omega, fun _ => rfl, by simp⟩
 ·refine ⟨_, cap, rfl, h1, by simpa [maxLen] using h2, by simp, fun j u hu => ⟨_, rfl, ?_⟩⟩
  rw [bG, Nat.zero_add, cell_of_row w g j cur e' fz hg]
  rw [← h4, List.getElem?_take] at hu
  split at hu
  ·simpa using hu
  ·cases hu
theorem ri {w : World} {v : Value} {e sz n : Nat} {xs : List Value} {b : Nat} (h : OwnR w e sz v n xs) (q : aT v = some b) : v.ownBlock = some b := by
 rcases h.see.2 with ⟨rfl, _⟩ | ⟨g, cap, cur, e', fz, rfl, _⟩
 ·simp [aT] at q
 ·simpa [aT, Value.ownBlock] using q
def pW (g : Env) (i : Nat) (T : Nat) (ls : List At) : Ent := dI false (g i).b T (av g ls)
def Hc {ι : Type} (f : ι → Ent) (l : Bool := false) : Ent :=
 ⟨fun b => ∃ i, (f i).dom b, fun w => ∀ i, (f i).ok w, fun w h b ⟨i, hb⟩ => (f i).lt w (h i) b hb, fun w w' h k i => (f i).loc w w' (h i) (fun b hb => k b ⟨i, hb⟩), l⟩
def cw (g : Env) (i : Nat) : Ob → Ent
 | .box T ls => pW g i T ls
 | .row e t xs .own _ => eU (g i).v e t.sz xs.length (g i).cs
 | _ => Ent.nil
def cz (g : Env) (i : Nat) : Ob → Ent
 | .row e t xs .own _ => dJ false (g i).fs
 | .row e t xs .rd _ => dJ false (⟨(g i).v, xs.length, t.sz, (g i).cs⟩ :: (g i).fs)
 | .row e t xs .lent _ => dJ true (⟨(g i).v, xs.length, t.sz, (g i).cs⟩ :: (g i).fs)
 | _ => Ent.nil
def aG (G : GV) (e : Nat) (d : Kd) (xs : List (bl d).den) (hole : Option Nat) : Option (Nat × Nat) → Ent
 | none => eU G.v e 1 xs.length G.cs
 | some (k, j) => if hole = some k then Ent.nil else match xs[k]? with
   | some x => cw (dK G k) j (aY d.l (bp d x j))
   | none => Ent.nil
def aX (G : GV) (d : Kd) (xs : List (bl d).den) (hole : Option Nat) (q : Nat × Nat) : Ent :=
 if hole = some q.1 then Ent.nil else match xs[q.1]? with
  | some x => cz (dK G q.1) q.2 (aY d.l (bp d x q.2))
  | none => Ent.nil
def ej (G : GV) (e : Nat) (d : Kd) (xs : List (bl d).den) (hole : Option Nat) : Ent := Hc (aG G e d xs hole)
def fA (G : GV) (d : Kd) (xs : List (bl d).den) (hole : Option Nat) : Ent := Hc (aX G d xs hole) d.l
def an (g : Env) (i : Nat) : Ob → Ent
 | .box T ls => pW g i T ls
 | .row e t xs .own _ => eU (g i).v e t.sz xs.length (g i).cs
 | .fleet e d xs hole => ej (g i) e d xs hole
 | _ => Ent.nil
def ax (g : Env) (i : Nat) : Ob → Ent
 | .fleet e d xs hole => fA (g i) d xs hole
 | .row e t xs .own _ => dJ false (g i).fs
 | .row e t xs .rd _ => dJ false (⟨(g i).v, xs.length, t.sz, (g i).cs⟩ :: (g i).fs)
 | .row e t xs .lent _ => dJ true (⟨(g i).v, xs.length, t.sz, (g i).cs⟩ :: (g i).fs)
 | _ => Ent.nil
def Aw (g : Env) (i : Nat) : Ob → Prop
 | .box _ ls => ls.all gI = true
 | .row _ t xs m fu => gh (gH t) xs (g i).cs (g i).fs ∧ SlV (g i).v xs.length ∧ fu = false ∧ m ≠ .lent
 | _ => True
structure KidP (κ : Env) (d : Kd) (x : (bl d).den) : Prop where
 ex : ∃ os, jB d x = some os ∧ (∃ T ls, os[0]? = some (.box T ls))
 ob : ∀ j, Aw κ j (bp d x j)
 rb : ∀ j T ls, bp d x j = .box T ls → ∀ o ∈ ls.flatMap aN, o < (Cs d).length
structure FleetP (G : GV) (e : Nat) (d : Kd) (xs : List (bl d).den) (hole : Option Nat) : Prop where
 n : G.ks.length = xs.length
 cs : G.cs = (List.range xs.length).map (fun k => .pointer (some ⟨gi G k, 0, none⟩))
 fs : G.fs = []
 kb : ∀ k, k < xs.length → (dK G k 0).b = gi G k
 sl : SlV G.v xs.length
 kid : ∀ k x, xs[k]? = some x → hole ≠ some k → KidP (dK G k) d x
 apart : ∀ p q, p ≠ q → ∀ b, (aG G e d xs hole p).dom b → ¬ (aG G e d xs hole q).dom b
def obP (g : Env) (i : Nat) : Ob → Prop
 | .fleet e d xs hole => FleetP (g i) e d xs hole
 | .box _ ls => ls.all gI = true
 | .row _ t xs _ fu => gh (gH t) xs (g i).cs (g i).fs ∧ SlV (g i).v xs.length ∧ (fu = true → ∃ ao, (g i).v = .slice ao xs.length xs.length ∧ (ao = none → xs.length = 0))
 | .gone => True
def okV (S : St) : V1 → Prop
 | .elp o sz i _ => ∀ e t xs m fu, S.ob o = .row e t xs m fu → 0 ≤ i ∧ i < xs.length ∧ sz = t.sz
 | .arp _ _ _ n i => 0 ≤ i ∧ i < n
 | _ => True
def okS (S : St) : SV → Prop
 | .v x => okV S x
 | .tup xs => ∀ x ∈ xs, okV S x
def Cx (g : Env) (S : St) (w0 : World) (D A : Nat → Prop) (w : World) : Prop := CtxF w0 D A (fun i => an g i (S.ob i)) (fun i => ax g i (S.ob i)) w
def Ext (g g' : Env) (n : Nat) : Prop := ∀ i, i < n → g' i = g i
def GlV (v : Value) (b : Nat) : Prop := v = undef ∨ v = .pointer (some ⟨b, 0, none⟩)
structure Ghost where
 f : Nat → Value
 ds : List Deferred
 lo : Nat
 gp : ∀ t, rG ≤ t → GlV (f t) (t % shift)
structure SameG (γ' γ : Ghost) : Prop where
 f : γ'.f = γ.f
 lo : γ'.lo = γ.lo
theorem SameG.refl (γ : Ghost) : SameG γ γ := ⟨rfl, rfl⟩
theorem SameG.trans {a b c : Ghost} (h : SameG a b) (k : SameG b c) : SameG a c := ⟨h.f.trans k.f, h.lo.trans k.lo⟩
structure Fit (g : Env) (γ : Ghost) (S : St) (n : Nat) (a : Act) : Prop where
 size : a.tmps.size = n
 lo : n ≤ shift
 defers : a.defers = γ.ds
 sl : ∀ t sv, az S.slots t = some sv → if t < shift then a.tmps[t]? = some (aq g sv) else γ.f t = aq g sv
 ob : ∀ i, obP g i (S.ob i)
 ok : ∀ t sv, az S.slots t = some sv → okS S sv
 rs : ∀ t sv, az S.slots t = some sv → ∀ o ∈ aM sv, o < S.obs.length
 rb : ∀ i T ls, S.ob i = .box T ls → ∀ o ∈ ls.flatMap aN, o < S.obs.length
theorem Ez {g g' : Env} (a : At) (h : ∀ o ∈ aN a, g' o = g o) : ba g' a = ba g a := by
 cases a <;> simp_all [ba, aN]
theorem yz {g g' : Env} (a : At) (h : ∀ o ∈ aN a, g' o = g o) : aJ g' a = aJ g a := by
 cases a with
 | fl t x => cases t <;> rfl
 | _ => simp_all [aJ, aN]
theorem tW {g g' : Env} : ∀ (ls : List At), (∀ o ∈ ls.flatMap aN, g' o = g o) → ls.map (aJ g') = ls.map (aJ g)
 | [], _ => rfl
 | a :: ls, h => by
   simp only [List.flatMap_cons, List.mem_append] at h
   rw [List.map_cons, List.map_cons, yz a (fun o ho => h o (.inl ho)), tW ls (fun o ho => h o (.inr ho))]
theorem el {g g' : Env} : ∀ (ls : List At), (∀ o ∈ ls.flatMap aN, g' o = g o) → av g' ls = av g ls
 | [], _ => rfl
 | a :: ls, h => by
   simp only [List.flatMap_cons, List.mem_append] at h
   have := el ls (fun o ho => h o (.inr ho))
   simp only [av] at this ⊢
   rw [List.flatMap_cons, List.flatMap_cons, Ez a (fun o ho => h o (.inl ho)), this]
theorem yA {g g' : Env} (x : V1) (h : ∀ o ∈ bg x, g' o = g o) : aU g' x = aU g x := by
 cases x with
 | a x => exact yz x h
 | elp o sz i off => simp only [bg, List.mem_singleton, forall_eq] at h; simp only [aU, h]
 | arp b off t n i => simp only [bg, List.mem_singleton, forall_eq] at h; simp only [aU, h]
 | fn f fs cs =>
   simp only [bg, List.mem_append] at h
   simp only [aU, tW fs (fun o ho => h o (.inl ho)), tW cs (fun o ho => h o (.inr ho))]
 | st ls => simp only [aU, el ls h]
 | cutf o => simp only [bg, List.mem_singleton, forall_eq] at h; simp only [aU, h]
theorem ep {g g' : Env} (x : SV) (h : ∀ o ∈ aM x, g' o = g o) : aq g' x = aq g x := by
 cases x with
 | v x => exact yA x h
 | tup xs =>
   simp only [aq]
   congr 2
   apply List.map_congr_left
   intro x hx
   exact yA x (fun o ho => h o (List.mem_flatMap.2 ⟨x, hx, ho⟩))
theorem dm : ∀ (ls : List At) (off : Nat) (r : List At), gz ls off = some r → ∃ pre, ls = pre ++ r ∧ bR pre = off
 | ls, 0, r, h => by
   have : r = ls := by cases ls <;> simpa [gz] using h.symm
   exact ⟨[], by simp [this], rfl⟩
 | [], n + 1, r, h => by simp [gz] at h
 | a :: ls, n + 1, r, h => by
   simp only [gz] at h
   split at h
   ·rename_i ha
    obtain ⟨pre, e, hs⟩ := dm ls _ r h
    refine ⟨a :: pre, by rw [e]; rfl, ?_⟩
    show a.sz + bR pre = n + 1
    omega
   ·cases h
theorem jE : ∀ (ls : List At) (n : Nat) (r : List At), mI ls n = some r → ∃ post, ls = r ++ post ∧ bR r = n
 | ls, 0, r, h => by
   have : r = [] := by cases ls <;> simpa [mI] using h.symm
   subst this
   exact ⟨ls, rfl, rfl⟩
 | [], n + 1, r, h => by simp [mI] at h
 | a :: ls, n + 1, r, h => by
   simp only [mI] at h
   split at h
   ·rename_i ha
    obtain ⟨r', hr, rfl⟩ := Option.map_eq_some_iff.1 h
    obtain ⟨post, e, hs⟩ := jE ls _ r' hr
    refine ⟨post, by rw [e]; rfl, ?_⟩
    show a.sz + bR r' = n + 1
    omega
   ·cases h
theorem lc {ls : List At} {off n : Nat} {seg : List At} (h : Ag ls off n = some seg) : ∃ pre post, ls = pre ++ (seg ++ post) ∧ bR pre = off ∧ bR seg = n := by
 obtain ⟨r, h1, h2⟩ := Option.bind_eq_some_iff.1 h
 obtain ⟨pre, e, hs⟩ := dm _ _ _ h1
 obtain ⟨post, e', hs'⟩ := jE _ _ _ h2
 exact ⟨pre, post, by rw [e, e'], hs, hs'⟩
theorem eW (g : Env) {pre seg post : List At} {off n : Nat} (hp : bR pre = off) (hs : bR seg = n) : ((av g (pre ++ (seg ++ post))).drop off).take n = av g seg := by
 rw [kZ, kZ, ← hp, ← bt g pre, List.drop_left, ← hs, ← bt g seg, List.take_left]
theorem mR (g : Env) {a : At} (h : Eb a = true) : ba g a = [aJ g a] := by
 cases a with
 | fl t x => cases t <;> first | rfl | (simp [Eb] at h)
 | un => simp [Eb] at h
 | _ => rfl
theorem gQ {P : Program} {t : TypeId} {n : Nat} {seg : List At} {v : SV} (h : iE P t seg = some v) (hn : cellsOf P t = some n) (hs : bR seg = n) :
 (jV P t = true ∧ ∃ a, seg = [a] ∧ Eb a = true ∧ v = .v (.a a)) ∨ (wV P t n = true ∧ ∀ g, aq g v = .agg (av g seg).toArray) := by
 unfold iE at h
 have hi : (P.info? t).map (·.size) = some n := hn
 split at h
 ·rename_i h5
  cases h
  exact .inr ⟨by simp [wV, h5, hi], fun g => rfl⟩
 ·rename_i h6
  split at h
  ·cases h
   refine .inr ⟨by simp [wV, h6, hi], fun g => ?_⟩
   simp [aq, aU, aJ, av, ba]
  ·cases h
 ·cases h
 ·rename_i h5 h6 h0
  split at h
  ·rename_i a
   split at h
   ·rename_i hc
    cases h
    refine .inl ⟨?_, a, rfl, hc, rfl⟩
    unfold jV
    simp only [Bool.not_eq_true', Bool.or_eq_false_iff, beq_eq_false_iff_ne]
    exact ⟨⟨fun e => h0 e, fun e => h5 e⟩, fun e => h6 e⟩
   ·cases h
  ·cases h
theorem kg {P : Program} {t : TypeId} {seg : List At} {v : SV} (h : iE P t seg = some v) : aM v = seg.flatMap aN ∧ ∀ S, okS S v := by
 unfold iE at h
 split at h
 ·cases h; exact ⟨rfl, fun _ => trivial⟩
 ·split at h
  ·cases h; exact ⟨rfl, fun _ => trivial⟩
  ·cases h
 ·cases h
 ·split at h
  ·split at h
   ·cases h; exact ⟨by simp [aM, bg], fun _ => trivial⟩
   ·cases h
  ·cases h
theorem lf (m : Md) (hm : m ≠ .own) : ∀ (t : Ty) (x : t.den) (n : Nat) (g : Env) (cs : List Value) (F : List Fact), gH t x cs F →
 ∃ g' : Env, (∀ i, i < n ∨ n + (bm m t x n).2.length ≤ i → g' i = g i) ∧ av g' (bm m t x n).1 = cs ∧ (bm m t x n).1.all gI = true ∧
  (∀ o ∈ (bm m t x n).1.flatMap aN, n ≤ o ∧ o < n + (bm m t x n).2.length) ∧
  ∀ j ob, (bm m t x n).2[j]? = some ob → obP g' (n + j) ob ∧ ∃ e u xs, ob = .row e u xs m false ∧ ∀ f ∈ (⟨(g' (n + j)).v, xs.length, u.sz, (g' (n + j)).cs⟩ :: (g' (n + j)).fs : List Fact), f ∈ F
 | .pair a b, x, n, g, cs, F, ⟨c1, c2, F1, F2, h1, h2, h3, h4⟩ => by
   obtain ⟨g1, e1, q1, s1, r1, k1⟩ := lf m hm a x.1 n g c1 F1 h3
   obtain ⟨g2, e2, q2, s2, r2, k2⟩ := lf m hm b x.2 (n + (bm m a x.1 n).2.length) g1 c2 F2 h4
   refine ⟨g2, ?_, ?_, ?_, ?_, ?_⟩
   ·intro i hi
    simp only [bm, List.length_append] at hi
    rw [e2 i (by omega), e1 i (by omega)]
   ·simp only [bm, kZ, q2, h1]
    rw [el (g := g1) _ (fun o ho => e2 o (.inl (r1 o ho).2)), q1]
   ·simp only [bm, List.all_append, s1, s2, Bool.and_self]
   ·intro o ho
    simp only [bm, List.flatMap_append, List.mem_append, List.length_append] at ho ⊢
    rcases ho with ho | ho
    ·have := r1 o ho; omega
    ·have := r2 o ho; omega
   ·intro j ob hj
    simp only [bm] at hj
    rcases Nat.lt_or_ge j (bm m a x.1 n).2.length with hlt | hge
    ·rw [List.getElem?_append_left hlt] at hj
     obtain ⟨p1, e, u, xs, he, hf⟩ := k1 j ob hj
     have hg : g2 (n + j) = g1 (n + j) := e2 _ (.inl (by omega))
     subst he
     refine ⟨?_, e, u, xs, rfl, ?_⟩
     ·simp only [obP, hg]; exact p1
     ·intro f hf'
      rw [hg] at hf'
      rw [h2]
      exact List.mem_append_left _ (hf f hf')
    ·rw [List.getElem?_append_right hge] at hj
     obtain ⟨p1, e, u, xs, he, hf⟩ := k2 _ ob hj
     have hn : n + (bm m a x.1 n).2.length + (j - (bm m a x.1 n).2.length) = n + j := by omega
     rw [hn] at p1 hf
     refine ⟨p1, e, u, xs, he, fun f hf' => ?_⟩
     rw [h2]
     exact List.mem_append_right _ (hf f hf')
 | .sl e t, xs, n, g, cs, F, ⟨v, css, F', h1, h2, h3, h4⟩ => by
   have hone : v.oneCell' = true := h2.one
   refine ⟨fun i => if i = n then ⟨v, hone, (0, fun _ => 0), css, F', []⟩ else g i, ?_, ?_, rfl, ?_, ?_⟩
   ·intro i hi
    simp only [bm, List.length_singleton] at hi
    simp only
    rw [if_neg (by omega)]
   ·simp [bm, av, ba, h1]
   ·intro o ho
    simp only [bm, List.flatMap_cons, aN, List.flatMap_nil, List.append_nil, List.mem_singleton] at ho
    simp only [bm, List.length_singleton]
    omega
   ·intro j ob hj
    match j with
    | 0 =>
      simp only [bm, List.getElem?_cons_zero, Option.some.injEq] at hj
      subst hj
      refine ⟨⟨by simpa using h4, by simpa using h2, by simp⟩, e, t, xs, rfl, ?_⟩
      intro f hf
      simp only [Nat.add_zero, if_true] at hf
      rw [h3]
      exact hf
    | j + 1 => simp [bm] at hj
 | .int k, x, n, g, cs, F, ⟨h1, h2⟩ => ⟨g, fun _ _ => rfl, by simp [bm, av, ba, h1], rfl, by simp [bm, aN], by simp [bm]⟩
 | .bool, x, n, g, cs, F, ⟨h1, h2⟩ => ⟨g, fun _ _ => rfl, by simp [bm, av, ba, h1], rfl, by simp [bm, aN], by simp [bm]⟩
 | .str, x, n, g, cs, F, ⟨h1, h2⟩ => ⟨g, fun _ _ => rfl, by simp [bm, av, ba, h1], rfl, by simp [bm, aN], by simp [bm]⟩
 | .unit, x, n, g, cs, F, ⟨h1, h2⟩ => ⟨g, fun _ _ => rfl, by simp [bm, av, am, FU, h1], rfl, by simp [bm, aN], by simp [bm]⟩
 | .arr q t, x, n, g, cs, F, ⟨h1, h2⟩ => ⟨g, fun _ _ => rfl, by simp [bm, av, ba, h1], rfl, by simp [bm, aN], by simp [bm]⟩
theorem aW {S : St} {news : List Ob} {i : Nat} (h : i < S.obs.length) : (S.add news).ob i = S.ob i := by
 simp [St.ob, St.add, List.getD_eq_getElem?_getD, List.getElem?_append_left h]
theorem bN {S : St} {news : List Ob} {i : Nat} (h : S.obs.length ≤ i) : (S.add news).ob i = news.getD (i - S.obs.length) .gone := by
 simp [St.ob, St.add, List.getD_eq_getElem?_getD, List.getElem?_append_right h]
theorem kh {S : St} {i : Nat} (h : S.obs.length ≤ i) : S.ob i = .gone := by simp [St.ob, List.getD_eq_getElem?_getD, List.getElem?_eq_none h]
theorem td (S : St) : S.add [] = S := by simp [St.add]
section
variable {P : Program} {g g' : Env} {γ : Ghost} {S : St} {n : Nat} {a : Act} {w0 w : World} {D A : Nat → Prop}
theorem iN {i : Nat} {o : Ob} (h : g' i = g i) (hr : ∀ T ls, o = .box T ls → ∀ x ∈ ls.flatMap aN, g' x = g x) : an g' i o = an g i o := by
 cases o with
 | box T ls => simp only [an, pW, h, el ls (hr T ls rfl)]
 | row e t xs m fu => cases m <;> simp only [an, h]
 | fleet e d xs ho => simp only [an, h]
 | gone => rfl
theorem cM {i : Nat} {o : Ob} (h : g' i = g i) : ax g' i o = ax g i o := by
 cases o with
 | row e t xs m fu => cases m <;> simp only [ax, h]
 | fleet e d xs ho => simp only [ax, h]
 | _ => rfl
theorem iF {i : Nat} {o : Ob} (h : g' i = g i) (k : obP g i o) : obP g' i o := by
 cases o with
 | row e t xs m fu => simp only [obP, h] at k ⊢; exact k
 | fleet e d xs ho => simp only [obP, h] at k ⊢; exact k
 | _ => exact k
def tX (g g' : Env) (S : St) (w : World) (news : List Ob) : Prop :=
 ∀ j ob, news[j]? = some ob → (∀ b, ¬ (an g' (S.obs.length + j) ob).dom b) ∧ (an g' (S.obs.length + j) ob).ok w ∧
  ((∀ b, ¬ (ax g' (S.obs.length + j) ob).dom b) ∧ (ax g' (S.obs.length + j) ob).ok w ∨
    ∃ o, Sub1 (ax g' (S.obs.length + j) ob) (ax g o (S.ob o)) w ∧ ((ax g' (S.obs.length + j) ob).lent = false → (ax g o (S.ob o)).lent = false))
theorem tY (F : Fit g γ S n a) {news : List Ob} (hx : Ext g g' S.obs.length)
 (hn : tX g g' S w news)
 (C : Cx g S w0 D A w) : Cx g' (S.add news) w0 D A w := by
 have hlt : ∀ i, i < S.obs.length → an g' i ((S.add news).ob i) = an g i (S.ob i) ∧ ax g' i ((S.add news).ob i) = ax g i (S.ob i) := fun i hi => by
  rw [aW hi]
  exact ⟨iN (hx i hi) (fun T ls e x hm => hx x (F.rb i T ls e x hm)), cM (hx i hi)⟩
 have hge : ∀ i, S.obs.length ≤ i → (∀ b, ¬ (an g' i ((S.add news).ob i)).dom b) ∧ (an g' i ((S.add news).ob i)).ok w ∧
  ((∀ b, ¬ (ax g' i ((S.add news).ob i)).dom b) ∧ (ax g' i ((S.add news).ob i)).ok w ∨
    ∃ o, Sub1 (ax g' i ((S.add news).ob i)) (ax g o (S.ob o)) w ∧ ((ax g' i ((S.add news).ob i)).lent = false → (ax g o (S.ob o)).lent = false)) := fun i hi => by
  rw [bN hi]
  cases hj : news[i - S.obs.length]? with
  | none => rw [List.getD_eq_getElem?_getD, hj]; exact ⟨fun b h => h.elim, trivial, .inl ⟨fun b h => h.elim, trivial⟩⟩
  | some ob =>
    have := hn _ ob hj
    rw [show S.obs.length + (i - S.obs.length) = i by omega] at this
    rw [List.getD_eq_getElem?_getD, hj]
    exact this
 refine pN C id (fun i => ?_) (fun i j hij _ _ => hij) (fun i => ?_)
 ·rcases Nat.lt_or_ge i S.obs.length with h | h
  ·simp only [(hlt i h).1]; exact .inr (Sub1.refl _ _)
  ·exact .inl ⟨(hge i h).1, (hge i h).2.1⟩
 ·rcases Nat.lt_or_ge i S.obs.length with h | h
  ·simp only [(hlt i h).2]; exact .inr (.inl ⟨i, Sub1.refl _ _, id⟩)
  ·rcases (hge i h).2.2 with h1 | ⟨o, h1, h2⟩
   ·exact .inl h1
   ·exact .inr (.inl ⟨o, h1, h2⟩)
theorem BF {news : List Ob} {v : V1} (hr : ∀ o ∈ bg v, o < S.obs.length) (h : okV S v) : okV (S.add news) v := by
 cases v with
 | elp o sz i off =>
   intro e t xs m fu he
   rw [aW (hr o (by simp [bg]))] at he
   exact h e t xs m fu he
 | arp b off t n i => exact h
 | _ => trivial
theorem He {news : List Ob} {v : SV} (hr : ∀ o ∈ aM v, o < S.obs.length) (h : okS S v) : okS (S.add news) v := by
 cases v with
 | v x => exact BF hr h
 | tup xs => exact fun x hx => BF (fun o ho => hr o (List.mem_flatMap.2 ⟨x, hx, ho⟩)) (h x hx)
theorem fY (F : Fit g γ S n a) {news : List Ob} (hx : Ext g g' S.obs.length) (hn : ∀ j ob, news[j]? = some ob → obP g' (S.obs.length + j) ob)
 (hb : ∀ (j T : Nat) (ls : List At), news[j]? = some (Ob.box T ls) → ∀ o ∈ ls.flatMap aN, o < S.obs.length + news.length) : Fit g' γ (S.add news) n a := by
 refine ⟨F.size, F.lo, F.defers, ?_, ?_, ?_, ?_, ?_⟩
 ·intro t sv h
  have := F.sl t sv h
  rwa [ep sv (fun o ho => hx o (F.rs t sv h o ho))]
 ·intro i
  rcases Nat.lt_or_ge i S.obs.length with h | h
  ·rw [aW h]; exact iF (hx i h) (F.ob i)
  ·rw [bN h]
   cases hj : news[i - S.obs.length]? with
   | none => rw [List.getD_eq_getElem?_getD, hj]; trivial
   | some ob =>
     have := hn _ ob hj
     rw [show S.obs.length + (i - S.obs.length) = i by omega] at this
     rw [List.getD_eq_getElem?_getD, hj]
     exact this
 ·exact fun t sv h => He (F.rs t sv h) (F.ok t sv h)
 ·intro t sv h o ho
  have := F.rs t sv h o ho
  simp only [St.add, List.length_append]; omega
 ·intro i T ls h o ho
  simp only [St.add, List.length_append]
  rcases Nat.lt_or_ge i S.obs.length with hi | hi
  ·rw [aW hi] at h; have := F.rb i T ls h o ho; omega
  ·rw [bN hi] at h
   cases hj : news[i - S.obs.length]? with
   | none => rw [List.getD_eq_getElem?_getD, hj] at h; cases h
   | some ob =>
     rw [List.getD_eq_getElem?_getD, hj] at h
     simp only [Option.getD_some] at h
     subst h
     exact hb _ T ls hj o ho
structure Looks (P : Program) (g : Env) (γ : Ghost) (S : St) (n : Nat) (a : Act) (op : Op) (q : Qt) (g' : Env) : Prop where
 ext : Ext g g' S.obs.length
 fit : Fit g' γ (S.add q.news) n a
 ok : okS (S.add q.news) q.v
 rs : ∀ o ∈ aM q.v, o < (S.add q.news).obs.length
 run : ∀ w0 D A w, Cx g S w0 D A w → tX g g' S w q.news ∧ cQ P a.eval op w (aq g' q.v) w
theorem gR (F : Fit g γ S n a) {op : Op} {p : Prop} {dp : Decidable p} {v : SV} (hok : okS S v) (hrs : ∀ o ∈ aM v, o < S.obs.length)
 (h : ∀ w0 D A w, Cx g S w0 D A w → cQ P a.eval op w (aq g v) w) : Looks P g γ S n a op ⟨p, dp, [], v⟩ g :=
 ⟨fun _ _ => rfl, by rw [td]; exact F, by rw [td]; exact hok, by rw [td]; exact hrs, fun w0 D A w C => ⟨fun j ob hj => by simp at hj, h w0 D A w C⟩⟩
theorem aD (F : Fit g γ S n a) {x : Operand} {sv : SV} (h : opA S x = some sv) : a.eval x = aq g sv ∧ okS S sv ∧ ∀ o ∈ aM sv, o < S.obs.length := by
 cases x with
 | tmp t =>
   simp only [opA] at h
   split at h
   ·rename_i ht
    have := F.sl t sv h
    rw [if_pos ht] at this
    exact ⟨by simp [Act.eval, Array.getD_eq_getD_getElem?, this], F.ok t sv h, F.rs t sv h⟩
   ·cases h
 | const v =>
   simp only [opA, Option.map_eq_some_iff] at h
   obtain ⟨b, hb, rfl⟩ := h
   unfold cst at hb
   split at hb <;> first
    | (cases hb; done)
    | (cases hb; exact ⟨rfl, trivial, by simp [aM, bg, aN]⟩)
 | func f => simp only [opA, Option.some.injEq] at h; subst h; exact ⟨rfl, trivial, by simp [aM, bg]⟩
 | global q =>
   simp only [opA] at h
   unfold yj at h
   split at h
   ·rename_i p hp
    have hq := List.find?_some hp
    simp only [Bool.and_eq_true, decide_eq_true_eq] at hq
    split at h
    ·rename_i o hl
     cases h
     have h1 := F.sl p.1 _ hl
     rw [if_neg (by have := hq.1; simp only [rG] at this; omega)] at h1
     refine ⟨?_, F.ok _ _ hl, F.rs _ _ hl⟩
     rcases γ.gp p.1 hq.1 with h2 | h2
     ·rw [h1] at h2; cases h2
     ·rw [h1, hq.2] at h2
      exact h2.symm
    ·cases h
   ·cases h
end
section
variable {P : Program} {g : Env} {γ : Ghost} {S : St} {n : Nat} {a : Act} {w0 w : World} {D A : Nat → Prop} {ρ : Operand → Value}
theorem Cz (t : TypeId) (x : At) : aJ g (vO P t x) = aJ g x ∧ ba g (vO P t x) = ba g x ∧ aN (vO P t x) = aN x ∧ gI (vO P t x) = gI x := by
 cases x <;> first
  | exact ⟨rfl, rfl, rfl, rfl⟩
  | (simp only [vO, D9]; split
     ·split
      ·exact ⟨rfl, rfl, rfl, rfl⟩
      ·split <;> exact ⟨rfl, rfl, rfl, rfl⟩
     ·exact ⟨rfl, rfl, rfl, rfl⟩)
theorem bO (t : TypeId) (v : SV) : aq g (cd P t v) = aq g v ∧ aM (cd P t v) = aM v ∧ (okS S v → okS S (cd P t v)) := by
 cases v with
 | tup xs => exact ⟨rfl, rfl, id⟩
 | v x => cases x with
   | a x => have := Cz (P := P) (g := g) t x; exact ⟨this.1, this.2.2.1, fun _ => trivial⟩
   | _ => exact ⟨rfl, rfl, id⟩
theorem jk (C : Cx g S w0 D A w) {o e : Nat} {t : Ty} {xs : List t.den} {m : Md} {fu : Bool} (h : S.ob o = .row e t xs m fu) : Rds (g o).v xs.length t.sz (g o).cs w := by
 cases m with
 | own => have := C.okL o; simp only [h, an] at this; exact kf this
 | rd => have := C.okR o; simp only [h, ax] at this; exact this _ (List.mem_cons_self ..)
 | lent => have := C.okR o; simp only [h, ax] at this; exact this _ (List.mem_cons_self ..)
theorem rj (C : Cx g S w0 D A w) {b T : Nat} {ls : List At} (h : S.ob b = .box T ls) : w.heap[(g b).b]? = some (.cells (av g ls).toArray T (0, 0)) := by
 have := C.okL b; simp only [h, an] at this; exact this
theorem xj {E : Ent} (h : E.ok w) : Ctx w E.dom nob [E] [] w :=
 ⟨Fr.refl _ _, fun i F hi => by match i with | 0 => simp at hi; subst hi; exact h | i + 1 => simp at hi, by simp,
  fun i F hi b hb => by match i with | 0 => simp at hi; subst hi; exact .inl hb | i + 1 => simp at hi,
  fun i j F G hij hi hj => by match i, j with | 0, 0 => exact absurd rfl hij | 0, j + 1 => simp at hj | i + 1, _ => simp at hi, by simp, by simp⟩
theorem CB {op : BinOp} {k : IntKind} {x y : Int} {q : Qt} {t : TypeId} (h : Jw op k x y = some q) (hp : q.p) (hs : op ≠ .shl ∧ op ≠ .shr) :
 q.news = [] ∧ aM q.v = [] ∧ okS S q.v ∧ kU P op t (.int k x) (.int k y) = some (aq g q.v) := by
 cases op <;> simp only [Jw] at h <;> first
  | (cases h; done)
  | exact absurd rfl hs.1
  | exact absurd rfl hs.2
  | (cases h; exact ⟨rfl, rfl, trivial, by simp only [kU, if_true, vr]; rfl⟩)
  | (cases h; have hp' : y ≠ 0 := hp; exact ⟨rfl, rfl, trivial, by simp only [kU, if_true, vr, if_neg hp']; rfl⟩)
theorem iG {op : BinOp} {t t' : TypeId} {X Y : Operand} {x y v : Value} (hx : ρ X = x) (hy : ρ Y = y) (h : kU P op t x y = some v) (w : World) : cQ P ρ (.binOp op t X Y t') w v w :=
 aE (by simp only [dC, hx, hy, h]) w
def EA (g : Env) (S : St) (q : Qt) : Prop := q.news = [] ∧ okS S q.v ∧ ∀ o ∈ aM q.v, o < S.obs.length
theorem eq {op : BinOp} {b : Bool} {q : Qt} (h : lD op b = some q) : EA g S q ∧ ∃ r, aq g q.v = .bool r ∧ (op = .eql ∧ r = b ∨ op = .neq ∧ r = !b) := by
 cases op <;> simp only [lD] at h <;> first
  | (cases h; done)
  | (cases h; exact ⟨⟨rfl, trivial, fun o h => by cases h⟩, _, rfl, by simp⟩)
theorem te {x : At} {b : Bool} (h : toB x = some b) : aJ g x = .bool b := by
 cases x with
 | fl t x => cases t <;> first | (simp [toB] at h; subst h; rfl) | (simp [toB] at h)
 | lit c => simp [toB] at h; subst h; rfl
 | _ => simp [toB] at h
end
section
variable {P : Program} {g : Env} {γ : Ghost} {S : St} {n : Nat} {a : Act} {w0 w : World} {D A : Nat → Prop} {ρ : Operand → Value}
def Tells (P : Program) (ρ : Operand → Value) (g : Env) (S : St) (op : Op) (q : Qt) : Prop :=
 EA g S q ∧ ∀ w0 D A w, Cx g S w0 D A w → cQ P ρ op w (aq g q.v) w
theorem CD {op : BinOp} {t t' : TypeId} {X Y : Operand} {x y : ByteArray} {q : Qt} (hx : ρ X = .string x) (hy : ρ Y = .string y) (h : Jx op x y = some q) (hp : q.p) : Tells P ρ g S (.binOp op t X Y t') q := by
 cases op <;> simp only [Jx] at h <;> first
  | (cases h; done)
  | (cases h; exact ⟨⟨rfl, trivial, fun o h => by cases h⟩, fun _ _ _ w _ => Ko hx hy hp⟩)
  | (cases h; exact ⟨⟨rfl, trivial, fun o h => by cases h⟩, fun _ _ _ w _ => iG hx hy (by simp only [kU, ByteArray.toList_eq]; rfl) w⟩)
theorem nQ (m : Nat) (u : Ty) (v : Vector u.den m) : (am (.arr m u)).cells v = v.toList.flatMap (am u).cells := by
 simp only [am, FA, tE]
theorem vT {ls : List At} {ft : TypeId} {off : Nat} {v : SV} (h : By P ls ft off = some v) (g : Env) : jZ P ft (av g ls) off = some (aq g v) := by
 unfold By at h
 split at h
 ·rename_i m hm
  obtain ⟨seg, hseg, hof⟩ := Option.bind_eq_some_iff.1 h
  obtain ⟨pre, post, e, s1, s2⟩ := lc hseg
  have hcells := eW g (pre := pre) (seg := seg) (post := post) s1 s2
  rw [← e] at hcells
  rcases gQ hof hm s2 with ⟨hs, a, ha, hc, rfl⟩ | ⟨hs, he⟩
  ·have h1 := mR g hc
   have hm1 : m = 1 := by rw [← s2, ← bt g, ha]; simp [av, h1]
   subst hm1
   unfold jZ
   rw [if_pos hs]
   have : av g seg = [aJ g a] := by rw [ha]; simp [av, h1]
   rw [this] at hcells
   have h2 := congrArg (·[0]?) hcells
   simp only [List.getElem?_take, List.getElem?_drop] at h2
   show (av g ls)[off]? = some (aJ g a)
   simpa using h2
  ·have hk := he g
   unfold wV at hs
   simp only [Bool.and_eq_true, beq_iff_eq] at hs
   unfold jZ
   have hns : jV P ft = false := by
    unfold jV
    have := hs.1
    simp only [Bool.or_eq_true, beq_iff_eq] at this
    rcases this with h | h <;> simp [h]
   rw [if_neg (by rw [hns]; simp), if_pos hs.1]
   obtain ⟨i, hi, his⟩ := Option.map_eq_some_iff.1 hs.2
   simp only [hi, Option.map_some, his, hcells, hk]
 ·cases h
theorem vU {cmp : TypeId → SV → SV → Option Bool} {cv : TypeId → Value → Value → Option Bool} (g : Env) (hc : ∀ t x y r, cmp t x y = some r → cv t (aq g x) (aq g y) = some r) {xs ys : List At} :
 ∀ {fs : List Field} {r : Bool}, GT P cmp xs ys fs = some r → Ae P cv (av g xs) (av g ys) fs = some r
 | [], r, h => h
 | f :: fs, r, h => by
   simp only [GT] at h
   split at h
   ·cases h
   ·rename_i hn
    split at h
    ·rename_i a b ha hb
     split at h
     ·rename_i e q he hq
      cases h
      simp only [Ae, if_neg hn, vT ha g, vT hb g, hc _ _ _ _ he, vU g hc hq]
     ·cases h
    ·cases h
theorem vV (g : Env) : ∀ (d : Nat) (t : TypeId) (x y : SV) (r : Bool), Ed P d t x y = some r → eqV P d t (aq g x) (aq g y) = some r
 | 0, _, _, _, _, h => by simp [Ed] at h
 | d + 1, t, x, y, r, h => by
   simp only [Ed] at h
   split at h
   ·rename_i k a k' b
    split at h
    ·rename_i hc
     obtain ⟨h1, rfl⟩ := hc
     cases h
     simp [eqV, aq, aU, aJ, h1]
    ·cases h
   ·rename_i a b
    split at h
    ·rename_i h1
     cases h
     simp only [eqV, aq, aU, aJ, h1, sEq, if_true, ByteArray.toList_eq]
    ·cases h
   ·rename_i xs ys
    split at h
    ·rename_i fs hu
     split at h
     ·cases h
     ·rename_i hs
      have := vU g (fun t x y r h => vV g d t x y r h) h
      simp only [eqV, aq, aU, hu, if_neg hs, this]
    ·cases h
   ·rename_i n k a n' k' b
    split at h
    ·rename_i m e hu
     split at h
     ·rename_i hnk
      split at h
      ·rename_i hc
       obtain ⟨rfl, rfl⟩ := hnk
       obtain ⟨rfl, hd, hi, hce, hsc, hty⟩ := hc
       cases h
       simp only [eqV, aq, aU, aJ, hu, if_pos hi]
       rw [hce]
       obtain ⟨d, rfl⟩ : ∃ q, d = q + 1 := ⟨d - 1, by omega⟩
       have hget : ∀ (v : Vector Int m) (i : Nat), i < m → jZ P e ((am (.arr m (.int k))).cells v) (i * 1) = some (.int k (v.toList.getD i 0)) := by
        intro v i hi
        unfold jZ
        rw [if_pos hsc, nQ]
        have hlen : v.toList.length = m := by simp
        have : ∀ (l : List Int) (i : Nat), i < l.length → (l.flatMap (am (.int k)).cells)[i]? = some (.int k (l.getD i 0)) := by
         intro l
         induction l with
         | nil => intro i hi; simp at hi
         | cons x l ih =>
           intro i hi
           cases i with
           | zero => rfl
           | succ i =>
             have h0 := ih i (by simpa using hi)
             show ([Value.int k x] ++ l.flatMap (am (.int k)).cells)[i + 1]? = _
             rw [List.getElem?_append_right (by simp)]
             simpa using h0
        rw [Nat.mul_one]
        exact this v.toList i (by rw [hlen]; exact hi)
       have key : ∀ is : List Nat, (∀ i ∈ is, i < m) → Af P (eqV P (d + 1)) e 1 ((am (.arr m (.int k))).cells a) ((am (.arr m (.int k))).cells b) is = some (tI m a b is) := by
        intro is
        induction is with
        | nil => intro _; rfl
        | cons i is ih =>
          intro hm
          have h1 := hm i (List.mem_cons_self ..)
          simp only [Af, hget a i h1, hget b i h1, ih (fun j hj => hm j (List.mem_cons_of_mem _ hj)), tI]
          simp [eqV, hty]
       exact key _ (fun i hi => List.mem_range.1 hi)
      ·cases h
     ·cases h
    ·cases h
   ·rename_i x y _ _ _
    split at h
    ·rename_i a b ha hb
     split at h
     ·rename_i h1
      cases h
      simp only [aq, aU, te ha, te hb]
      simp [eqV, h1]
     ·cases h
    ·cases h
   ·cases h
theorem vW {x : SV} (h : wY x = true) (g : Env) : ∃ cs : List Value, aq g x = .agg cs.toArray := by
 unfold wY at h
 split at h
 ·exact ⟨_, rfl⟩
 ·exact ⟨_, rfl⟩
 ·cases h
theorem yB {op : BinOp} {t t' : TypeId} {X Y : Operand} {x y : SV} {q : Qt} (hx : ρ X = aq g x) (hy : ρ Y = aq g y) (h : eqS P S op t x y = some q) (hp : q.p) : Tells P ρ g S (.binOp op t X Y t') q := by
 unfold eqS at h
 split at h
 ·rename_i hc
  obtain ⟨c1, c2, c3⟩ := hc
  split at h
  ·rename_i r hr
   obtain ⟨cx, ex⟩ := vW c1 g
   obtain ⟨cy, ey⟩ := vW c2 g
   have he := vV g 12 t x y r hr
   rw [ex, ey] at he
   rw [ex] at hx
   rw [ey] at hy
   cases op <;> simp only at h <;> first
    | (cases h; done)
    | (cases h; exact ⟨⟨rfl, trivial, fun o h => by cases h⟩, fun _ _ _ w _ => Kr hx hy c3 he rfl⟩)
  ·cases h
 ·cases h
theorem CE {op : BinOp} {t t' : TypeId} {X Y : Operand} {x y : SV} {q : Qt} (hx : ρ X = aq g x) (hy : ρ Y = aq g y) (h : Jy P S op t x y = some q) (hp : q.p) : Tells P ρ g S (.binOp op t X Y t') q := by
 unfold Jy at h
 split at h
 ·rename_i k x k' y
  have hx : ρ X = .int k x := hx
  have hy : ρ Y = .int k' y := hy
  split at h
  ·cases h
   have hp' : 0 ≤ (y : Int) := hp
   exact ⟨⟨rfl, trivial, fun o h => by cases h⟩, fun _ _ _ w _ => Ks hx hy hp' rfl⟩
  ·cases h
   have hp' : 0 ≤ (y : Int) := hp
   exact ⟨⟨rfl, trivial, fun o h => by cases h⟩, fun _ _ _ w _ => Ks hx hy hp' rfl⟩
  ·rename_i h1 h2
   split at h
   ·rename_i hk
    subst hk
    obtain ⟨q1, q2, q3, q4⟩ := CB (g := g) (S := S) (P := P) (t := t) h hp ⟨fun e => h1 e, fun e => h2 e⟩
    exact ⟨⟨q1, q3, by rw [q2]; intro o h; cases h⟩, fun _ _ _ w _ => iG hx hy q4 w⟩
   ·cases h
 ·exact CD hx hy h hp
 ·split at h
  ·rename_i ht
   obtain ⟨s, r, hr, ho⟩ := eq (g := g) (S := S) h
   refine ⟨s, fun _ _ _ w _ => iG hx hy ?_ w⟩
   rw [hr]
   rcases ho with ⟨rfl, rfl⟩ | ⟨rfl, rfl⟩ <;> simp [aq, aU, aJ, kU, ht, mH]
  ·cases h
 ·split at h
  ·rename_i ht
   obtain ⟨s, r, hr, ho⟩ := eq (g := g) (S := S) h
   refine ⟨s, fun _ _ _ w _ => iG hx hy ?_ w⟩
   rw [hr]
   rcases ho with ⟨rfl, rfl⟩ | ⟨rfl, rfl⟩ <;> simp [aq, aU, aJ, kU, ht, mH]
  ·cases h
 ·split at h
  ·rename_i ht
   obtain ⟨s, r, hr, ho⟩ := eq (g := g) (S := S) h
   refine ⟨s, fun _ _ _ w _ => iG hx hy ?_ w⟩
   rw [hr]
   rcases ho with ⟨rfl, rfl⟩ | ⟨rfl, rfl⟩ <;> simp [aq, aU, aJ, kU, ht, mH]
  ·cases h
 ·split at h
  ·rename_i ht
   obtain ⟨s, r, hr, ho⟩ := eq (g := g) (S := S) h
   refine ⟨s, fun _ _ _ w _ => iG hx hy ?_ w⟩
   rw [hr]
   rcases ho with ⟨rfl, rfl⟩ | ⟨rfl, rfl⟩ <;> simp [aq, aU, aJ, kU, ht, mH]
  ·cases h
 ·split at h
  ·rename_i ht
   obtain ⟨s, r, hr, ho⟩ := eq (g := g) (S := S) h
   refine ⟨s, fun _ _ _ w _ => iG hx hy ?_ w⟩
   rw [hr]
   rcases ho with ⟨rfl, rfl⟩ | ⟨rfl, rfl⟩ <;> simp [aq, aU, aJ, kU, ht, mH]
  ·cases h
 ·split at h
  ·rename_i ht
   obtain ⟨s, r, hr, ho⟩ := eq (g := g) (S := S) h
   refine ⟨s, fun _ _ _ w _ => iG hx hy ?_ w⟩
   rw [hr]
   rcases ho with ⟨rfl, rfl⟩ | ⟨rfl, rfl⟩ <;> simp [aq, aU, aJ, kU, ht, mH]
  ·cases h
 ·split at h
  ·rename_i ht
   obtain ⟨s, r, hr, ho⟩ := eq (g := g) (S := S) h
   refine ⟨s, fun _ _ _ w _ => iG hx hy ?_ w⟩
   rw [hr]
   rcases ho with ⟨rfl, rfl⟩ | ⟨rfl, rfl⟩ <;> simp [aq, aU, aJ, kU, ht, mH]
  ·cases h
 ·split at h
  ·rename_i a b ha hb
   have hx : ρ X = .bool a := hx.trans (te ha)
   have hy : ρ Y = .bool b := hy.trans (te hb)
   split at h
   ·rename_i ht
    split at h <;> first
     | (cases h; done)
     | (cases h; exact ⟨⟨rfl, trivial, fun o h => by cases h⟩, fun _ _ _ w _ => iG hx hy (by simp [kU, ht]; rfl) w⟩)
   ·cases h
  ·exact yB hx hy h hp
 ·exact yB hx hy h hp
theorem EB {op : UnOp} {t : TypeId} {X : Operand} {x : SV} {q : Qt} (hx : ρ X = aq g x) (h : unS op x = some q) : Tells P ρ g S (.unOp op t X) q := by
 have key : ∀ v, dC P ρ (.unOp op t X) = some v → ∀ w, cQ P ρ (.unOp op t X) w v w := fun v hv w => aE hv w
 unfold unS at h
 split at h
 ·rename_i b
  have hx : ρ X = .bool b := hx
  cases op <;> simp only at h <;> first
   | (cases h; done)
   | (cases h; exact ⟨⟨rfl, trivial, fun o h => by cases h⟩, fun _ _ _ w _ => key _ (by simp [dC, hx]; rfl) w⟩)
 ·rename_i b
  have hx : ρ X = .bool b := hx
  cases op <;> simp only at h <;> first
   | (cases h; done)
   | (cases h; exact ⟨⟨rfl, trivial, fun o h => by cases h⟩, fun _ _ _ w _ => key _ (by simp [dC, hx]; rfl) w⟩)
 ·rename_i k x
  have hx : ρ X = .int k x := hx
  cases op <;> simp only at h <;> first
   | (cases h; done)
   | (cases h; exact ⟨⟨rfl, trivial, fun o h => by cases h⟩, fun _ _ _ w _ => key _ (by simp [dC, hx, vr]; rfl) w⟩)
 ·cases h
theorem ju {g : Env} {S : St} {w0 w : World} {D A : Nat → Prop} {o e : Nat} {d : Kd} {xs : List (bl d).den} {hl : Option Nat} (C : Cx g S w0 D A w) (ho : S.ob o = .fleet e d xs hl) : Rds (g o).v xs.length 1 (g o).cs w := by
 have := C.okL o
 simp only [ho] at this
 exact kf (e := e) (this none)
theorem CF {t : TypeId} {X : Operand} {x : SV} {q : Qt} (hx : ρ X = aq g x) (h : Jz P S t x = some q) : Tells P ρ g S (.call { callee := .builtin .len, args := #[X], argTypes := #[t] }) q := by
 unfold Jz at h
 split at h
 ·rename_i s
  have hx : ρ X = .string s := hx
  split at h
  ·rename_i ht
   cases h
   exact ⟨⟨rfl, trivial, fun o h => by cases h⟩, fun _ _ _ w _ => aE (by simp [dC, tr, ht, hx]; rfl) w⟩
  ·cases h
 ·rename_i o
  split at h
  ·rename_i ht
   split at h
   ·rename_i e u xs m fu ho
    cases h
    exact ⟨⟨rfl, trivial, fun o h => by cases h⟩, fun _ _ _ w C => si (dS (jk C ho)) hx (by simp [ht])⟩
   ·rename_i e d xs hl ho
    cases h
    exact ⟨⟨rfl, trivial, fun o h => by cases h⟩, fun _ _ _ w C => si (dS (ju C ho)) hx (by simp [ht])⟩
   ·cases h
  ·cases h
 ·split at h
  ·rename_i ht
   cases h
   exact ⟨⟨rfl, trivial, fun o h => by cases h⟩, fun _ _ _ w C => si (n := 0) (dS (lB 1 w)) hx (by simp [ht])⟩
  ·cases h
 ·split at h
  ·rename_i ht
   cases h
   exact ⟨⟨rfl, trivial, fun o h => by cases h⟩, fun _ _ _ w C => si (n := 0) (dS (lB 1 w)) hx (by simp [ht])⟩
  ·cases h
 ·split at h
  ·rename_i ht
   cases h
   exact ⟨⟨rfl, trivial, fun o h => by cases h⟩, fun _ _ _ w C => si (n := 0) (dS (lB 1 w)) hx (by simp [ht])⟩
  ·cases h
 ·cases h
theorem vX {big : Bool} {Xs : Array Operand} {ts : Array TypeId} {xs : List SV} {q : Qt} (hx : Xs.toList.map ρ = xs.map (aq g)) (h : GU big xs = some q) :
 Tells P ρ g S (.call { callee := .builtin (if big then .max else .min), args := Xs, argTypes := ts }) q := by
 unfold GU at h
 split at h
 ·rename_i k x k' y
  cases h
  match hl : Xs.toList, hx with
  | [X, Y], hx =>
    simp only [List.map_cons, List.map_nil, List.cons.injEq, and_true] at hx
    have h1 : ρ X = .int k x := hx.1
    have h2 : ρ Y = .int k' y := hx.2
    refine ⟨⟨rfl, trivial, fun o h => by cases h⟩, fun _ _ _ w _ => aE ?_ w⟩
    cases big <;> simp [dC, tr, hl, h1, h2] <;> rfl
  | [], hx => simp at hx
  | [_], hx => simp at hx
  | _ :: _ :: _ :: _, hx => simp at hx
 ·rename_i k x k' y k'' z
  cases h
  match hl : Xs.toList, hx with
  | [X, Y, Z], hx =>
    simp only [List.map_cons, List.map_nil, List.cons.injEq, and_true] at hx
    have h1 : ρ X = .int k x := hx.1
    have h2 : ρ Y = .int k' y := hx.2.1
    have h3 : ρ Z = .int k'' z := hx.2.2
    refine ⟨⟨rfl, trivial, fun o h => by cases h⟩, fun _ _ _ w _ => aE ?_ w⟩
    cases big <;> simp [dC, tr, hl, h1, h2, h3] <;> rfl
  | [], hx => simp at hx
  | [_], hx => simp at hx
  | [_, _], hx => simp at hx
  | _ :: _ :: _ :: _ :: _, hx => simp at hx
 ·cases h
theorem CG (hb : ∀ i, obP g i (S.ob i)) {t : TypeId} {X Y : Operand} {x y : SV} {q : Qt} (hx : ρ X = aq g x) (hy : ρ Y = aq g y) (hr : ∀ o ∈ aM x, o < S.obs.length) (h : JA P S t x y = some q) (hp : q.p) : Tells P ρ g S (.indexAddr t X Y) q := by
 unfold JA at h
 split at h
 ·rename_i o k i
  split at h
  ·rename_i e u xs m fu ho
   split at h
   ·rename_i ht
    cases h
    have hp' : 0 ≤ (i : Int) ∧ (i : Int) < xs.length := hp
    refine ⟨⟨rfl, ?_, hr⟩, fun _ _ _ w C => ?_⟩
    ·intro e' t' xs' m' fu' he
     rw [ho] at he
     cases he
     exact ⟨hp'.1, hp'.2, rfl⟩
    ·have := DP (P := P) (ρ := ρ) (w := w) (t := t) (x := X) (y := Y) (i := i) (k := k) (sz := u.sz) (dS (jk C ho)) hx hy hp'.1 hp'.2 ht
     have e : aq g (.v (.elp o u.sz i 0)) = .pointer (some (ib (g o).v (i.toNat * u.sz))) := by simp [aq, aU, Addr.add]
     show cQ P ρ _ w (aq g (.v (.elp o u.sz i 0))) w
     rw [e]
     exact this
   ·cases h
  ·rename_i e d xs hl ho
   split at h
   ·rename_i ht
    cases h
    have hp' : 0 ≤ (i : Int) ∧ (i : Int) < xs.length := hp
    refine ⟨⟨rfl, ?_, hr⟩, fun _ _ _ w C => ?_⟩
    ·intro e' t' xs' m' fu' he
     rw [ho] at he
     cases he
    ·have := DP (P := P) (ρ := ρ) (w := w) (t := t) (x := X) (y := Y) (i := i) (k := k) (sz := 1) (dS (ju C ho)) hx hy hp'.1 hp'.2 ht
     have e : aq g (.v (.elp o 1 i 0)) = .pointer (some (ib (g o).v (i.toNat * 1))) := by simp [aq, aU, Addr.add]
     show cQ P ρ _ w (aq g (.v (.elp o 1 i 0))) w
     rw [e]
     exact this
   ·cases h
  ·cases h
 ·rename_i b off k i
  split at h
  ·rename_i T ls hob
   split at h
   ·rename_i m u vec rest hs
    split at h
    ·rename_i ht
     cases h
     have hp' : 0 ≤ (i : Int) ∧ (i : Int) < m := hp
     refine ⟨⟨rfl, hp', hr⟩, fun _ _ _ w C => ?_⟩
     exact Ju (P := P) (ρ := ρ) (n := m) hx hy hp'.1 hp'.2 ht
    ·cases h
   ·cases h
  ·cases h
 ·cases h
theorem BG {u : Ty} (h : u.sc1 = true) (x : u.den) : (am u).cells x = [aq g (.v (.a (.fl u x)))] := by
 cases u <;> first | rfl | (simp [Ty.sc1] at h)
theorem EC {t : TypeId} {X Y : Operand} {x y : SV} {q : Qt} (hx : ρ X = aq g x) (hy : ρ Y = aq g y) (h : idx P t x y = some q) (hp : q.p) : Tells P ρ g S (.index t X Y) q := by
 unfold idx at h
 split at h
 ·rename_i s k i
  split at h
  ·rename_i ht
   cases h
   have hp' : 0 ≤ (i : Int) ∧ (i : Int) < (s.size : Int) := hp
   exact ⟨⟨rfl, trivial, fun o h => by cases h⟩, fun _ _ _ w _ => Js hx hy hp'.1 hp'.2 (by simp [ht])⟩
  ·cases h
 ·rename_i m u vec k i
  split at h
  ·rename_i ht
   cases h
   have hp' : 0 ≤ (i : Int) ∧ (i : Int) < m := hp
   obtain ⟨h1, h2, h4⟩ := ht
   refine ⟨⟨rfl, trivial, fun o h => by cases h⟩, fun _ _ _ w _ => ?_⟩
   exact Jv (F := am u) (n := m) (vec := vec) hx hy hp'.1 hp'.2 (by rw [aK]; exact h1) h4 (by rw [cR]; exact BG h2 _)
  ·cases h
 ·cases h
theorem yC {t : TypeId} {f : Nat} {X : Operand} {x : SV} {q : Qt} (hx : ρ X = aq g x) (hok : okS S x) (hr : ∀ o ∈ aM x, o < S.obs.length) (h : Aj P t f x = some q) : Tells P ρ g S (.fieldAddr t X f) q := by
 unfold Aj at h
 split at h
 ·rename_i b off
  obtain ⟨fo, hfo, rfl⟩ := Option.map_eq_some_iff.1 h
  have hx : ρ X = .pointer (some ⟨(g b).b, off, none⟩) := hx
  exact ⟨⟨rfl, trivial, hr⟩, fun _ _ _ w _ => aE (by simp only [dC, hx, hfo, bG]; rfl) w⟩
 ·rename_i o k off
  obtain ⟨fo, hfo, rfl⟩ := Option.map_eq_some_iff.1 h
  have hx : ρ X = .pointer (some ⟨gi (g o) k.toNat, off, none⟩) := hx
  exact ⟨⟨rfl, trivial, hr⟩, fun _ _ _ w _ => aE (by simp only [dC, hx, hfo, bG]; rfl) w⟩
 ·rename_i o sz i off
  obtain ⟨fo, hfo, rfl⟩ := Option.map_eq_some_iff.1 h
  have hx : ρ X = .pointer (some ((ib (g o).v (i.toNat * sz)).add off)) := hx
  exact ⟨⟨rfl, hok, hr⟩, fun _ _ _ w _ => aE (by simp only [dC, hx, hfo, add_add]; rfl) w⟩
 ·cases h
theorem Hf {t ft : TypeId} {f off sz : Nat} {X : Operand} {cs : List Value} {v : Value} (hx : ρ X = .agg cs.toArray) (hf : mJ P t f = some (ft, off)) (hv : jZ P ft cs off = some v) (w : World) : cQ P ρ (.field t X f) w v w := by
 intro o ho
 unfold mJ at hf
 split at hf
 ·rename_i fs hu
  obtain ⟨fd, hfd, he⟩ := Option.map_eq_some_iff.1 hf
  cases he
  have := kX (w := w) (cs := cs.toArray) (by simpa using hv)
  simp [execOp, ho, Instr.field, run_underlying hu, hfd, hx, asAgg, this]
 ·cases hf
theorem yD {t : TypeId} {f : Nat} {X : Operand} {x : SV} {q : Qt} (hx : ρ X = aq g x) (hr : ∀ o ∈ aM x, o < S.obs.length) (h : Ai P t f x = some q) : Tells P ρ g S (.field t X f) q := by
 unfold Ai at h
 split at h
 ·rename_i ls
  split at h
  ·rename_i ft off hf
   split at h
   ·rename_i m hm
    obtain ⟨v, hv, rfl⟩ := Option.map_eq_some_iff.1 h
    obtain ⟨seg, hseg, hof⟩ := Option.bind_eq_some_iff.1 hv
    obtain ⟨pre, post, e, s1, s2⟩ := lc hseg
    have hrf := kg hof
    have hcells := eW g (pre := pre) (seg := seg) (post := post) s1 s2
    rw [← e] at hcells
    refine ⟨⟨rfl, hrf.2 S, fun o ho => hr o ?_⟩, fun _ _ _ w _ => ?_⟩
    ·change o ∈ aM v at ho
     rw [hrf.1] at ho
     simp only [aM, bg, e, List.flatMap_append, List.mem_append]
     exact .inr (.inl ho)
    ·refine Hf (cs := av g ls) (off := off) (sz := m) hx hf ?_ w
     rcases gQ hof hm s2 with ⟨hs, a, ha, hc, rfl⟩ | ⟨hs, he⟩
     ·have h1 := mR g hc
      have hm1 : m = 1 := by rw [← s2, ← bt g, ha]; simp [av, h1]
      subst hm1
      unfold jZ
      rw [if_pos hs]
      have : av g seg = [aJ g a] := by rw [ha]; simp [av, h1]
      rw [this] at hcells
      have h2 := congrArg (·[0]?) hcells
      simp only [List.getElem?_take, List.getElem?_drop] at h2
      show (av g ls)[off]? = some (aJ g a)
      simpa using h2
     ·have hk := he g
      unfold wV at hs
      simp only [Bool.and_eq_true, beq_iff_eq] at hs
      unfold jZ
      have hns : jV P ft = false := by
       unfold jV
       have := hs.1
       simp only [Bool.or_eq_true, beq_iff_eq] at this
       rcases this with h | h <;> simp [h]
      rw [if_neg (by rw [hns]; simp), if_pos hs.1]
      obtain ⟨i, hi, his⟩ := Option.map_eq_some_iff.1 hs.2
      simp only [q0, hi, Option.map_some, his, hcells, hk]
   ·cases h
  ·cases h
 ·cases h
end
end Go.Proofs.YtlepjakmadlkjaaGreatDoor
