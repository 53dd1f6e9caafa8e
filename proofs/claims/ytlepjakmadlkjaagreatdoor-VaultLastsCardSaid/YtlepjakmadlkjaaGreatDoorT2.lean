/- Texts of the proof, put together: part 2. No condition. -/
import Derived.Test.YtlepjakmadlkjaaGreatDoorT1
import Derived.RangeFuncFrom
set_option linter.unusedVariables false
set_option linter.unusedSimpArgs false
namespace Go.Proofs.YtlepjakmadlkjaaGreatDoor
open Go
inductive Ty where
 | int (k : IntKind)
 | bool
 | str
 | unit
 | arr (n : Nat) (t : Ty)
 | pair (a b : Ty)
 | sl (e : Nat) (t : Ty)
 deriving DecidableEq, Inhabited
@[reducible] def Ty.den : Ty → Type
 | .int _ => Int
 | .bool => Bool
 | .str => ByteArray
 | .unit => Unit
 | .arr n t => Vector t.den n
 | .pair a b => a.den × b.den
 | .sl _ t => List t.den
def FU : Flat Unit := ⟨0, fun _ => [], (), fun _ => rfl, fun _ _ h => by simp at h⟩
def FP {α β : Type} (F : Flat α) (G : Flat β) : Flat (α × β) :=
 ⟨F.sz + G.sz, fun x => F.cells x.1 ++ G.cells x.2, (F.dflt, G.dflt), fun x => by simp [F.len, G.len], fun x v h => by
  rcases List.mem_append.1 h with h | h
  ·exact F.one _ v h
  ·exact G.one _ v h⟩
def FL (α : Type) : Flat (List α) := ⟨1, fun _ => [.nilFunc], [], fun _ => rfl, fun _ v h => by simp at h; subst h; rfl⟩
def am : (t : Ty) → Flat t.den
 | .int k => FK k
 | .bool => FB
 | .str => FS
 | .unit => FU
 | .arr n t => FA (am t) n
 | .pair a b => FP (am a) (am b)
 | .sl _ t => FL t.den
def Ty.sz : Ty → Nat
 | .int _ | .bool | .str | .sl _ _ => 1
 | .unit => 0
 | .arr n t => n * t.sz
 | .pair a b => a.sz + b.sz
def Ty.flat : Ty → Bool
 | .arr _ t => t.flat
 | .pair a b => a.flat && b.flat
 | .sl _ _ => false
 | _ => true
def Ty.dflt : (t : Ty) → t.den
 | .int _ => (0 : Int)
 | .bool => false
 | .str => (⟨#[]⟩ : ByteArray)
 | .unit => ()
 | .arr n t => Vector.replicate n t.dflt
 | .pair a b => (a.dflt, b.dflt)
 | .sl _ _ => []
theorem aK : ∀ t : Ty, (am t).sz = t.sz
 | .int _ | .bool | .str | .unit | .sl _ _ => rfl
 | .arr n t => by simp only [am, FA, Ty.sz, aK t]
 | .pair a b => by simp only [am, FP, Ty.sz, aK a, aK b]
theorem cX : ∀ t : Ty, (am t).dflt = t.dflt
 | .int _ | .bool | .str | .unit | .sl _ _ => rfl
 | .arr n t => by simp only [am, FA, Ty.dflt, cX t]
 | .pair a b => by simp only [am, FP, Ty.dflt, cX a, cX b]
def at_ (t : Ty) (l : List t.den) (i : Int) : t.den := l.getD i.toNat t.dflt
def Dyn : Type := (t : Ty) × t.den
def ct {a b : Ty} (x : a.den) : Option b.den := if h : a = b then some (h ▸ x) else none
theorem dt {a b : Ty} {x : a.den} {y : b.den} (h : ct x = some y) : ∃ e : a = b, e ▸ x = y := by
 unfold ct at h
 split at h
 ·rename_i e; exact ⟨e, Option.some.inj h⟩
 ·cases h
@[reducible] def HL : List Ty → Type
 | [] => Unit
 | [t] => t.den
 | t :: u :: ts => t.den × HL (u :: ts)
def toD : (ts : List Ty) → HL ts → List Dyn
 | [], _ => []
 | [t], x => [⟨t, x⟩]
 | t :: u :: ts, x => ⟨t, x.1⟩ :: toD (u :: ts) x.2
def mR : (ts : List Ty) → List Dyn → Option (HL ts)
 | [], [] => some ()
 | [t], [d] => ct d.2
 | t :: u :: ts, d :: ds => (ct d.2 : Option t.den).bind fun x => (mR (u :: ts) ds).bind fun y => some (x, y)
 | _, _ => none
theorem wj {d : Dyn} {t : Ty} {x : t.den} (h : ct d.2 = some x) : d = ⟨t, x⟩ := by
 obtain ⟨s, y⟩ := d
 obtain ⟨rfl, rfl⟩ := dt h
 rfl
theorem jK : ∀ (ts : List Ty) (ds : List Dyn) (x : HL ts), mR ts ds = some x → toD ts x = ds
 | [], [], _, _ => rfl
 | [], _ :: _, _, h => by simp [mR] at h
 | [t], [], _, h => by simp [mR] at h
 | [t], [d], x, h => by simp only [mR] at h; simp only [toD, wj h]
 | [t], _ :: _ :: _, _, h => by simp [mR] at h
 | t :: u :: ts, [], _, h => by simp [mR] at h
 | t :: u :: ts, d :: ds, x, h => by
   simp only [mR, Option.bind_eq_some_iff] at h
   obtain ⟨y, hy, z, hz, he⟩ := h
   cases he
   simp only [toD, wj hy, jK (u :: ts) ds z hz]
structure Fact where
 v : Value
 n : Nat
 sz : Nat
 cs : List Value
def gn {α : Type} (R : α → List Value → List Fact → Prop) : List α → List Value → List Fact → Prop
 | [], cs, F => cs = [] ∧ F = []
 | x :: xs, cs, F => ∃ c1 c2 F1 F2, cs = c1 ++ c2 ∧ F = F1 ++ F2 ∧ R x c1 F1 ∧ gn R xs c2 F2
def SlV (v : Value) (n : Nat) : Prop := ∃ ao c, v = .slice ao n c ∧ (ao = none → n = 0)
theorem SlV.one {v : Value} {n : Nat} (h : SlV v n) : v.oneCell' = true := by obtain ⟨_, _, rfl, _⟩ := h; rfl
def gL : (t : Ty) → t.den → List Value → List Fact → Prop
 | .sl _ t, xs, cs, F => ∃ v css F', cs = [v] ∧ SlV v xs.length ∧ F = ⟨v, xs.length, t.sz, css⟩ :: F' ∧ gn (gL t) xs css F'
 | .pair a b, x, cs, F => ∃ c1 c2 F1 F2, cs = c1 ++ c2 ∧ F = F1 ++ F2 ∧ gL a x.1 c1 F1 ∧ gL b x.2 c2 F2
 | .int k, x, cs, F => cs = (am (.int k)).cells x ∧ F = []
 | .bool, x, cs, F => cs = (am .bool).cells x ∧ F = []
 | .str, x, cs, F => cs = (am .str).cells x ∧ F = []
 | .unit, x, cs, F => cs = (am .unit).cells x ∧ F = []
 | .arr n t, x, cs, F => cs = (am (.arr n t)).cells x ∧ F = []
theorem yx {α : Type} {R : α → List Value → List Fact → Prop} {s : Nat} (h : ∀ x c F, R x c F → c.length = s) : ∀ (xs : List α) (cs : List Value) (F : List Fact), gn R xs cs F → cs.length = xs.length * s
 | [], cs, F, ⟨h1, _⟩ => by simp [h1]
 | x :: xs, cs, F, ⟨c1, c2, F1, F2, h1, _, h3, h4⟩ => by
   rw [h1, List.length_append, h x c1 F1 h3, yx h xs c2 F2 h4, List.length_cons, Nat.add_mul, Nat.one_mul, Nat.add_comm]
theorem gS : ∀ (t : Ty) (x : t.den) (cs : List Value) (F : List Fact), gL t x cs F → cs.length = t.sz
 | .sl _ t, xs, cs, F, ⟨v, css, F', h, _⟩ => by simp [h, Ty.sz]
 | .pair a b, x, cs, F, ⟨c1, c2, F1, F2, h1, _, h3, h4⟩ => by rw [h1, List.length_append, gS a _ _ _ h3, gS b _ _ _ h4]; rfl
 | .int k, x, cs, F, ⟨h, _⟩ => by rw [h, (am _).len, aK]
 | .bool, x, cs, F, ⟨h, _⟩ => by rw [h, (am _).len, aK]
 | .str, x, cs, F, ⟨h, _⟩ => by rw [h, (am _).len, aK]
 | .unit, x, cs, F, ⟨h, _⟩ => by rw [h, (am _).len, aK]
 | .arr n t, x, cs, F, ⟨h, _⟩ => by rw [h, (am _).len, aK]
theorem yy {α : Type} {R : α → List Value → List Fact → Prop} (h : ∀ x c F, R x c F → ∀ v ∈ c, v.oneCell' = true) : ∀ (xs : List α) (cs : List Value) (F : List Fact), gn R xs cs F → ∀ v ∈ cs, v.oneCell' = true
 | [], cs, F, ⟨h1, _⟩ => by simp [h1]
 | x :: xs, cs, F, ⟨c1, c2, F1, F2, h1, _, h3, h4⟩ => by
   intro v hv
   rw [h1] at hv
   rcases List.mem_append.1 hv with hv | hv
   ·exact h x c1 F1 h3 v hv
   ·exact yy h xs c2 F2 h4 v hv
theorem uc : ∀ (t : Ty) (x : t.den) (cs : List Value) (F : List Fact), gL t x cs F → ∀ v ∈ cs, v.oneCell' = true
 | .sl _ t, xs, cs, F, ⟨v, css, F', h, h1, _⟩ => by simp [h, h1.one]
 | .pair a b, x, cs, F, ⟨c1, c2, F1, F2, h1, _, h3, h4⟩ => by
   intro v hv
   rw [h1] at hv
   rcases List.mem_append.1 hv with hv | hv
   ·exact uc a _ _ _ h3 v hv
   ·exact uc b _ _ _ h4 v hv
 | .int k, x, cs, F, ⟨h, _⟩ => by rw [h]; exact (am _).one x
 | .bool, x, cs, F, ⟨h, _⟩ => by rw [h]; exact (am _).one x
 | .str, x, cs, F, ⟨h, _⟩ => by rw [h]; exact (am _).one x
 | .unit, x, cs, F, ⟨h, _⟩ => by rw [h]; exact (am _).one x
 | .arr n t, x, cs, F, ⟨h, _⟩ => by rw [h]; exact (am _).one x
theorem dH : ∀ (t : Ty), t.flat = true → ∀ (x : t.den) (cs : List Value) (F : List Fact), gL t x cs F ↔ cs = (am t).cells x ∧ F = []
 | .sl _ t, h, _, _, _ => by simp [Ty.flat] at h
 | .pair a b, h, x, cs, F => by
   simp only [Ty.flat, Bool.and_eq_true] at h
   constructor
   ·rintro ⟨c1, c2, F1, F2, rfl, rfl, h3, h4⟩
    obtain ⟨rfl, rfl⟩ := (dH a h.1 _ _ _).1 h3
    obtain ⟨rfl, rfl⟩ := (dH b h.2 _ _ _).1 h4
    exact ⟨rfl, rfl⟩
   ·rintro ⟨rfl, rfl⟩
    exact ⟨_, _, [], [], rfl, rfl, (dH a h.1 _ _ _).2 ⟨rfl, rfl⟩, (dH b h.2 _ _ _).2 ⟨rfl, rfl⟩⟩
 | .int k, _, x, cs, F => Iff.rfl
 | .bool, _, x, cs, F => Iff.rfl
 | .str, _, x, cs, F => Iff.rfl
 | .unit, _, x, cs, F => Iff.rfl
 | .arr n t, _, x, cs, F => Iff.rfl
theorem bN (t : Ty) (h : t.flat = true) : ∀ (xs : List t.den) (cs : List Value) (F : List Fact), gn (gL t) xs cs F ↔ cs = xs.flatMap (am t).cells ∧ F = []
 | [], cs, F => Iff.rfl
 | x :: xs, cs, F => by
   simp only [gn]
   constructor
   ·rintro ⟨c1, c2, F1, F2, rfl, rfl, h3, h4⟩
    obtain ⟨rfl, rfl⟩ := (dH t h _ _ _).1 h3
    obtain ⟨rfl, rfl⟩ := (bN t h _ _ _).1 h4
    simp
   ·rintro ⟨rfl, rfl⟩
    exact ⟨_, _, [], [], by simp, rfl, (dH t h _ _ _).2 ⟨rfl, rfl⟩, (bN t h xs _ _).2 ⟨rfl, rfl⟩⟩
theorem ud {α : Type} {R : α → List Value → List Fact → Prop} : ∀ (xs ys : List α) (cs ds : List Value) (F G : List Fact), gn R xs cs F → gn R ys ds G → gn R (xs ++ ys) (cs ++ ds) (F ++ G)
 | [], ys, cs, ds, F, G, ⟨h1, h2⟩, k => by subst h1 h2; exact k
 | x :: xs, ys, cs, ds, F, G, ⟨c1, c2, F1, F2, h1, h2, h3, h4⟩, k => by
   subst h1 h2
   exact ⟨c1, c2 ++ ds, F1, F2 ++ G, by simp, by simp, h3, ud xs ys c2 ds F2 G h4 k⟩
theorem jL {α : Type} {R : α → List Value → List Fact → Prop} {s : Nat} (hl : ∀ x c F, R x c F → c.length = s) : ∀ (n : Nat) (xs : List α) (cs : List Value) (F : List Fact), gn R xs cs F →
 ∃ F1 F2, F = F1 ++ F2 ∧ gn R (xs.take n) (cs.take (n * s)) F1 ∧ gn R (xs.drop n) (cs.drop (n * s)) F2
 | 0, xs, cs, F, h => ⟨[], F, rfl, by simp [gn], by simpa using h⟩
 | n + 1, [], cs, F, ⟨h1, h2⟩ => ⟨[], [], h2, by simp [h1, gn], by simp [h1, gn]⟩
 | n + 1, x :: xs, cs, F, ⟨c1, c2, F1, F2, h1, h2, h3, h4⟩ => by
   obtain ⟨G1, G2, e, k1, k2⟩ := jL hl n xs c2 F2 h4
   have hc := hl x c1 F1 h3
   refine ⟨F1 ++ G1, G2, by rw [h2, e, List.append_assoc], ?_, ?_⟩
   ·refine ⟨c1, c2.take (n * s), F1, G1, ?_, rfl, h3, k1⟩
    rw [h1, List.take_append, hc, Nat.add_mul, Nat.one_mul, Nat.add_sub_cancel, List.take_of_length_le (by omega)]
   ·have hz : c1.drop (n * s + s) = [] := List.drop_eq_nil_of_le (by omega)
    rw [h1, List.drop_append, hc, Nat.add_mul, Nat.one_mul, Nat.add_sub_cancel, hz, List.nil_append]
    exact k2
theorem Ex {α : Type} {R : α → List Value → List Fact → Prop} {s : Nat} (hl : ∀ x c F, R x c F → c.length = s) (xs : List α) (cs : List Value) (F : List Fact) (h : gn R xs cs F) (i : Nat) (hi : i < xs.length) :
 ∃ F1, R (xs[i]) ((cs.drop (i * s)).take s) F1 ∧ ∀ f ∈ F1, f ∈ F := by
 obtain ⟨F1, F2, e, _, k2⟩ := jL hl i xs cs F h
 rw [List.drop_eq_getElem_cons hi] at k2
 obtain ⟨c1, c2, G1, G2, e1, e2, k3, _⟩ := k2
 refine ⟨G1, ?_, fun f hf => by rw [e, e2]; simp [hf]⟩
 rw [e1, List.take_append_of_le_length (by rw [hl _ _ _ k3]; exact Nat.le_refl _), List.take_of_length_le (by rw [hl _ _ _ k3]; exact Nat.le_refl _)]
 exact k3
def dK (l : Bool) (F : List Fact) : Ent :=
 ⟨fun x => ∃ f ∈ F, f.cs ≠ [] ∧ aT f.v = some x, fun w => ∀ f ∈ F, Rds f.v f.n f.sz f.cs w,
  fun w h x ⟨f, hf, hx⟩ => (rdE l f.v f.n f.sz f.cs).lt w (h f hf) x hx,
  fun w w' h k f hf => (rdE l f.v f.n f.sz f.cs).loc w w' (h f hf) (fun b hb => k b ⟨f, hf, hb⟩), l⟩
structure CtxF (w0 : World) (D A : Nat → Prop) (L R : Nat → Ent) (w : World) : Prop where
 fr : Fr D w0 w
 okL : ∀ i, (L i).ok w
 okR : ∀ i, (R i).ok w
 mine : ∀ i b, (L i).dom b → D b ∨ w0.heap.size ≤ b
 sepL : ∀ i j, i ≠ j → ∀ b, (L i).dom b → ¬ (L j).dom b
 sepR : ∀ i j b, (L i).dom b → ¬ (R j).dom b
 src : ∀ i, (R i).lent = false → ∀ b, (R i).dom b → A b ∨ D b ∨ w0.heap.size ≤ b
section
variable {w0 w w' : World} {D A : Nat → Prop} {L R L' R' : Nat → Ent}
theorem jM (C : CtxF w0 D A L R w) (h : Fr nob w w') : CtxF w0 D A L R w' :=
 ⟨C.fr.then h, fun i => (L i).keep (C.okL i) h (fun _ _ => id), fun i => (R i).keep (C.okR i) h (fun _ _ => id), C.mine, C.sepL, C.sepR, C.src⟩
theorem rM (i : Nat) {E' : Ent} (C : CtxF w0 D A L R w) (h : Fr (L i).dom w w') (ok' : E'.ok w') (hd : ∀ b, E'.dom b → (L i).dom b ∨ w.heap.size ≤ b)
 (hL : ∀ j, j ≠ i → L' j = L j) (hi : L' i = E') : CtxF w0 D A L' R w' := by
 have get : ∀ j, (j = i ∧ L' j = E') ∨ (j ≠ i ∧ L' j = L j) := fun j => by
  by_cases e : j = i
  ·subst e; exact .inl ⟨rfl, hi⟩
  ·exact .inr ⟨e, hL j e⟩
 refine ⟨C.fr.trans h (fun x hx => C.mine i x hx), ?_, ?_, ?_, ?_, ?_, C.src⟩
 ·intro j
  rcases get j with ⟨_, e⟩ | ⟨hne, e⟩ <;> rw [e]
  ·exact ok'
  ·exact (L j).keep (C.okL j) h (C.sepL j i hne)
 ·intro j
  exact (R j).keep (C.okR j) h (fun b hF hE => C.sepR i j b hE hF)
 ·intro j b hb
  rcases get j with ⟨_, e⟩ | ⟨hne, e⟩ <;> rw [e] at hb
  ·rcases hd b hb with h1 | h1
   ·exact C.mine i b h1
   ·exact .inr (Nat.le_trans C.fr.size h1)
  ·exact C.mine j b hb
 ·intro j k hjk b hb hb'
  rcases get j with ⟨rfl, e⟩ | ⟨hne, e⟩ <;> rw [e] at hb <;> rcases get k with ⟨rfl, e'⟩ | ⟨hne', e'⟩ <;> rw [e'] at hb'
  ·exact hjk rfl
  ·rcases hd b hb with h1 | h1
   ·exact C.sepL _ _ hjk b h1 hb'
   ·have := (L k).lt w (C.okL k) b hb'; omega
  ·rcases hd b hb' with h1 | h1
   ·exact C.sepL _ _ hjk b hb h1
   ·have := (L j).lt w (C.okL j) b hb; omega
  ·exact C.sepL j k hjk b hb hb'
 ·intro j k b hb hb'
  rcases get j with ⟨_, e⟩ | ⟨hne, e⟩ <;> rw [e] at hb
  ·rcases hd b hb with h1 | h1
   ·exact C.sepR i k b h1 hb'
   ·have := (R k).lt w (C.okR k) b hb'; omega
  ·exact C.sepR j k b hb hb'
structure Sub1 (E F : Ent) (w : World) : Prop where
 ok : F.ok w → E.ok w
 dom : ∀ b, E.dom b → F.dom b
theorem Sub1.refl (E : Ent) (w : World) : Sub1 E E w := ⟨id, fun _ => id⟩
theorem Sub1.nil (F : Ent) (w : World) : Sub1 Ent.nil F w := ⟨fun _ => trivial, fun _ h => h.elim⟩
theorem qA (C : CtxF w0 D A L R w) (σ : Nat → Nat)
 (hL : ∀ i, (∀ b, ¬ (L' i).dom b) ∧ (L' i).ok w ∨ Sub1 (L' i) (L (σ i)) w)
 (hinj : ∀ i j, i ≠ j → (∃ b, (L' i).dom b) → (∃ b, (L' j).dom b) → σ i ≠ σ j)
 (hR : ∀ i, (∀ b, ¬ (R' i).dom b) ∧ (R' i).ok w ∨ (∃ j, Sub1 (R' i) (R j) w ∧ ((R' i).lent = false → (R j).lent = false)) ∨ (∃ j, Sub1 (R' i) (L j) w ∧ ∀ k, (∃ b, (L' k).dom b) → σ k ≠ j)) :
 CtxF w0 D A L' R' w := by
 have own : ∀ i b, (L' i).dom b → (L (σ i)).dom b := fun i b hb => by
  rcases hL i with ⟨h, _⟩ | h
  ·exact (h b hb).elim
  ·exact h.dom b hb
 refine ⟨C.fr, ?_, ?_, fun i b hb => C.mine _ b (own i b hb), fun i j hij b hb hb' => C.sepL _ _ (hinj i j hij ⟨b, hb⟩ ⟨b, hb'⟩) b (own i b hb) (own j b hb'), ?_, ?_⟩
 ·intro i
  rcases hL i with ⟨_, h⟩ | h
  ·exact h
  ·exact h.ok (C.okL _)
 ·intro i
  rcases hR i with ⟨_, h⟩ | ⟨j, h, _⟩ | ⟨j, h, _⟩
  ·exact h
  ·exact h.ok (C.okR _)
  ·exact h.ok (C.okL _)
 ·intro i j b hb hb'
  rcases hR j with ⟨h, _⟩ | ⟨k, h, _⟩ | ⟨k, h, hk⟩
  ·exact h b hb'
  ·exact C.sepR _ k b (own i b hb) (h.dom b hb')
  ·exact C.sepL _ k (hk i ⟨b, hb⟩) b (own i b hb) (h.dom b hb')
 ·intro i hl b hb
  rcases hR i with ⟨h, _⟩ | ⟨k, h, hf⟩ | ⟨k, h, hk⟩
  ·exact (h b hb).elim
  ·exact C.src k (hf hl) b (h.dom b hb)
  ·exact .inr (C.mine k b (h.dom b hb))
def pI (L : Nat → Ent) : Nat → Prop := fun b => ∃ i, (L i).dom b
def qB (R : Nat → Ent) : Nat → Prop := fun b => ∃ i, (R i).lent = false ∧ (R i).dom b
structure Part (E F Q : Ent) : Prop where
 ok : ∀ w, F.ok w ↔ E.ok w ∧ Q.ok w
 dom : ∀ b, F.dom b ↔ E.dom b ∨ Q.dom b
 sep : ∀ b, E.dom b → ¬ Q.dom b
theorem Part.refl (E : Ent) : Part E E Ent.nil := ⟨fun _ => ⟨fun h => ⟨h, trivial⟩, fun h => h.1⟩, fun _ => ⟨.inl, fun h => h.elim id (fun h => h.elim)⟩, fun _ _ h => h⟩
structure Lend (w : World) (L R Lp Rp : Nat → Ent) (σ : Nat → Nat) : Prop where
 own : ∀ i, (∀ b, ¬ (Lp i).dom b) ∧ (Lp i).ok w ∨ ∃ Q, Part (Lp i) (L (σ i)) Q
 inj : ∀ i j, i ≠ j → (∃ b, (Lp i).dom b) → (∃ b, (Lp j).dom b) → σ i ≠ σ j
 rd : ∀ i, (Rp i).ok w ∧ ∀ b, (Rp i).dom b → (∃ j, (R j).dom b ∧ ((Rp i).lent = false → (R j).lent = false)) ∨
  ((Rp i).lent = true ∧ (∃ j, (L j).dom b) ∧ ∀ k, ¬ (Lp k).dom b)
theorem HB {Lp Rp : Nat → Ent} {σ : Nat → Nat} (C : CtxF w0 D A L R w) (h : Lend w L R Lp Rp σ) : CtxF w (pI Lp) (qB Rp) Lp Rp w := by
 have own : ∀ i b, (Lp i).dom b → (L (σ i)).dom b := fun i b hb => by
  rcases h.own i with ⟨h, _⟩ | ⟨Q, h⟩
  ·exact (h b hb).elim
  ·exact (h.dom b).2 (.inl hb)
 refine ⟨Fr.refl _ _, ?_, ?_, fun i b hb => .inl ⟨i, hb⟩, fun i j hij b hb hb' => C.sepL _ _ (h.inj i j hij ⟨b, hb⟩ ⟨b, hb'⟩) b (own i b hb) (own j b hb'), ?_, fun i hl b hb => .inl ⟨i, hl, hb⟩⟩
 ·intro i
  rcases h.own i with ⟨_, h⟩ | ⟨Q, h⟩
  ·exact h
  ·exact ((h.ok w).1 (C.okL _)).1
 ·intro i
  exact (h.rd i).1
 ·intro i j b hb hb'
  rcases (h.rd j).2 b hb' with ⟨k, h, _⟩ | ⟨_, _, hk⟩
  ·exact C.sepR _ k b (own i b hb) h
  ·exact hk i hb
theorem HC {Lp Rp Lo Ro : Nat → Ent} {σ : Nat → Nat} (fc : Nat → Nat → Prop) (C : CtxF w0 D A L R w) (h : Lend w L R Lp Rp σ) (CC : CtxF w (pI Lp) (qB Rp) Lo Ro w')
 (hL : ∀ i, (∀ b, ¬ (L' i).dom b) ∧ (L' i).ok w' ∨ (∃ j, fc i j ∧ L' i = Lo j) ∨ (L' i = L i ∧ ∀ k, (∃ b, (Lp k).dom b) → σ k ≠ i) ∨ (L' i = L i ∧ ∃ j Q, fc i j ∧ σ j = i ∧ (∃ b, (Lp j).dom b) ∧ Lo j = Lp j ∧ Part (Lp j) (L i) Q))
 (hinj : ∀ i i' j, fc i j → fc i' j → i = i')
 (hR : ∀ i, (∀ b, ¬ (R' i).dom b) ∧ (R' i).ok w' ∨ R' i = R i ∨ ∃ j, R' i = Ro j ∧ (R' i).lent = false) : CtxF w0 D A L' R' w' := by
 have own : ∀ b, pI Lp b → ∃ i, (Lp i).dom b ∧ (L (σ i)).dom b := by
  rintro b ⟨i, hb⟩
  rcases h.own i with ⟨h, _⟩ | ⟨Q, h⟩
  ·exact (h b hb).elim
  ·exact ⟨i, hb, (h.dom b).2 (.inl hb)⟩
 have away : ∀ i, (∀ k, (∃ b, (Lp k).dom b) → σ k ≠ i) → ∀ b, (L i).dom b → ¬ pI Lp b := by
  intro i hi b hb ha
  obtain ⟨k, hk, hkb⟩ := own b ha
  exact C.sepL i (σ k) (hi k ⟨b, hk⟩).symm b hb hkb
 have awayQ : ∀ i j Q, σ j = i → (∃ b, (Lp j).dom b) → Part (Lp j) (L i) Q → ∀ b, Q.dom b → ¬ pI Lp b := by
  intro i j Q hs hd hp b hb ha
  obtain ⟨k, hk, hkb⟩ := own b ha
  by_cases hkj : k = j
  ·subst hkj; exact hp.sep b hk hb
  ·exact C.sepL (σ k) (σ j) (h.inj k j hkj ⟨b, hk⟩ hd) b hkb (by rw [hs]; exact (hp.dom b).2 (.inr hb))
 have awayR : ∀ i b, (R i).dom b → ¬ pI Lp b := by
  intro i b hb ha
  obtain ⟨k, _, hkb⟩ := own b ha
  exact C.sepR (σ k) i b hkb hb
 have where_ : ∀ i b, (L' i).dom b → (∃ j, fc i j ∧ (Lo j).dom b) ∨ ((L i).dom b ∧ ¬ pI Lp b) := by
  intro i b hb
  rcases hL i with ⟨h, _⟩ | ⟨j, hf, e⟩ | ⟨e, hk⟩ | ⟨e, j, Q, hf, hs, hd, ho, hp⟩
  ·exact (h b hb).elim
  ·exact .inl ⟨j, hf, e ▸ hb⟩
  ·rw [e] at hb; exact .inr ⟨hb, away i hk b hb⟩
  ·rw [e] at hb
   rcases (hp.dom b).1 hb with h1 | h1
   ·exact .inl ⟨j, hf, by rw [ho]; exact h1⟩
   ·exact .inr ⟨hb, awayQ i j Q hs hd hp b h1⟩
 have cross : ∀ i j b, (L i).dom b → ¬ pI Lp b → ¬ (Lo j).dom b := by
  intro i j b hb hk hb'
  rcases CC.mine j b hb' with h1 | h1
  ·exact hk h1
  ·have := (L i).lt w (C.okL i) b hb; omega
 refine ⟨C.fr.trans CC.fr (fun x hx => ?_), ?_, ?_, ?_, ?_, ?_, ?_⟩
 ·obtain ⟨i, _, hb⟩ := own x hx
  exact C.mine _ x hb
 ·intro i
  rcases hL i with ⟨_, h⟩ | ⟨j, _, e⟩ | ⟨e, hk⟩ | ⟨e, j, Q, hf, hs, hd, ho, hp⟩
  ·exact h
  ·rw [e]; exact CC.okL j
  ·rw [e]; exact (L i).keep (C.okL i) CC.fr (fun b hb => away i hk b hb)
  ·rw [e]
   have h1 := CC.okL j
   rw [ho] at h1
   exact (hp.ok w').2 ⟨h1, Q.keep ((hp.ok w).1 (C.okL i)).2 CC.fr (fun b hb => awayQ i j Q hs hd hp b hb)⟩
 ·intro i
  rcases hR i with ⟨_, h⟩ | e | ⟨j, e, _⟩
  ·exact h
  ·rw [e]; exact (R i).keep (C.okR i) CC.fr (fun b hb => awayR i b hb)
  ·rw [e]; exact CC.okR j
 ·intro i b hb
  rcases where_ i b hb with ⟨j, _, hb⟩ | ⟨hb, _⟩
  ·rcases CC.mine j b hb with h1 | h1
   ·obtain ⟨k, _, hkb⟩ := own b h1; exact C.mine _ b hkb
   ·exact .inr (Nat.le_trans C.fr.size h1)
  ·exact C.mine i b hb
 ·intro i i' hij b hb hb'
  rcases where_ i b hb with ⟨j, e, hb1⟩ | ⟨hb1, hk⟩
  ·rcases where_ i' b hb' with ⟨j', e', hb2⟩ | ⟨hb2, hk'⟩
   ·by_cases hjj : j = j'
    ·subst hjj; exact hij (hinj i i' j e e')
    ·exact CC.sepL j j' hjj b hb1 hb2
   ·exact cross i' j b hb2 hk' hb1
  ·rcases where_ i' b hb' with ⟨j', e', hb2⟩ | ⟨hb2, hk'⟩
   ·exact cross i j' b hb1 hk hb2
   ·exact C.sepL i i' hij b hb1 hb2
 ·intro i i' b hb hb'
  rcases hR i' with ⟨h0, _⟩ | e | ⟨q, e, hl⟩
  ·exact h0 b hb'
  ·rw [e] at hb'
   rcases where_ i b hb with ⟨j, _, hb1⟩ | ⟨hb1, _⟩
   ·rcases CC.mine j b hb1 with h3 | h3
    ·exact awayR i' b hb' h3
    ·have := (R i').lt w (C.okR i') b hb'; omega
   ·exact C.sepR i i' b hb1 hb'
  ·rw [e] at hb' hl
   rcases where_ i b hb with ⟨j, _, hb1⟩ | ⟨hb1, hk⟩
   ·exact CC.sepR j q b hb1 hb'
   ·rcases CC.src q hl b hb' with ⟨p, hpl, hpb⟩ | h3 | h3
    ·rcases (h.rd p).2 b hpb with ⟨k, h1, _⟩ | ⟨h1, _⟩
     ·exact C.sepR i k b hb1 h1
     ·rw [hpl] at h1; cases h1
    ·exact hk h3
    ·have := (L i).lt w (C.okL i) b hb1; omega
 ·intro i hl b hb
  rcases hR i with ⟨h0, _⟩ | e | ⟨q, e, hl'⟩
  ·exact (h0 b hb).elim
  ·rw [e] at hb hl; exact C.src i hl b hb
  ·rw [e] at hb hl
   rcases CC.src q hl b hb with ⟨p, hpl, hpb⟩ | h3 | h3
   ·rcases (h.rd p).2 b hpb with ⟨k, h1, hf⟩ | ⟨h1, _⟩
    ·exact C.src k (hf hpl) b h1
    ·rw [hpl] at h1; cases h1
   ·obtain ⟨k, _, hkb⟩ := own b h3; exact .inr (C.mine _ b hkb)
   ·exact .inr (.inr (Nat.le_trans C.fr.size h3))
end
end Go.Proofs.YtlepjakmadlkjaaGreatDoor
namespace Go.Proofs.YtlepjakmadlkjaaGreatDoor
open Go
inductive Md where
 | own
 | rd
 | lent
 deriving DecidableEq
inductive ASh where
 | fl (t : Ty)
 | sl (o : Nat)
 | ptr (b off : Nat)
 | pel (o off : Nat)
 | asl (b off n : Nat)
 | nil0
 | nilp
 | nilf
 | nili
 | un
 deriving DecidableEq
inductive VSh where
 | a (x : ASh)
 | fn (f : Nat) (fs cs : List ASh)
 | st (ls : List ASh)
 deriving DecidableEq
inductive SSh where
 | v (x : VSh)
 | tup (xs : List VSh)
 deriving DecidableEq
structure Kd where
 n : Nat
 l : Bool
 deriving DecidableEq
inductive OSh where
 | box (T : Nat) (ls : List ASh)
 | row (e : Nat) (t : Ty) (m : Md)
 | fleet (e : Nat) (d : Kd)
 | gone
 deriving DecidableEq
def regs0 : List (Nat × List OSh) := [(61, [.box 113 [.fl (.int .i64), .fl (.int .i64), .sl 1, .sl 2, .ptr 3 0, .fl (.int .i64), .fl (.int .i64), .fl (.arr 32 (.int .u8)), .fl (.int .i64), .fl (.arr 32 (.int .u8))], .row 38 (.arr 32 (.int .u8)) .rd, .row 36 (.pair (.int .i64) (.pair (.int .i64) (.pair (.int .i64) .str))) .rd, .box 169 [.fl (.int .i64), .sl 4], .row 38 (.arr 32 (.int .u8)) .rd]), (125, [.box 175 [.fl (.int .i64), .fl (.int .i64), .fl (.int .i64), .sl 1, .fl (.int .i64), .fl (.int .i64), .fl (.arr 32 (.int .u8)), .fl (.int .i64), .fl (.arr 32 (.int .u8))], .row 36 (.pair (.int .i64) (.pair (.int .i64) (.pair (.int .i64) .str))) .own])]
def cdA : ASh → List Ty
 | .fl t => [t]
 | .pel _ _ => [.int .i64]
 | _ => []
def cdL (ls : List ASh) : List Ty := ls.flatMap cdA
def yz : List Ty → Ty
 | [] => .unit
 | [t] => t
 | t :: ts => .pair t (yz ts)
def cdP : OSh → List Ty
 | .box _ ls => cdL ls
 | .row e t _ => [.sl e t]
 | _ => []
structure Reg where
 pt : Nat
 ps : List OSh
def CP (d : Kd) : List OSh := ((regs0.map fun p => Reg.mk p.1 p.2).getD d.n ⟨0, []⟩).ps
def Ey (d : Kd) : List Ty := (CP d).flatMap cdP
def bm (d : Kd) : Ty := yz (Ey d)
def Kd.lent (d : Kd) : Kd := ⟨d.n, true⟩
inductive At where
 | fl (t : Ty) (x : t.den)
 | lit (b : Bool)
 | sl (o : Nat)
 | nils (e : Nat) (t : Ty)
 | nil0
 | nilr (e : Nat) (d : Kd)
 | ptr (b off : Nat)
 | pel (o : Nat) (k : Int) (off : Nat)
 | asl (b off n : Nat)
 | nilp
 | nilf
 | nili
 | un
inductive V1 where
 | a (x : At)
 | elp (o sz : Nat) (i : Int) (off : Nat)
 | arp (b off : Nat) (t : Ty) (n : Nat) (i : Int)
 | fn (f : Nat) (fs cs : List At)
 | st (ls : List At)
 | cutf (o : Nat)
inductive SV where
 | v (x : V1)
 | tup (xs : List V1)
inductive Ob where
 | box (T : Nat) (ls : List At)
 | row (e : Nat) (t : Ty) (xs : List t.den) (m : Md) (full : Bool)
 | fleet (e : Nat) (d : Kd) (xs : List (bm d).den) (hole : Option Nat)
 | gone
def mB : Nat := 1000000
structure NSh where
 slots : List (Nat × SSh)
 boxes : List (Nat × OSh)
 news : List OSh
 deriving DecidableEq
inductive Ek where
 | normal
 | exit (i : Nat)
 | ret
 deriving DecidableEq
structure Cls where
 cls : List (Ek × NSh)
 M : List Nat
 sy : List Nat
 deriving DecidableEq
inductive Plan where
 | nil
 | b (ps : List Plan)
 | n (p : Plan)
 | j (c : Cls) (p : Plan) (ps : List Plan)
 | l (hd oc : Cls) (hs os : List Plan)
 | r (hd oc : Cls) (hs ns os : List Plan)
 | d (st : List Nat) (ex : List (Nat × List Nat)) (tab : List (Nat × Nat)) (p : Plan)
 | t (p : Plan)
def Plan.kid : Plan → Nat → Plan
 | .b ps, i => ps.getD i .nil
 | _, _ => .nil
structure GV0 where
 v : Value
 one : v.oneCell' = true
 b : Nat
 cs : List Value
 fs : List Fact
structure GV where
 v : Value
 one : v.oneCell' = true
 bb : Nat × (Nat → Nat)
 cs : List Value
 fs : List Fact
 ks : List (Nat → GV0)
@[reducible] def GV.b (G : GV) : Nat := G.bb.1
abbrev Env := Nat → GV
def gv0 : GV0 := ⟨.nilFunc, rfl, 0, [], []⟩
def GV0.up (G : GV0) : GV := ⟨G.v, G.one, (G.b, fun _ => 0), G.cs, G.fs, []⟩
def dL (G : GV) (k : Nat) : Env := fun j => ((G.ks.getD k (fun _ => gv0)) j).up
def gq (G : GV) (k : Nat) : Nat := G.bb.2 k
def nt (G : GV) (k : Int) (off : Nat) : Option Addr := some ⟨gq G k.toNat, off, none⟩
def gP : At → Bool
 | .un => false
 | _ => true
def ba (g : Env) : At → List Value
 | .fl t x => (am t).cells x
 | .lit b => [.bool b]
 | .sl o => [(g o).v]
 | .nils _ _ => [.slice none 0 0]
 | .nil0 => [.slice none 0 0]
 | .nilr _ _ => [.slice none 0 0]
 | .ptr b off => [.pointer (some ⟨(g b).b, off, none⟩)]
 | .pel o k off => [.pointer (nt (g o) k off)]
 | .asl b off n => [.slice (some ⟨(g b).b, off, none⟩) n n]
 | .nilp => [.pointer none]
 | .nilf => [.nilFunc]
 | .nili => [.nilIface]
 | .un => [undef]
def aw (g : Env) (ls : List At) : List Value := ls.flatMap (ba g)
def aJ (g : Env) : At → Value
 | .fl (.int k) x => .int k x
 | .fl .bool x => .bool x
 | .fl .str x => .string x
 | .fl (.sl _ _) _ => .nilFunc
 | .fl .unit x => .agg ((am .unit).cells x).toArray
 | .fl (.arr n t) x => .agg ((am (.arr n t)).cells x).toArray
 | .fl (.pair a b) x => .agg ((am (.pair a b)).cells x).toArray
 | .lit b => .bool b
 | .sl o => (g o).v
 | .nils _ _ => .slice none 0 0
 | .nil0 => .slice none 0 0
 | .nilr _ _ => .slice none 0 0
 | .ptr b off => .pointer (some ⟨(g b).b, off, none⟩)
 | .pel o k off => .pointer (nt (g o) k off)
 | .asl b off n => .slice (some ⟨(g b).b, off, none⟩) n n
 | .nilp => .pointer none
 | .nilf => .nilFunc
 | .nili => .nilIface
 | .un => undef
def kz : Value → Value
 | .slice ao n _ => .slice ao n n
 | v => v
def aU (g : Env) : V1 → Value
 | .a x => aJ g x
 | .elp o sz i off => .pointer (some ((il (g o).v (i.toNat * sz)).add off))
 | .arp b off t n i => .pointer (some ⟨(g b).b, off + i.toNat * t.sz, none⟩)
 | .fn f fs cs => .func (.func f) (fs.map (aJ g)).toArray (cs.map (aJ g)).toArray
 | .st ls => .agg (aw g ls).toArray
 | .cutf o => kz (g o).v
def aq (g : Env) : SV → Value
 | .v x => aU g x
 | .tup xs => .tuple (xs.map (aU g)).toArray
structure St where
 slots : List (Nat × SV)
 obs : List Ob
 mods : List Nat
 pl : Plan
def At.sz : At → Nat
 | .fl t _ => t.sz
 | _ => 1
def St.ob (S : St) (i : Nat) : Ob := S.obs.getD i .gone
def aA : List (Nat × SV) → Nat → Option SV
 | [], _ => none
 | (i, v) :: m, t => if i == t then some v else aA m t
def CQ : List (Nat × SV) → Nat → List (Nat × SV)
 | [], _ => []
 | (i, v) :: m, t => if i == t then CQ m t else (i, v) :: CQ m t
def HD (m : List (Nat × SV)) : Option Nat → SV → List (Nat × SV)
 | none, _ => m
 | some d, v => (d, v) :: CQ m d
def St.kid (S : St) (i : Nat) : St := { S with pl := S.pl.kid i }
def St.to (S : St) (p : Plan) : St := { S with pl := p }
def St.put (S : St) (d : Option Nat) (v : SV) : St := { S with slots := HD S.slots d v }
def St.add (S : St) (news : List Ob) : St := { S with obs := S.obs ++ news }
def St.setOb (S : St) (i : Nat) (o : Ob) : St := { S with obs := S.obs.set i o, mods := i :: S.mods }
def SV.int (k : IntKind) (x : Int) : SV := .v (.a (.fl (.int k) x))
def SV.bool (b : Bool) : SV := .v (.a (.fl .bool b))
def SV.lit (b : Bool) : SV := .v (.a (.lit b))
def SV.str (s : ByteArray) : SV := .v (.a (.fl .str s))
def yA (P : Program) : Nat → TypeId → Option Ty
 | 0, _ => none
 | d + 1, t => match P.underlying t with
   | some .bool => some .bool
   | some (.int k) => some (.int k)
   | some .string => some .str
   | some (.array n e) => (yA P d e).bind fun u => if u.flat then some (.arr n u) else none
   | some (.slice e) => (yA P d e).map (.sl e)
   | some (.struct fs) => ((fs.toList.map (·.type)).mapM (yA P d)).map yz
   | _ => none
def depth : Nat := 8
def Ez (e : Nat) : List (Nat × List OSh) → Nat → Option Nat
 | [], _ => none
 | p :: r, d => if p.1 = e then some d else Ez e r (d + 1)
def EA (e : Nat) : Option Kd := (Ez e regs0 0).map fun d => ⟨d, false⟩
def EB (P : Program) (t : TypeId) : At :=
 match P.underlying t with
 | some (.slice e) => match yA P depth e with
   | some u => .nils e u
   | none => match EA e with
     | some d => .nilr e d
     | none => .nil0
 | _ => .nil0
def wk (P : Program) (t : TypeId) : At → At
 | .nil0 => EB P t
 | a => a
def ci (P : Program) (t : TypeId) : SV → SV
 | .v (.a x) => .v (.a (wk P t x))
 | v => v
def aN : At → List Nat
 | .sl o => [o]
 | .ptr b _ => [b]
 | .pel o _ _ => [o]
 | .asl b _ _ => [b]
 | _ => []
def Iy (P : Program) : Nat → TypeId → Option (List At)
 | 0, _ => none
 | d + 1, t => match P.underlying t with
   | some .bool => some [.lit false]
   | some (.int k) => some [.fl (.int k) (0 : Int)]
   | some .string => some [.fl .str (⟨#[]⟩ : ByteArray)]
   | some (.pointer _) => some [.nilp]
   | some (.slice _) => some [EB P t]
   | some (.func _ _ _) => some [.nilf]
   | some (.interface _) => some [.nili]
   | some (.array n e) => (yA P d t).map fun u => [.fl u u.dflt]
   | some (.struct fs) => ((fs.toList.map (·.type)).mapM (Iy P d)).map List.flatten
   | _ => none
def cellsOf (P : Program) (t : TypeId) : Option Nat := (P.info? t).map (·.size)
def EC : Value → Value → Bool
 | .int k a, .int l b => decide (k = l ∧ a = b)
 | .bool a, .bool b => decide (a = b)
 | .string a, .string b => decide (a.data.toList = b.data.toList)
 | .pointer none, .pointer none => true
 | .slice none 0 0, .slice none 0 0 => true
 | .nilFunc, .nilFunc => true
 | .nilIface, .nilIface => true
 | _, _ => false
def pJ : List Value → List Value → Bool
 | [], [] => true
 | a :: as, b :: bs => EC a b && pJ as bs
 | _, _ => false
def vL : Env := fun _ => ⟨.nilFunc, rfl, (0, fun _ => 0), [], [], []⟩
def yB (P : Program) (t : TypeId) : Option (List At) :=
 match Iy P depth t, sN P t with
 | some ls, some cs => if pJ cs (aw vL ls) && ls.all gP && (ls.flatMap aN).isEmpty then some ls else none
 | _, _ => none
def yC (P : Program) (t : TypeId) (u : Ty) : Bool :=
 match sN P t with
 | some cs => pJ cs ((am u).cells u.dflt)
 | none => false
def cst : Value → Option At
 | .int k n => some (.fl (.int k) n)
 | .bool b => some (.lit b)
 | .string s => some (.fl .str s)
 | .slice none 0 0 => some .nil0
 | .pointer none => some .nilp
 | .nilFunc => some .nilf
 | .nilIface => some .nili
 | _ => none
def shift : Nat := 5000
def rG : Nat := 1000 * shift
def yD (l : List (Nat × SV)) (b : Nat) : Option SV :=
 match l.find? fun p => decide (rG ≤ p.1) && decide (p.1 % shift = b) with
 | some p => match aA l p.1 with
   | some (.v (.a (.ptr o 0))) => some (.v (.a (.ptr o 0)))
   | _ => none
 | none => none
def opA (S : St) : Operand → Option SV
 | .tmp t => if t < shift then aA S.slots t else none
 | .const v => (cst v).map fun a => .v (.a a)
 | .func f => some (.v (.fn f [] []))
 | .global b => yD S.slots b
def Mg : SV → Option Value
 | .v (.a (.fl (.int k) x)) => some (.int k x)
 | .v (.a (.fl .bool b)) => some (.bool b)
 | .v (.a (.lit b)) => some (.bool b)
 | .v (.a (.fl .str s)) => some (.string s)
 | .v (.a .nilp) => some (.pointer none)
 | .v (.a .nilf) => some .nilFunc
 | _ => none
def nu : List At → Nat → Option (List At)
 | _, 0 => some []
 | [], _ => none
 | a :: ls, n + 1 => if a.sz ≤ n + 1 then (nu ls (n + 1 - a.sz)).map (a :: ·) else none
def gC : List At → Nat → Option (List At)
 | ls, 0 => some ls
 | [], _ => none
 | a :: ls, n + 1 => if a.sz ≤ n + 1 then gC ls (n + 1 - a.sz) else none
def Ay (ls : List At) (off n : Nat) : Option (List At) := (gC ls off).bind fun r => nu r n
def bU (ls : List At) : Nat := (ls.map At.sz).sum
def Az (ls : List At) (off : Nat) (us : List At) : Option (List At) :=
 (nu ls off).bind fun pre => (gC ls off).bind fun r => (nu r (bU us)).bind fun _ => (gC r (bU us)).map fun post => pre ++ us ++ post
def sQ : SV → Option (List At)
 | .v (.a x) => if gP x then some [x] else none
 | .v (.st ls) => if ls.all gP then some ls else none
 | _ => none
def ED : At → Bool
 | .fl (.int _) _ | .fl .bool _ | .fl .str _ => true
 | .fl _ _ | .un => false
 | _ => true
def iM (P : Program) (t : TypeId) (ls : List At) : Option SV :=
 match bM P t with
 | 5 => some (.v (.st ls))
 | 6 => match ls with
   | [.fl (.arr n u) x] => some (.v (.a (.fl (.arr n u) x)))
   | _ => none
 | 0 => none
 | _ => match ls with
   | [a] => if ED a then some (.v (.a a)) else none
   | _ => none
def bi : V1 → List Nat
 | .a x => aN x
 | .elp o _ _ _ => [o]
 | .arp b _ _ _ _ => [b]
 | .fn _ fs cs => fs.flatMap aN ++ cs.flatMap aN
 | .st ls => ls.flatMap aN
 | .cutf o => [o]
def aL : SV → List Nat
 | .v x => bi x
 | .tup xs => xs.flatMap bi
def bn (m : Md) : (t : Ty) → t.den → Nat → List At × List Ob
 | .pair a b, x, n => let (l1, o1) := bn m a x.1 n; let (l2, o2) := bn m b x.2 (n + o1.length); (l1 ++ l2, o1 ++ o2)
 | .sl e t, xs, n => ([.sl n], [.row e t xs m false])
 | .unit, _, _ => ([], [])
 | .int k, x, _ => ([.fl (.int k) x], [])
 | .bool, x, _ => ([.fl .bool x], [])
 | .str, x, _ => ([.fl .str x], [])
 | .arr n t, x, _ => ([.fl (.arr n t) x], [])
def EE (S : St) (e : Nat) (t : Ty) : At → Option (List t.den)
 | .sl o => match S.ob o with
   | .row e' u xs .rd _ => if e' = e then ct (a := .sl 0 u) (b := .sl 0 t) xs else none
   | _ => none
 | .nils _ _ => some []
 | _ => none
def Iz : At → Option Bool
 | .lit b => some b
 | .fl u x => ct (a := u) (b := .bool) x
 | _ => none
def wo (t : Ty) : At → Option t.den
 | .fl u x => ct (a := u) (b := t) x
 | _ => none
def mW (S : St) : (t : Ty) → List At → Option (t.den × List At)
 | .pair a b, ls => (mW S a ls).bind fun (x, r) => (mW S b r).map fun (y, r') => ((x, y), r')
 | .unit, ls => some ((), ls)
 | .sl _ _, [] => none
 | .sl e t, a :: r => (EE S e t a).map (·, r)
 | .bool, [] => none
 | .bool, a :: r => (Iz a).map (·, r)
 | .int _, [] => none
 | .int k, a :: r => (wo (.int k) a).map (·, r)
 | .str, [] => none
 | .str, a :: r => (wo .str a).map (·, r)
 | .arr _ _, [] => none
 | .arr n t, a :: r => (wo (.arr n t) a).map (·, r)
structure Qt where
 p : Prop
 dp : Decidable p
 news : List Ob
 v : SV
def q0 (v : SV) : Qt := ⟨True, inferInstance, [], v⟩
def qp (p : Prop) [d : Decidable p] (v : SV) : Qt := ⟨p, d, [], v⟩
def nv (P : Program) (t : TypeId) (f : Nat) : Option (TypeId × Nat) :=
 match P.underlying t with
 | some (.struct fs) => (fs[f]?).map fun fd => (fd.type, fd.offset)
 | _ => none
def sEq (a b : ByteArray) : Bool := a.data.toList == b.data.toList
def BR (a b : ByteArray) : Bool := Op.bytesLess a.data.toList b.data.toList
def J2 (op : BinOp) (k : IntKind) (a b : Int) : Option Qt :=
 match op with
 | .add => some (q0 (.int k (WK k (a + b))))
 | .sub => some (q0 (.int k (WK k (a - b))))
 | .mul => some (q0 (.int k (WK k (a * b))))
 | .quo => some (qp (b ≠ 0) (.int k (WK k (a.tdiv b))))
 | .rem => some (qp (b ≠ 0) (.int k (a.tmod b)))
 | .and => some (q0 (.int k (bh k a b)))
 | .or => some (q0 (.int k (orK k a b)))
 | .xor => some (q0 (.int k (cM k a b)))
 | .andNot => some (q0 (.int k (k.wrap (BitVec.ofInt k.bits a &&& ~~~(BitVec.ofInt k.bits b)).toNat)))
 | .eql => some (q0 (.bool (a == b)))
 | .neq => some (q0 (.bool (a != b)))
 | .lss => some (q0 (.bool (decide (a < b))))
 | .leq => some (q0 (.bool (decide (a ≤ b))))
 | .gtr => some (q0 (.bool (decide (a > b))))
 | .geq => some (q0 (.bool (decide (a ≥ b))))
 | _ => none
def J3 (op : BinOp) (a b : ByteArray) : Option Qt :=
 match op with
 | .add => some (qp (a.size + b.size ≤ 9223372036854775807) (.str (a ++ b)))
 | .eql => some (q0 (.bool (sEq a b)))
 | .neq => some (q0 (.bool (!(sEq a b))))
 | .lss => some (q0 (.bool (BR a b)))
 | .leq => some (q0 (.bool (BR a b || sEq a b)))
 | .gtr => some (q0 (.bool (!(BR a b || sEq a b))))
 | .geq => some (q0 (.bool (!(BR a b))))
 | _ => none
def toB : At → Option Bool
 | .fl .bool b => some b
 | .lit b => some b
 | _ => none
def me (op : BinOp) (same : Bool) : Option Qt :=
 match op with
 | .eql => some (q0 (.lit same))
 | .neq => some (q0 (.lit (!same)))
 | _ => none
def BS (P : Program) (ls : List At) (ft : TypeId) (off : Nat) : Option SV :=
 match cellsOf P ft with
 | some n => (Ay ls off n).bind (iM P ft)
 | none => none
def HE (P : Program) (cmp : TypeId → SV → SV → Option Bool) (xs ys : List At) : List Field → Option Bool
 | [] => some true
 | f :: fs => if f.name == "_" then none else match BS P xs f.type f.offset, BS P ys f.type f.offset with
   | some a, some b => match cmp f.type a b, HE P cmp xs ys fs with
     | some e, some r => some (e && r)
     | _, _ => none
   | _, _ => none
def jp (n : Nat) (x y : Vector Int n) : List Nat → Bool
 | [] => true
 | i :: is => (x.toList.getD i 0 == y.toList.getD i 0) && jp n x y is
def EF (P : Program) : Nat → TypeId → SV → SV → Option Bool
 | 0, _, _, _ => none
 | d + 1, t, x, y => match x, y with
   | .v (.a (.fl (.int k) a)), .v (.a (.fl (.int k') b)) => if bM P t = 2 ∧ k = k' then some ((a : Int) == b) else none
   | .v (.a (.fl .str a)), .v (.a (.fl .str b)) => if bM P t = 3 then some (sEq a b) else none
   | .v (.st xs), .v (.st ys) => match P.underlying t with
     | some (.struct fs) => if P.stoodInHeld t then none else HE P (EF P d) xs ys fs.toList
     | _ => none
   | .v (.a (.fl (.arr n (.int k)) a)), .v (.a (.fl (.arr n' (.int k')) b)) => match P.underlying t with
     | some (.array m e) => if h : n = n' ∧ k = k' then if m = n ∧ 0 < d ∧ (P.info? e).isSome = true ∧ P.cellsOf e = 1 ∧ kq P e = true ∧ bM P e = 2 then
      some (jp n a (h.1 ▸ (b : Vector Int n')) (List.range n)) else none else none
     | _ => none
   | .v (.a x), .v (.a y) => match toB x, toB y with
     | some a, some b => if bM P t = 1 then some (a == b) else none
     | _, _ => none
   | _, _ => none
def xw : SV → Bool
 | .v (.st _) | .v (.a (.fl (.arr _ _) _)) => true
 | _ => false
def eqS (P : Program) (S : St) (op : BinOp) (t : TypeId) (x y : SV) : Option Qt :=
 if xw x = true ∧ xw y = true ∧ P.eqGuardType P.depth t = false then match EF P 12 t x y with
  | some r => match op with
    | .eql => some (q0 (.bool r))
    | .neq => some (q0 (.bool (!r)))
    | _ => none
  | none => none
 else none
def J4 (P : Program) (S : St) (op : BinOp) (t : TypeId) (x y : SV) : Option Qt :=
 match x, y with
 | .v (.a (.fl (.int k) a)), .v (.a (.fl (.int k') b)) =>
   match op with
   | .shl => some (qp (0 ≤ (b : Int)) (.int k (cq k a b)))
   | .shr => some (qp (0 ≤ (b : Int)) (.int k (cW k a b)))
   | _ => if k = k' then J2 op k a b else none
 | .v (.a (.fl .str a)), .v (.a (.fl .str b)) => J3 op a b
 | .v (.a .nilp), .v (.a .nilp) => if bM P t = 7 then me op true else none
 | .v (.a .nilp), .v (.a (.ptr _ _)) => if bM P t = 7 then me op false else none
 | .v (.a (.ptr _ _)), .v (.a .nilp) => if bM P t = 7 then me op false else none
 | .v (.a .nilp), .v (.a (.pel _ _ _)) => if bM P t = 7 then me op false else none
 | .v (.a (.pel _ _ _)), .v (.a .nilp) => if bM P t = 7 then me op false else none
 | .v (.a .nilf), .v (.a .nilf) => if bM P t = 9 then me op true else none
 | .v (.fn _ _ _), .v (.a .nilf) => if bM P t = 9 then me op false else none
 | .v (.a x), .v (.a y) => match toB x, toB y with
   | some a, some b => if bM P t = 1 then match op with
    | .eql => some (q0 (.bool (a == b)))
    | .neq => some (q0 (.bool (!(a == b))))
    | _ => none
     else none
   | _, _ => eqS P S op t (.v (.a x)) (.v (.a y))
 | x, y => eqS P S op t x y
def unS (op : UnOp) : SV → Option Qt
 | .v (.a (.lit b)) => match op with
   | .not => some (q0 (.lit (!b)))
   | _ => none
 | .v (.a (.fl .bool b)) => match op with
   | .not => some (q0 (.bool (!b)))
   | _ => none
 | .v (.a (.fl (.int k) n)) => match op with
   | .neg => some (q0 (.int k (WK k (0 - n))))
   | .xor => some (q0 (.int k (cM k (if k.signed then -1 else k.max) n)))
   | _ => none
 | _ => none
def J5 (P : Program) (S : St) (t : TypeId) : SV → Option Qt
 | .v (.a (.fl .str s)) => if bM P t = 3 then some (q0 (.int .i64 (s.size : Int))) else none
 | .v (.a (.sl o)) => if bM P t = 4 then match S.ob o with
  | .row _ _ xs _ _ => some (q0 (.int .i64 (xs.length : Int)))
  | .fleet _ _ xs _ => some (q0 (.int .i64 (xs.length : Int)))
  | _ => none
   else none
 | .v (.a (.nils _ _)) => if bM P t = 4 then some (q0 (.int .i64 (0 : Int))) else none
 | .v (.a .nil0) => if bM P t = 4 then some (q0 (.int .i64 (0 : Int))) else none
 | .v (.a (.nilr _ _)) => if bM P t = 4 then some (q0 (.int .i64 (0 : Int))) else none
 | _ => none
def HF (big : Bool) : List SV → Option Qt
 | [.v (.a (.fl (.int k) a)), .v (.a (.fl (.int _) b))] => some (q0 (.int k (if big then mxI a b else mnI a b)))
 | [.v (.a (.fl (.int k) a)), .v (.a (.fl (.int _) b)), .v (.a (.fl (.int _) c))] => some (q0 (.int k (if big then mxI (mxI a b) c else mnI (mnI a b) c)))
 | _ => none
def J6 (P : Program) (S : St) (t : TypeId) : SV → SV → Option Qt
 | .v (.a (.sl o)), .v (.a (.fl (.int k) i)) => match S.ob o with
   | .row _ u xs _ _ => if cg P t = some u.sz then some (qp (0 ≤ (i : Int) ∧ (i : Int) < xs.length) (.v (.elp o u.sz i 0))) else none
   | .fleet _ _ xs _ => if cg P t = some 1 then some (qp (0 ≤ (i : Int) ∧ (i : Int) < xs.length) (.v (.elp o 1 i 0))) else none
   | _ => none
 | .v (.a (.ptr b off)), .v (.a (.fl (.int k) i)) => match S.ob b with
   | .box _ ls => match gC ls off with
     | some (.fl (.arr n u) _ :: _) => if arrAt? P t = some (n, u.sz) then some (qp (0 ≤ (i : Int) ∧ (i : Int) < n) (.v (.arp b off u n i))) else none
     | _ => none
   | _ => none
 | _, _ => none
def Ty.sc1 : Ty → Bool
 | .int _ | .bool | .str => true
 | _ => false
def J7 (P : Program) (t : TypeId) : Bool :=
 match P.underlying t with
 | some (.array _ e) => kq P e
 | _ => false
def idx (P : Program) (t : TypeId) : SV → SV → Option Qt
 | .v (.a (.fl .str s)), .v (.a (.fl (.int k) i)) => if bM P t = 3 then some (qp (0 ≤ (i : Int) ∧ (i : Int) < (s.size : Int)) (.int .u8 (sAt s i))) else none
 | .v (.a (.fl (.arr n u) x)), .v (.a (.fl (.int k) i)) => if arrAt? P t = some (n, u.sz) ∧ u.sc1 = true ∧ J7 P t = true then
  some (qp (0 ≤ (i : Int) ∧ (i : Int) < n) (.v (.a (.fl u (vAt u.dflt x i))))) else none
 | _, _ => none
def fiA : ASh → List Dyn → Option (At × List Dyn)
 | .fl t, d :: ds => (ct (a := d.1) (b := t) d.2).map fun x => (.fl t x, ds)
 | .fl _, [] => none
 | .sl o, ds => some (.sl o, ds)
 | .ptr b off, ds => some (.ptr b off, ds)
 | .pel o off, d :: ds => (ct (a := d.1) (b := .int .i64) d.2).map fun (k : Int) => (.pel o k off, ds)
 | .pel _ _, [] => none
 | .asl b off n, ds => some (.asl b off n, ds)
 | .nil0, ds => some (.nil0, ds)
 | .nilp, ds => some (.nilp, ds)
 | .nilf, ds => some (.nilf, ds)
 | .nili, ds => some (.nili, ds)
 | .un, ds => some (.un, ds)
def bo {α β : Type} (f : α → List Dyn → Option (β × List Dyn)) : List α → List Dyn → Option (List β × List Dyn)
 | [], ds => some ([], ds)
 | x :: xs, ds => match f x ds with
   | some (y, ds1) => match bo f xs ds1 with
     | some (ys, ds2) => some (y :: ys, ds2)
     | none => none
   | none => none
def fiV : VSh → List Dyn → Option (V1 × List Dyn)
 | .a x, ds => (fiA x ds).map fun p => (.a p.1, p.2)
 | .fn f fs cs, ds => match bo fiA fs ds with
   | some (a, ds1) => (bo fiA cs ds1).map fun p => (.fn f a p.1, p.2)
   | none => none
 | .st ls, ds => (bo fiA ls ds).map fun p => (.st p.1, p.2)
def fiS : SSh → List Dyn → Option (SV × List Dyn)
 | .v x, ds => (fiV x ds).map fun p => (.v p.1, p.2)
 | .tup xs, ds => (bo fiV xs ds).map fun p => (.tup p.1, p.2)
def fiO : OSh → List Dyn → Option (Ob × List Dyn)
 | .box T ls, ds => (bo fiA ls ds).map fun p => (.box T p.1, p.2)
 | .row e t m, d :: ds => (ct (a := d.1) (b := .sl e t) d.2).map fun (xs : List t.den) => (.row e t xs m false, ds)
 | .row _ _ _, [] => none
 | .fleet e d, x :: ds => (ct (a := x.1) (b := .sl 0 (bm d)) x.2).map fun (xs : List (bm d).den) => (.fleet e d xs none, ds)
 | .fleet _ _, [] => none
 | .gone, ds => some (.gone, ds)
def HG : (ts : List Ty) → (yz ts).den → List Dyn
 | [], _ => []
 | [t], x => [⟨t, x⟩]
 | t :: u :: ts, x => ⟨t, x.1⟩ :: HG (u :: ts) x.2
def jN (d : Kd) (x : (bm d).den) : Option (List Ob) := match bo fiO (CP d) (HG (Ey d) x) with
 | some (os, []) => some os
 | _ => none
def inner : Md → Md
 | .lent => .lent
 | _ => .rd
def sR : Bool → Md → Md
 | true, _ => .lent
 | false, m => m
def aZ (l : Bool) : Ob → Ob
 | .row e t xs m fu => .row e t xs (sR l m) fu
 | o => o
def xx (l : Bool) (os : List Ob) : List At → Nat → Option (List At × List Ob)
 | [], _ => some ([], [])
 | .fl t x :: r, n => (xx l os r n).map fun p => (.fl t x :: p.1, p.2)
 | .sl j :: r, n => match aZ l (os.getD j .gone) with
   | .row e t xs .rd _ => (xx l os r (n + 1)).map fun p => (.sl n :: p.1, .row e t xs .rd false :: p.2)
   | .row e t xs .lent _ => (xx l os r (n + 1)).map fun p => (.sl n :: p.1, .row e t xs .lent false :: p.2)
   | _ => none
 | _ :: _, _ => none
def ldS (P : Program) (S : St) (t : TypeId) : SV → Option Qt
 | .v (.a (.ptr b off)) => match S.ob b, cellsOf P t with
   | .box _ ls, some n => ((Ay ls off n).bind (iM P t)).map q0
   | _, _ => none
 | .v (.elp o sz i off) => match S.ob o, cellsOf P t with
   | .row _ u xs m _, some n =>
     let (ls, news) := bn (inner m) u (at_ u xs i) S.obs.length
     ((Ay ls off n).bind (iM P t)).map fun v => ⟨True, inferInstance, if (aL v).isEmpty then [] else news, v⟩
   | .fleet _ _ xs none, _ => if sz = 1 ∧ off = 0 ∧ kq P t = true then some (qp (0 ≤ i ∧ i < (xs.length : Int)) (.v (.a (.pel o i 0)))) else none
   | _, _ => none
 | .v (.a (.pel o k off)) => match S.ob o, cellsOf P t with
   | .fleet _ d xs none, some n => match jN d (at_ (bm d) xs k) with
     | some (.box T ls :: os) => match Ay ls off n with
       | some seg => match xx d.l (.box T ls :: os) seg S.obs.length with
         | some (seg', news) => (iM P t seg').map fun v => ⟨0 ≤ k ∧ k < (xs.length : Int), inferInstance, news, v⟩
         | none => none
       | none => none
     | _ => none
   | _, _ => none
 | .v (.arp b off u n i) => match S.ob b with
   | .box _ ls => match gC ls off with
     | some (.fl (.arr n' u') x :: _) => if u' = u ∧ n' = n ∧ u'.sc1 = true ∧ kq P t = true then some (q0 (.v (.a (.fl u' (vAt u'.dflt x i))))) else none
     | _ => none
   | _ => none
 | _ => none
def AB (P : Program) (t : TypeId) (f : Nat) : SV → Option Qt
 | .v (.st ls) => match nv P t f with
   | some (ft, off) => match cellsOf P ft with
     | some n => ((Ay ls off n).bind (iM P ft)).map q0
     | none => none
   | none => none
 | _ => none
def AC (P : Program) (t : TypeId) (f : Nat) : SV → Option Qt
 | .v (.a (.ptr b off)) => (fieldAt? P t f).map fun fo => q0 (.v (.a (.ptr b (off + fo))))
 | .v (.a (.pel o k off)) => (fieldAt? P t f).map fun fo => q0 (.v (.a (.pel o k (off + fo))))
 | .v (.elp o sz i off) => (fieldAt? P t f).map fun fo => q0 (.v (.elp o sz i (off + fo)))
 | _ => none
def yE (P : Program) (t : TypeId) : List At → List (Nat × SV) → Option (List At)
 | zs, [] => some zs
 | zs, (j, v) :: ps => match nv P t j with
   | some (ft, off) => match sQ (ci P ft v) with
     | some us => if cellsOf P ft = some (bU us) then (Az zs off us).bind fun zs' => yE P t zs' ps else none
     | none => none
   | none => none
def gD (u : Ty) : List u.den → List (Nat × SV) → Option (List u.den)
 | xs, [] => some xs
 | xs, (j, .v (.a (.fl w x))) :: ps => match ct (a := w) (b := u) x with
   | some y => if j < xs.length then gD u (xs.set j y) ps else none
   | none => none
 | _, _ => none
def wq (P : Program) (t : TypeId) : Bool :=
 match P.underlying t with
 | some (.struct fs) => (ju P fs.toList).isSome
 | _ => false
def AD (P : Program) (t : TypeId) (ps : List (Nat × SV)) : Option Qt :=
 match bM P t with
 | 5 => match yB P t with
   | some zs => if wq P t then (yE P t zs ps).map fun ls => q0 (.v (.st ls)) else none
   | none => none
 | 6 => match yA P depth t with
   | some (.arr n u) => match (if yC P t (.arr n u) && (arrAt? P t == some (n, u.sz)) && u.flat then gD u (List.replicate n u.dflt) ps else none) with
     | some xs => if h : xs.length = n then some (q0 (.v (.a (.fl (.arr n u) (⟨xs.toArray, by simpa using h⟩ : Vector u.den n))))) else none
     | none => none
   | _ => none
 | _ => none
def ats : List SV → Option (List At)
 | [] => some []
 | .v (.a x) :: r => (ats r).map (x :: ·)
 | _ => none
def mX : Option SV → Option (Option Int)
 | none => some none
 | some (.v (.a (.fl (.int _) i))) => some (some i)
 | _ => none
def py : Option SV → Option IntKind
 | some (.v (.a (.fl (.int k) _))) => some k
 | _ => none
def yF {α : Type} (h : Option Int) (xs : List α) : List α :=
 match h with
 | some h => xs.take h.toNat
 | none => xs
def yG {α : Type} (l : Option Int) (xs : List α) : List α :=
 match l with
 | some l => xs.drop l.toNat
 | none => xs
def EG (P : Program) (S : St) (t : TypeId) (x : SV) (lo hi mx : Option SV) : Option Qt :=
 match x, mX lo, mX hi, mX mx with
 | .v (.a (.fl .str s)), some l, some h, some none => if bM P t = 3 then
  some (qp (0 ≤ l.getD 0 ∧ l.getD 0 ≤ h.getD (s.size : Int) ∧ h.getD (s.size : Int) ≤ (s.size : Int)) (.str (s.extract (l.getD 0).toNat (h.getD (s.size : Int)).toNat))) else none
 | .v (.a (.sl o)), some l, some h, some m => match S.ob o with
   | .row e u xs md _ => if md = .own then none else if cg P t = some u.sz ∧ (m.isSome = true → h.isSome = true ∧ py hi = py mx) then
    some ⟨0 ≤ l.getD 0 ∧ l.getD 0 ≤ h.getD (xs.length : Int) ∧ h.getD (xs.length : Int) ≤ (xs.length : Int) ∧ m.getD (h.getD (xs.length : Int)) = h.getD (xs.length : Int), inferInstance, [.row e u (yG l (yF h xs)) md m.isSome], .v (.a (.sl S.obs.length))⟩
     else none
   | .fleet _ _ xs none => if cg P t = some 1 ∧ l = none ∧ m.isSome = true ∧ h.isSome = true ∧ py hi = py mx then
    some (qp (h.getD (xs.length : Int) = (xs.length : Int) ∧ m.getD (h.getD (xs.length : Int)) = h.getD (xs.length : Int)) (.v (.cutf o))) else none
   | _ => none
 | .v (.a (.ptr b off)), some none, some none, some none => match S.ob b with
   | .box _ ls => match gC ls off with
     | some (.fl (.arr n u) _ :: _) => if arrAt? P t = some (n, u.sz) ∧ n ≤ 9223372036854775807 then some (q0 (.v (.a (.asl b off n)))) else none
     | _ => none
   | _ => none
 | _, _, _, _ => none
def BT (u : Ty) (xs : List u.den) : Option (List Int) := ct (a := .sl 0 u) (b := .sl 0 (.int .u8)) xs
def EH (P : Program) (S : St) (src dst : TypeId) : SV → Option Qt
 | .v (.a (.fl (.int _) n)) => match P.underlying src, P.underlying dst with
   | some _, some (.int k) => some (q0 (.int k (WK k n)))
   | _, _ => none
 | .v (.a (.sl o)) => match S.ob o with
   | .row _ u xs _ _ => if nr P src dst = true then (BT u xs).map fun l => q0 (.str (strOfNums l)) else none
   | _ => none
 | .v (.a (.nils _ _)) => if nr P src dst = true then some (q0 (.str (strOfNums []))) else none
 | .v (.a (.asl b off n)) => match S.ob b with
   | .box _ ls => match gC ls off with
     | some (.fl (.arr n' u) x :: _) => if nr P src dst = true ∧ n' = n ∧ n ≤ 9223372036854775807 then (BT u x.toList).map fun l => q0 (.str (strOfNums l)) else none
     | _ => none
   | _ => none
 | _ => none
def ue (S : St) (l : List Operand) : Option (List SV) := l.mapM (opA S)
def opO (S : St) : Option Operand → Option (Option SV)
 | none => some none
 | some x => (opA S x).map some
def parts (S : St) : List (Nat × Operand) → Option (List (Nat × SV))
 | [] => some []
 | (j, x) :: r => match opA S x, parts S r with
   | some v, some vs => some ((j, v) :: vs)
   | _, _ => none
def qC (P : Program) (S : St) (ty : TypeId) (op : Op) : Option Qt :=
 match op with
 | .move x | .assign x => (opA S x).map fun v => q0 (ci P ty v)
 | .pick c x y => match opA S c with
   | some (.v (.a (.lit b))) => (opA S (if b then x else y)).map fun v => q0 (ci P ty v)
   | _ => none
 | .nilCheck x => match opA S x with
   | some (.v (.a (.ptr b o))) => some (q0 (.v (.a (.ptr b o))))
   | some (.v (.a (.pel o k off))) => some (q0 (.v (.a (.pel o k off))))
   | some (.v (.elp o s i f)) => some (q0 (.v (.elp o s i f)))
   | some (.v (.arp b o t n i)) => some (q0 (.v (.arp b o t n i)))
   | _ => none
 | .binOp op t x y _ => match opA S x, opA S y with
   | some a, some b => J4 P S op t a b
   | _, _ => none
 | .unOp op _ x => (opA S x).bind (unS op)
 | .extract x i => match opA S x with
   | some (.tup vs) => (vs[i]?).map fun v => q0 (.v v)
   | _ => none
 | .field t x f => (opA S x).bind (AB P t f)
 | .fieldAddr t x f => (opA S x).bind (AC P t f)
 | .indexAddr t x i => match opA S x, opA S i with
   | some a, some b => J6 P S t a b
   | _, _ => none
 | .index t x i => match opA S x, opA S i with
   | some a, some b => idx P t a b
   | _, _ => none
 | .load t x => (opA S x).bind (ldS P S t)
 | .build t ps => (parts S ps.toList).bind (AD P t)
 | .makeFunc (.func f) fs cs => match (ue S fs.toList).bind ats, (ue S cs.toList).bind ats with
   | some a, some b => some (q0 (.v (.fn f a b)))
   | _, _ => none
 | .slice t x l h m => match opA S x, opO S l, opO S h, opO S m with
   | some x, some l, some h, some m => EG P S t x l h m
   | _, _, _, _ => none
 | .convert s d x => (opA S x).bind (EH P S s d)
 | .call { callee := .builtin .len, args, argTypes } => match args.toList, argTypes.toList with
   | [x], [t] => (opA S x).bind (J5 P S t)
   | _, _ => none
 | .call { callee := .builtin .min, args, .. } => (ue S args.toList).bind (HF false)
 | .call { callee := .builtin .max, args, .. } => (ue S args.toList).bind (HF true)
 | _ => none
def LT (Ti Ts : TypeId) : Code := .region 0
 #[{ dst := some 4, op := .load Ts (.tmp 1), type := Ts, pos := "iter.go:28", after := #[], guard := none },
  { dst := some 5, op := .call { callee := .builtin .len, args := #[.tmp 4], argTypes := #[Ts] }, type := Ti, pos := "iter.go:28", after := #[{ on := 0, ground := .data }], guard := none },
  { dst := some 6, op := .binOp .sub Ti (.tmp 5) (.const (.int .i64 1)) Ti, type := Ti, pos := "iter.go:28", after := #[{ on := 1, ground := .data }], guard := none },
  { dst := some 3, op := .assign (.tmp 6), type := Ti, pos := "iter.go:28", after := #[{ on := 2, ground := .data }, { on := 0, ground := .phase }, { on := 1, ground := .phase }, { on := 2, ground := .phase }], guard := none }]
 false
def LU (Ti Tb : TypeId) : Code := .region 1
 #[{ dst := some 7, op := .move (.tmp 3), type := Ti, pos := "iter.go:28", after := #[], guard := none },
  { dst := some 8, op := .binOp .geq Ti (.tmp 7) (.const (.int .i64 0)) Ti, type := Tb, pos := "iter.go:28", after := #[{ on := 0, ground := .data }], guard := none }]
 false
def LV (Ti Tb Ts Te Ty : TypeId) : Code := .region 3
 #[{ dst := some 11, op := .move (.tmp 0), type := Ty, pos := "iter.go:29", after := #[], guard := none },
  { dst := some 12, op := .move (.tmp 3), type := Ti, pos := "iter.go:29", after := #[], guard := none },
  { dst := some 13, op := .load Ts (.tmp 1), type := Ts, pos := "iter.go:29", after := #[], guard := none },
  { dst := some 14, op := .move (.tmp 3), type := Ti, pos := "iter.go:29", after := #[], guard := none },
  { dst := some 15, op := .indexAddr Ts (.tmp 13) (.tmp 14), type := 0, pos := "iter.go:29", after := #[{ on := 2, ground := .data }, { on := 3, ground := .data }], guard := none },
  { dst := some 16, op := .load Te (.tmp 15), type := Te, pos := "iter.go:29", after := #[{ on := 4, ground := .data }], guard := none },
  { dst := some 17, op := .call { callee := .value (.tmp 11), args := #[.tmp 12, .tmp 16], argTypes := #[Ti, Te] }, type := Tb, pos := "iter.go:29", after := #[{ on := 0, ground := .data }, { on := 1, ground := .data }, { on := 5, ground := .data }], guard := none },
  { dst := some 18, op := .unOp .not Tb (.tmp 17), type := Tb, pos := "iter.go:29", after := #[{ on := 6, ground := .data }], guard := none }]
 false
def LW (Ti : TypeId) : Code := .region 2
 #[{ dst := some 9, op := .move (.tmp 3), type := Ti, pos := "iter.go:28", after := #[], guard := none },
  { dst := some 10, op := .binOp .sub Ti (.tmp 9) (.const (.int .i64 1)) Ti, type := Ti, pos := "iter.go:28", after := #[{ on := 0, ground := .data }], guard := none },
  { dst := some 3, op := .assign (.tmp 10), type := Ti, pos := "iter.go:28", after := #[{ on := 1, ground := .data }, { on := 0, ground := .phase }, { on := 1, ground := .phase }], guard := none }]
 false
def EI (Ti Tb Ts Te Ty : TypeId) : Code :=
 (LT Ti Ts).seq (.block 0 ((((LU Ti Tb).seq (.cond (.tmp 8) .skip (.exit 0))).seq ((Code.block 1 ((LV Ti Tb Ts Te Ty).seq (.cond (.tmp 18) .ret .skip))).seq (LW Ti))).loop))
structure Bk where
 gf : Nat
 Ti : Nat
 Tb : Nat
 Ts : Nat
 Te : Nat
 Ty : Nat
structure BkOk (P : Program) (B : Bk) : Prop where
 fn : ∃ fn, P.funcs[B.gf]? = some fn ∧ fn.body = some (EI B.Ti B.Tb B.Ts B.Te B.Ty) ∧ fn.ntmps = 19 ∧ fn.results = #[]
 en : tT P B.gf = true
 sl : bM P B.Ts = 4
theorem jO {x : Int} (h1 : -9223372036854775808 ≤ x) (h2 : x ≤ 9223372036854775807) : IntKind.wrap .i64 x = x := by
 simp only [IntKind.wrap, IntKind.bits, IntKind.signed]
 simp
 split <;> omega
section
variable {P : Program} {B : Bk}
theorem EJ {ro : Option Nat} {m k : Nat} {c : Code} {Q : Exit → Act → World → Prop} {a : Act} {w : World} (h : c.wpIn (FR ro) m P Q a w) : c.wpIn (FR ro) k P Q a w :=
 fun b kk cs h1 h2 _ => h b kk cs h1 h2 (fun d hd => by cases hd)
def kU (l : Nat) : Value := .func (.yield l) #[] #[]
theorem EK {n l i : Nat} {m : List (Nat × Value)} {a : Act} {w : World} {ops : Array Oper} {Q : Exit → Act → World → Prop} {d : Option Tmp} {x : Operand} {xs : Array Operand} {ts : Array TypeId} {R : Value → World → Prop}
 (hS : Sl n m a) (hs : sig ops i = some (d, .call { callee := .value x, args := xs, argTypes := ts }, none)) (hd : wid n d = true) (hk : iL m (.call { callee := .value x, args := xs, argTypes := ts }) = true)
 (hx : ev m x = kU l) {A : Array Value} (hA : xs.map (ev m) = A) (hy : YieldAt (FR none) 2 P l A w fun e w' => ∃ v, e = .returned v ∧ R v w')
 (k : ∀ v w', R v w' → ∀ a', Sl n (qt m d v) a' → wl none P ops Q (i + 1) a' w') : wl none P ops Q i a w := by
 obtain ⟨o, h1, h2, h3, h4, h5⟩ := lz hs
 simp only at h3 h4 h5
 subst h3
 unfold wl
 rw [h2]
 unfold wpListIn
 rw [if_pos (by rw [gA hS (t := true) (by rw [h5]; rfl)])]
 obtain ⟨fn, tmps, assign, body, hr, hround⟩ := hy
 refine ⟨fun _ _ => trivial, ?_⟩
 have hop : iL m o.op = true := by rw [h4]; exact hk
 rw [Oper.semAt_eq _ _ _ (by intro c; rw [h4]; simp), ip hS hop]
 have e : (execOp (ev m) o).run P w = .ok (.round l fn tmps assign body) w := by
  simp only [execOp, h4, resolve, hx, kU, Deferred.ofValue, Sem.run_bind, Sem.run_pure, Result.andThen_ok, invoke]
  have e : #[] ++ xs.map (ev m) = A := by rw [hA]; simp
  simp only [Array.append_empty, e]
  exact hr
 rw [e, Oper.uponIn_round]
 refine ⟨fun _ => by decide, hround.mono ?_⟩
 rintro e w' ⟨v, rfl, hR⟩
 exact k v w' hR _ (hS.put _ _ hd)
theorem CR (hB : BkOk P B) {l bb N sz : Nat} {v : Value} (J : Nat → World → Prop) (X : World → Prop) {W1 : World} (hsz : cg P B.Ts = some sz) (hsh : Shp v N) (hN : N ≤ 9223372036854775807) (hJ : J N W1)
 (hbox : W1.cell? ⟨bb, 0, none⟩ = some v)
 (hread : ∀ m W, m < N → J (m + 1) W → W.cell? ⟨bb, 0, none⟩ = some v ∧ ∃ y, (∀ ρ x, ρ x = .pointer (some (il v (m * sz))) → cV P ρ (.load B.Te x) W y W) ∧
  YieldAt (FR none) 2 P l #[.int .i64 m, y] W fun e W' => (e = .returned (.bool true) ∧ J m W') ∨ (e = .returned (.bool false) ∧ X W')) :
 Calls P B.gf #[kU l, .pointer (some ⟨bb, 0, none⟩)] W1 fun e W' => (∃ v, e = .returned v) ∧ (J 0 W' ∨ X W') := by
 obtain ⟨fn, hf, hb, hnt, hres⟩ := hB.fn
 have hsc : kq P B.Ts = true := by unfold kq; simp [hB.sl]
 refine calls_of_wp hf hb ?_
 have start : ∀ a : Act, Sl 19 [(0, kU l), (1, .pointer (some ⟨bb, 0, none⟩))] a → (EI B.Ti B.Tb B.Ts B.Te B.Ty).wpIn (FR none) 3 P (bodyPost P fn fun e W' => (∃ v, e = .returned v) ∧ (J 0 W' ∨ X W')) a W1 := by
  intro a hS
  have fin : ∀ (m : List (Nat × Value)) (a : Act) (W : World), Sl 19 m a → (J 0 W ∨ X W) → bodyPost P fn (fun e W' => (∃ v, e = .returned v) ∧ (J 0 W' ∨ X W')) .ret a W := fun m a W hS h =>
   sL hS (vs := []) (by rw [hres]; rfl) ⟨⟨_, rfl⟩, h⟩
  have fin' : ∀ (m : List (Nat × Value)) (a : Act) (W : World), Sl 19 m a → (J 0 W ∨ X W) → bodyPost P fn (fun e W' => (∃ v, e = .returned v) ∧ (J 0 W' ∨ X W')) .normal a W := fun m a W hS h =>
   KR hS (vs := []) (by rw [hres]; rfl) ⟨⟨_, rfl⟩, h⟩
  refine bw rfl (aO rfl ?_)
  refine bz hS (v := v) rfl rfl (tW rfl hbox hsc) fun a1 h1 => ?_
  refine bz h1 (v := .int .i64 (N : Int)) rfl rfl (sP hsh rfl (by simp [hB.sl])) fun a2 h2 => ?_
  refine bz h2 (v := .int .i64 ((N : Int) - 1)) rfl rfl (aE (by simp [dF, ly, vJ, ev, gQ, qt, del]; exact jO (by omega) (by omega)) _) fun a3 h3 => ?_
  refine bz h3 (v := .int .i64 ((N : Int) - 1)) rfl rfl (aE rfl _) fun a4 h4 => bK rfl ?_
  refine xp (i := 0) rfl ?_
  have h4 := h4.keep [0, 1, 3] (m' := [(0, kU l), (1, .pointer (some ⟨bb, 0, none⟩)), (3, .int .i64 ((N : Int) - 1))]) rfl
  refine Eb (I := fun k a W => ∃ m, k = m ∧ m ≤ N ∧ J m W ∧ Sl 19 [(0, kU l), (1, .pointer (some ⟨bb, 0, none⟩)), (3, .int .i64 ((m : Int) - 1))] a) rfl N ⟨N, rfl, Nat.le_refl _, hJ, h4⟩ ?_
  rintro m a5 W ⟨_, rfl, hm, hj, h5⟩
  refine bw rfl (bw rfl (aO rfl ?_))
  refine bz h5 (v := .int .i64 ((m : Int) - 1)) rfl rfl (aE rfl _) fun a6 h6 => ?_
  refine bz h6 (v := .bool (decide ((m : Int) - 1 ≥ 0))) rfl rfl (aE rfl _) fun a7 h7 => bK rfl ?_
  refine jf (t := decide ((m : Int) - 1 ≥ 0)) rfl (h7.ev rfl) (fun ht => ?_) (fun ht => ?_)
  ·obtain ⟨m, rfl⟩ : ∃ k, m = k + 1 := ⟨m - 1, by simp at ht; omega⟩
   refine nf rfl ?_
   obtain ⟨hbx, y, hy, hround⟩ := hread m W (by omega) hj
   have e0 : ((m + 1 : Nat) : Int) - 1 = (m : Int) := by omega
   rw [e0] at h7
   refine bw rfl (xp (i := 1) rfl (bw rfl (aO rfl ?_)))
   refine bz h7 (v := kU l) rfl rfl (aE rfl _) fun b1 g1 => ?_
   refine bz g1 (v := .int .i64 (m : Int)) rfl rfl (aE rfl _) fun b2 g2 => ?_
   refine bz g2 (v := v) rfl rfl (tW rfl hbx hsc) fun b3 g3 => ?_
   refine bz g3 (v := .int .i64 (m : Int)) rfl rfl (aE rfl _) fun b4 g4 => ?_
   refine bz g4 (v := .pointer (some (il v (m * sz)))) rfl rfl (Em (i := (m : Int)) hsh rfl rfl (by omega) (by omega) hsz) fun b5 g5 => ?_
   refine bz g5 (v := y) rfl rfl (hy _ _ rfl) fun b6 g6 => ?_
   refine EK g6 (R := fun v W' => (v = .bool true ∧ J m W') ∨ (v = .bool false ∧ X W')) (A := #[.int .i64 (m : Int), y]) rfl rfl rfl rfl (by simp [ev, gQ, qt, del]) ?_ ?_
   ·obtain ⟨fn, tmps, assign, body, hr, hround⟩ := hround
    refine ⟨fn, tmps, assign, body, hr, hround.mono ?_⟩
    rintro e W' (⟨rfl, h⟩ | ⟨rfl, h⟩)
    ·exact ⟨_, rfl, .inl ⟨rfl, h⟩⟩
    ·exact ⟨_, rfl, .inr ⟨rfl, h⟩⟩
   ·rintro v1 W' hv0 b7 g7
    obtain ⟨t, ht, hv⟩ : ∃ t : Bool, v1 = .bool t ∧ ((t = true ∧ J m W') ∨ (t = false ∧ X W')) := by
     rcases hv0 with ⟨rfl, h⟩ | ⟨rfl, h⟩
     ·exact ⟨_, rfl, .inl ⟨rfl, h⟩⟩
     ·exact ⟨_, rfl, .inr ⟨rfl, h⟩⟩
    clear hv0
    subst ht
    refine bz g7 (v := .bool (!t)) rfl rfl (aE rfl _) fun b8 g8 => bK rfl ?_
    refine jf (t := !t) rfl (g8.ev rfl) (fun ht => ?_) (fun ht => ?_)
    ·rcases hv with ⟨rfl, h⟩ | ⟨rfl, h⟩
     ·simp at ht
     ·exact qu rfl (fin _ _ _ g8 (.inr h))
    ·rcases hv with ⟨rfl, h⟩ | ⟨rfl, h⟩
     ·refine nf rfl (LR (bl (aO rfl ?_)))
      refine bz g8 (v := .int .i64 (m : Int)) rfl rfl (aE rfl _) fun b9 g9 => ?_
      refine bz g9 (v := .int .i64 ((m : Int) - 1)) rfl rfl (aE (by simp [dF, ly, vJ, ev, gQ, qt, del]; exact jO (by omega) (by omega)) _) fun b10 g10 => ?_
      refine bz g10 (v := .int .i64 ((m : Int) - 1)) rfl rfl (aE rfl _) fun b11 g11 => bK rfl ?_
      exact bl ⟨m, by omega, m, rfl, by omega, h, g11.keep [0, 1, 3] rfl⟩
     ·simp at ht
  ·have hm0 : m = 0 := by simp at ht; omega
   subst hm0
   exact Ao rfl (fin' _ _ _ h7 (.inl hj))
 have := start _ (Sl.start [kU l, .pointer (some ⟨bb, 0, none⟩)] 17 _ (fun t u hu => by have := (pG [kU l, .pointer (some ⟨bb, 0, none⟩)] 0 t u hu).2; rwa [Nat.sub_zero] at this))
 have this : Code.wpIn Fence.wide 3 P _ _ _ W1 := this
 exact wpIn_wide.1 (by simpa [hnt] using this)
end
def yH : List Nat → Nat
 | [] => 0
 | i :: l => yH l ||| (1 <<< i)
def vM (a b : Nat) : Bool := a &&& b == a
def gT (n : Nat) (l : List Nat) : Nat := yH (l.filter fun i => decide (i < n))
def K4 (ops : Array Oper) (i : Nat) : List Nat := match ops.toList[i]? with
 | some o => (o.after.toList.filter fun e => Region.binds .any e).map (·.on)
 | none => []
def K5 (ops : Array Oper) (i : Nat) : List Nat := match ops.toList[i]? with
 | some oi => (List.range ops.size).filter fun j => !(j == i) && !(match ops.toList[j]? with
  | some oj => oj.after.toList.any (fun e => Region.binds .any e && e.on == i) || oi.apart ops oj
  | none => true)
 | none => []
def nw (ops : Array Oper) (i : Nat) : Nat × Nat := (yH (K4 ops i), yH (K5 ops i))
def pz (ops : Array Oper) : List (Nat × Nat) := (List.range ops.size).map (nw ops)
def yI (ops : Array Oper) (tab : List (Nat × Nat)) : Bool := decide (pz ops = tab)
def nA (lm : Nat) : List (Nat × Nat) → Nat → List Nat
 | [], _ => []
 | p :: t, i => if (!(lm.testBit i) && vM p.1 lm) = true then i :: nA lm t (i + 1) else nA lm t (i + 1)
def EL (tab : List (Nat × Nat)) (lm : Nat) (j : Nat) : Bool := match tab[j]? with
 | some p => !(lm.testBit j) && (vM p.1 lm && vM p.2 lm)
 | none => false
theorem nB : ∀ (l : List Nat) (i : Nat), (yH l).testBit i = decide (i ∈ l)
 | [], i => by simp [yH]
 | j :: l, i => by
   rw [yH, Nat.testBit_or, nB l i, Nat.one_shiftLeft, Nat.testBit_two_pow]
   by_cases h : j = i
   ·simp [h]
   ·simp [h, Ne.symm h]
theorem yJ (l : List Nat) (b : Nat) : vM (yH l) b = l.all fun i => b.testBit i := by
 rw [Bool.eq_iff_iff]
 simp only [vM, beq_iff_eq, List.all_eq_true]
 constructor
 ·intro h i hi
  have h1 := congrArg (fun n => n.testBit i) h
  simp only [Nat.testBit_and, nB, hi, decide_true, Bool.true_and] at h1
  exact h1
 ·intro h
  apply Nat.eq_of_testBit_eq
  intro i
  rw [Nat.testBit_and, nB]
  by_cases hi : i ∈ l
  ·simp [hi, h i hi]
  ·simp [hi]
theorem xy (n : Nat) : ∀ (l : List Nat) (i : Nat), (gj n l)[i]? = if i < n then some (decide (i ∈ l)) else none
 | [], i => by
   rw [gj, Array.getElem?_replicate]
   simp
 | j :: l, i => by
   have hs : ∀ l, (gj n l).size = n := fun l => by
    induction l with
    | nil => simp [gj]
    | cons a l ih => simp [gj, ih]
   rw [gj, Array.getElem?_setIfInBounds]
   by_cases h : j = i
   ·subst h
    by_cases hn : j < n
    ·simp [hs, hn]
    ·simp [hs, hn]
   ·rw [if_neg h, xy n l i]
    simp [Ne.symm h]
theorem CS (n : Nat) (l : List Nat) (i : Nat) : (gj n l).getD i false = (gT n l).testBit i := by
 rw [Array.getD_eq_getD_getElem?, xy, gT, nB]
 by_cases h : i < n
 ·simp [h]
 ·simp [h]
theorem rN (n : Nat) (l : List Nat) (i : Nat) (h : i < n) : (gj n l).getD i true = (gT n l).testBit i := by
 rw [Array.getD_eq_getD_getElem?, xy, gT, nB]
 simp [h]
theorem pK (lm : Nat) (f : Nat → Nat × Nat) : ∀ (n s : Nat), nA lm ((List.range' s n).map f) s = (List.range' s n).filter fun i => !(lm.testBit i) && vM (f i).1 lm
 | 0, s => rfl
 | n + 1, s => by
   rw [List.range'_succ, List.map_cons, nA, pK lm f n (s + 1), List.filter_cons]
theorem wr {ops : Array Oper} {tab : List (Nat × Nat)} (h : yI ops tab = true) (l : List Nat) : nA (gT ops.size l) tab 0 = Region.ready .any ops (gj ops.size l) := by
 obtain rfl : pz ops = tab := by simpa [yI] using h
 rw [pz, List.range_eq_range', pK, ← List.range_eq_range', Region.ready]
 apply List.filter_congr
 intro i hi
 have hi := List.mem_range.1 hi
 rw [rN _ _ _ hi]
 congr 1
 have ho : ops.toList[i]? = some ops[i] := by rw [Array.getElem?_toList]; exact Array.getElem?_eq_getElem hi
 have ho' : ops[i]? = some ops[i] := Array.getElem?_eq_getElem hi
 simp only [nw, yJ, K4, ho, ho', Option.map_some, Option.getD_some, List.all_map, List.all_filter]
 rw [← Array.all_toList]
 congr 1
 funext e
 rw [CS]
 rfl
theorem HH {ops : Array Oper} {tab : List (Nat × Nat)} (h : yI ops tab = true) (l : List Nat) (j : Nat) : EL tab (gT ops.size l) j = pH ops l j := by
 have hr := wr h l
 obtain rfl : pz ops = tab := by simpa [yI] using h
 rw [pH, ← hr]
 by_cases hj : j < ops.size
 ·have ht : (pz ops)[j]? = some (nw ops j) := by
   rw [pz, List.getElem?_map, List.getElem?_range hj]; rfl
  have ho : ops.toList[j]? = some ops[j] := by rw [Array.getElem?_toList]; exact Array.getElem?_eq_getElem hj
  have ho' : ops[j]? = some ops[j] := Array.getElem?_eq_getElem hj
  have hc : (nA (gT ops.size l) (pz ops) 0).contains j = (!((gT ops.size l).testBit j) && vM (nw ops j).1 (gT ops.size l)) := by
   rw [pz, List.range_eq_range', pK, ← List.range_eq_range', Bool.eq_iff_iff]
   simp [hj]
  have hf : Region.free .any ops (gj ops.size l) j = vM (nw ops j).2 (gT ops.size l) := by
   simp only [Region.free, ho', nw, yJ, K5, ho, List.all_filter]
   rw [Bool.eq_iff_iff, List.all_eq_true, List.all_eq_true]
   constructor
   ·intro h i hi
    have hin := List.mem_range.1 hi
    have h := h i hi
    have hoi : ops.toList[i]? = some ops[i] := by rw [Array.getElem?_toList]; exact Array.getElem?_eq_getElem hin
    have hoi' : ops[i]? = some ops[i] := Array.getElem?_eq_getElem hin
    rw [rN _ _ _ hin] at h
    simp only [hoi, hoi', Array.any_toList] at h ⊢
    revert h
    cases (i == j) <;> cases (gT ops.size l).testBit i <;> cases (Array.any ops[i].after fun e => Region.binds .any e && e.on == j) <;> cases ops[j].apart ops ops[i] <;> simp
   ·intro h i hi
    have hin := List.mem_range.1 hi
    have h := h i hi
    have hoi : ops.toList[i]? = some ops[i] := by rw [Array.getElem?_toList]; exact Array.getElem?_eq_getElem hin
    have hoi' : ops[i]? = some ops[i] := Array.getElem?_eq_getElem hin
    rw [rN _ _ _ hin]
    simp only [hoi, hoi', Array.any_toList] at h ⊢
    revert h
    cases (i == j) <;> cases (gT ops.size l).testBit i <;> cases (Array.any ops[i].after fun e => Region.binds .any e && e.on == j) <;> cases ops[j].apart ops ops[i] <;> simp
  rw [EL, ht, hc, hf]
  simp only
  cases (gT ops.size l).testBit j <;> cases vM (nw ops j).1 (gT ops.size l) <;> cases vM (nw ops j).2 (gT ops.size l) <;> rfl
 ·have ht : (pz ops)[j]? = none := by
   rw [pz, List.getElem?_map, List.getElem?_eq_none (by simpa using Nat.le_of_not_lt hj)]; rfl
  have hc : Region.free .any ops (gj ops.size l) j = false := by
   simp only [Region.free, Array.getElem?_eq_none (Nat.le_of_not_lt hj)]
  rw [EL, ht, hc]
  rfl
structure Nst where
 slots : List (Nat × SV)
 boxes : List (Nat × Ob)
 news : List Ob
def shA : At → ASh
 | .fl t _ => .fl t
 | .lit _ => .fl .bool
 | .sl o => .sl o
 | .ptr b off => .ptr b off
 | .pel o _ off => .pel o off
 | .asl b off n => .asl b off n
 | .nil0 => .nil0
 | .nilp => .nilp
 | .nilf => .nilf
 | .nili => .nili
 | _ => .un
def shV : V1 → VSh
 | .a x => .a (shA x)
 | .fn f fs cs => .fn f (fs.map shA) (cs.map shA)
 | .st ls => .st (ls.map shA)
 | _ => .a .un
def shS : SV → SSh
 | .v x => .v (shV x)
 | .tup xs => .tup (xs.map shV)
def shO : Ob → OSh
 | .box T ls => .box T (ls.map shA)
 | .row e t _ m _ => .row e t m
 | .fleet e d _ _ => .fleet e d
 | .gone => .gone
def shN (N : Nst) : NSh := ⟨N.slots.map fun p => (p.1, shS p.2), N.boxes.map fun p => (p.1, shO p.2), N.news.map shO⟩
def coA : At → List Dyn
 | .fl t x => [⟨t, x⟩]
 | .lit b => [⟨.bool, b⟩]
 | .pel _ k _ => [⟨.int .i64, k⟩]
 | _ => []
def coL (ls : List At) : List Dyn := ls.flatMap coA
def coV : V1 → List Dyn
 | .a x => coA x
 | .fn _ fs cs => coL fs ++ coL cs
 | .st ls => coL ls
 | _ => []
def coS : SV → List Dyn
 | .v x => coV x
 | .tup xs => xs.flatMap coV
def coO : Ob → List Dyn
 | .box _ ls => coL ls
 | .row e t xs _ _ => [⟨.sl e t, xs⟩]
 | .fleet _ d xs _ => [⟨.sl 0 (bm d), xs⟩]
 | .gone => []
def coN (N : Nst) : List Dyn := N.slots.flatMap (fun p => coS p.2) ++ N.boxes.flatMap (fun p => coO p.2) ++ N.news.flatMap coO
def cdV : VSh → List Ty
 | .a x => cdA x
 | .fn _ fs cs => cdL fs ++ cdL cs
 | .st ls => cdL ls
def cdS : SSh → List Ty
 | .v x => cdV x
 | .tup xs => xs.flatMap cdV
def cdO : OSh → List Ty
 | .box _ ls => cdL ls
 | .row e t _ => [.sl e t]
 | .fleet _ d => [.sl 0 (bm d)]
 | .gone => []
def NSh.codes (s : NSh) : List Ty := s.slots.flatMap (fun p => cdS p.2) ++ s.boxes.flatMap (fun p => cdO p.2) ++ s.news.flatMap cdO
def fiP {α β : Type} (f : α → List Dyn → Option (β × List Dyn)) (p : Nat × α) (ds : List Dyn) : Option ((Nat × β) × List Dyn) := (f p.2 ds).map fun q => ((p.1, q.1), q.2)
def fiN (s : NSh) (ds : List Dyn) : Option Nst :=
 match bo (fiP fiS) s.slots ds with
 | some (sl, ds1) => match bo (fiP fiO) s.boxes ds1 with
   | some (bx, ds2) => (bo fiO s.news ds2).map fun p => ⟨sl, bx, p.1⟩
   | none => none
 | none => none
def bq (d : Kd) (x : (bm d).den) (j : Nat) : Ob := ((jN d x).getD []).getD j .gone
inductive Src where
 | ob (o : Nat)
 | nil (e : Nat) (t : Ty)
 | nilr (e : Nat) (d : Kd)
def eQ (o : Nat) : List Src → Nat → Option Nat
 | [], _ => none
 | .ob p :: r, j => if p = o then some j else eQ o r (j + 1)
 | .nil _ _ :: r, j => eQ o r (j + 1)
 | .nilr _ _ :: r, j => eQ o r (j + 1)
def iT (nb o : Nat) (pl : List Src) : Nat × List Src :=
 match eQ o pl 0 with
 | some j => (nb + j, pl)
 | none => (nb + pl.length, pl ++ [.ob o])
def kV (S : St) (nb : Nat) (sy : List Nat) : At → List Src → Option (At × List Src)
 | .fl t x, pl => some (.fl t x, pl)
 | .lit b, pl => some (.fl .bool b, pl)
 | .sl o, pl => match S.ob o with
   | .row _ _ _ .own _ => if decide (o < nb) && sy.elem o then some (.sl o, pl) else some (.sl (iT nb o pl).1, (iT nb o pl).2)
   | .row _ _ _ _ _ => some (.sl (nb + pl.length), pl ++ [.ob o])
   | .fleet _ _ _ none => if decide (o < nb) && sy.elem o then some (.sl o, pl) else some (.sl (iT nb o pl).1, (iT nb o pl).2)
   | _ => none
 | .nils e t, pl => some (.sl (nb + pl.length), pl ++ [.nil e t])
 | .nil0, pl => some (.nil0, pl)
 | .nilr e d, pl => some (.sl (nb + pl.length), pl ++ [.nilr e d])
 | .pel o k off, pl => match S.ob o with
   | .fleet _ _ _ none => if decide (o < nb) && sy.elem o then some (.pel o k off, pl) else some (.pel (iT nb o pl).1 k off, (iT nb o pl).2)
   | _ => none
 | .ptr b off, pl => if b < nb then some (.ptr b off, pl) else some (.ptr (iT nb b pl).1 off, (iT nb b pl).2)
 | .asl b off n, pl => if b < nb then some (.asl b off n, pl) else some (.asl (iT nb b pl).1 off n, (iT nb b pl).2)
 | .nilp, pl => some (.nilp, pl)
 | .nilf, pl => some (.nilf, pl)
 | .nili, pl => some (.nili, pl)
 | .un, pl => some (.un, pl)
def eU {α : Type} (f : α → List Src → Option (α × List Src)) : List α → List Src → Option (List α × List Src)
 | [], pl => some ([], pl)
 | x :: xs, pl => match f x pl with
   | some (y, pl1) => match eU f xs pl1 with
     | some (ys, pl2) => some (y :: ys, pl2)
     | none => none
   | none => none
def AE (S : St) (nb : Nat) (sy : List Nat) : V1 → List Src → Option (V1 × List Src)
 | .a x, pl => (kV S nb sy x pl).map fun p => (.a p.1, p.2)
 | .fn f fs cs, pl => match eU (kV S nb sy) fs pl with
   | some (a, pl1) => (eU (kV S nb sy) cs pl1).map fun p => (.fn f a p.1, p.2)
   | none => none
 | .st ls, pl => (eU (kV S nb sy) ls pl).map fun p => (.st p.1, p.2)
 | _, _ => none
def HI (S : St) (nb : Nat) (sy : List Nat) : SV → List Src → Option (SV × List Src)
 | .v x, pl => (AE S nb sy x pl).map fun p => (.v p.1, p.2)
 | .tup xs, pl => (eU (AE S nb sy) xs pl).map fun p => (.tup p.1, p.2)
def bV (S : St) (nb : Nat) (sy : List Nat) : List Nat → List Src → List (Nat × SV) × List Src
 | [], pl => ([], pl)
 | t :: ts, pl => match (aA S.slots t).bind fun v => HI S nb sy v pl with
   | some (v, pl1) => ((t, v) :: (bV S nb sy ts pl1).1, (bV S nb sy ts pl1).2)
   | none => bV S nb sy ts pl
def iU (S : St) (nb : Nat) (sy : List Nat) : List Nat → List Src → Option (List (Nat × Ob) × List Src)
 | [], pl => some ([], pl)
 | b :: bs, pl => match S.ob b with
   | .box T ls => match eU (kV S nb sy) ls pl with
     | some (ls', pl1) => (iU S nb sy bs pl1).map fun p => ((b, .box T ls') :: p.1, p.2)
     | none => none
   | .row e t xs m _ => (iU S nb sy bs pl).map fun p => ((b, if sy.elem b then .row e t xs m false else .gone) :: p.1, p.2)
   | .fleet e d xs none => (iU S nb sy bs pl).map fun p => ((b, if sy.elem b then .fleet e d xs none else .gone) :: p.1, p.2)
   | .fleet _ _ _ _ => none
   | .gone => (iU S nb sy bs pl).map fun p => ((b, .gone) :: p.1, p.2)
def jv (S : St) (nb : Nat) (sy : List Nat) : Nat → Nat → List Src → Option (List Ob × List Src)
 | 0, _, _ => none
 | fuel + 1, j, pl => match pl[j]? with
   | none => some ([], pl)
   | some (.nil e t) => (jv S nb sy fuel (j + 1) pl).map fun p => (.row e t [] .own false :: p.1, p.2)
   | some (.nilr e d) => (jv S nb sy fuel (j + 1) pl).map fun p => (.fleet e d [] none :: p.1, p.2)
   | some (.ob o) => match S.ob o with
     | .box T ls => match eU (kV S nb sy) ls pl with
       | some (ls', pl1) => (jv S nb sy fuel (j + 1) pl1).map fun p => (.box T ls' :: p.1, p.2)
       | none => none
     | .row e t xs m _ => (jv S nb sy fuel (j + 1) pl).map fun p => (.row e t xs m false :: p.1, p.2)
     | .fleet e d xs none => (jv S nb sy fuel (j + 1) pl).map fun p => (.fleet e d xs none :: p.1, p.2)
     | .fleet _ _ _ _ => none
     | .gone => none
def uf (nb : Nat) (sy M C : List Nat) (S : St) : Option (Nst × List Src) :=
 match iU S nb sy M (bV S nb sy C []).2 with
 | some (bx, pl1) => (jv S nb sy 200 0 pl1).map fun p => (⟨(bV S nb sy C []).1, bx, p.1⟩, p.2)
 | none => none
def nC (S : St) (nb : Nat) (pl : List Src) : List Nat := pl.filterMap fun
 | .ob o => match S.ob o with
   | .row _ _ _ .own _ => if o < nb then some o else none
   | .fleet _ _ _ _ => if o < nb then some o else none
   | _ => none
 | _ => none
def leM : Md → Md → Bool
 | .own, _ => true
 | .rd, .own => false
 | .rd, _ => true
 | .lent, .lent => true
 | .lent, _ => false
def leO (c : Bool) : OSh → OSh → Bool
 | .row e t m, .row e' t' m' => decide (e = e' ∧ t = t') && leM m m'
 | .fleet e d, .fleet e' d' => decide (e = e') && (decide (d = d') || (c && decide (d.lent = d')))
 | a, b => decide (a = b)
def ti (c : Bool) : List OSh → List OSh → Bool
 | [], [] => true
 | a :: as, b :: bs => leO c a b && ti c as bs
 | _, _ => false
def leN (c : Bool) (a b : NSh) : Bool := decide (a.slots = b.slots) && decide (a.boxes.map (·.1) = b.boxes.map (·.1)) && ti c (a.boxes.map (·.2)) (b.boxes.map (·.2)) && ti c a.news b.news
def oD (e : Ek) (s : NSh) : List (Ek × NSh) → Nat → Option Nat
 | [], _ => none
 | (e', s') :: r, i => if e = e' ∧ leN false s s' = true then some i else oD e s r (i + 1)
@[reducible] def fC : List (List Ty) → Type
 | [] => Empty
 | [c] => HL c
 | c :: d :: r => HL c ⊕ fC (d :: r)
def yK : (cs : List (List Ty)) → Nat → List Dyn → Option (fC cs)
 | [c], 0, ds => mR c ds
 | c :: _ :: _, 0, ds => (mR c ds).map .inl
 | _ :: d :: r, i + 1, ds => (yK (d :: r) i ds).map .inr
 | _, _, _ => none
def bT {α β R : Type} (x : α ⊕ β) (f : α → R) (g : β → R) : R :=
 match x with
 | .inl a => f a
 | .inr b => g b
def ej {R : Type} : (cs : List (List Ty)) → fC cs → (Nat → List Dyn → R) → R
 | [], x, _ => nomatch x
 | [c], x, f => f 0 (toD c x)
 | c :: d :: r, x, f => bT x (fun x => f 0 (toD c x)) (fun y => ej (d :: r) y (fun i => f (i + 1)))
def bit (b t : Nat) : Bool := b.testBit t
def EM : Operand → Nat
 | .tmp t => 1 <<< t
 | _ => 0
def J8 (xs : List Operand) : Nat := xs.foldl (fun b x => b ||| EM x) 0
def LX (a b : Nat) : Nat := a ^^^ (a &&& b)
def BU (all : List Oper) : List Oper → Nat → Nat
 | [], out => out
 | o :: os, out =>
   let l := BU all os out
   let l := match o.dst with
    | some d => LX l (1 <<< d)
    | none => l
   let l := l ||| J8 o.op.operands.toList
   match o.guard with
   | some (g, _) => match (all[g]?).bind (·.dst) with
     | some d => l ||| (1 <<< d)
     | none => l
   | none => l
def AF (ex : List (Nat × Nat)) (i : Nat) : Nat :=
 match ex with
 | [] => 0
 | (j, b) :: r => if j = i then b else AF r i
def mS : Code → List (Nat × Nat) → Nat → Nat → Nat
 | .region _ ops _, _, _, out => BU ops.toList ops.toList out
 | .seq a b, ex, rl, out => mS a ex rl (mS b ex rl out)
 | .cond c t e, ex, rl, out => EM c ||| mS t ex rl out ||| mS e ex rl out
 | .block i b, ex, rl, out => mS b ((i, out) :: ex) rl out
 | .loop b, ex, rl, _ => mS b ex rl 0
 | .scope b, ex, rl, out => mS b ex rl out
 | .rangeFunc f _ a b, ex, rl, out => EM f ||| mS a ex rl (mS b ex rl 0) ||| out
 | .exit i, ex, _, _ => AF ex i
 | .ret, _, rl, _ => rl
 | _, _, _, out => out
def jw : List Oper → Nat
 | [] => 0
 | o :: os => (match o.dst with | some d => 1 <<< d | none => 0) ||| jw os
def im : Code → Nat
 | .region _ ops _ => jw ops.toList
 | .seq a b => im a ||| im b
 | .cond _ t e => im t ||| im e
 | .block _ b => im b
 | .loop b => im b
 | .scope b => im b
 | .rangeFunc _ ps a b => ps.toList.foldl (fun x p => x ||| (1 <<< p)) 0 ||| im a ||| im b
 | _ => 0
def ug (n : Nat) (b : Nat) : List Nat := (List.range n).filter (bit b)
structure Alg (R : Type) where
 fail : String → R
 miss : Nat → NSh → R
 ite : Bool → R → R → R
 guard : (p : Prop) → Decidable p → R → R
 bind : (cs : List (List Ty)) → Option (fC cs) → (Nat → List Dyn → R) → R
 bind2 : (cs ds : List (List Ty)) → Option (fC cs ⊕ fC ds) → (Nat → List Dyn → R) → (Nat → List Dyn → R) → R
 both : List Nat → (Unit → R) → (Unit → R) → R
noncomputable def EN {α : Type} (x y : Option α) : Option α := open Classical in if x = y then x else none
theorem AG {α : Type} {x y : Option α} {o : α} (h : EN x y = some o) : x = some o ∧ y = some o := by
 unfold EN at h
 split at h
 ·rename_i e; exact ⟨h, e ▸ h⟩
 ·cases h
def ai {α : Type} (b : Bool) (x y : Option α) : Option α :=
 match b with
 | true => x
 | false => y
noncomputable def ax (α : Type) : Alg (Option α) :=
 ⟨fun _ => none, fun _ _ => none, ai, fun p d x => if p then x else none, fun cs o f => o.bind fun y => ej cs y f,
  fun cs ds o f g => o.bind fun y => bT y (fun a => ej cs a f) (fun b => ej ds b g), fun _ x y => EN (x ()) (y ())⟩
def aP {H E : Type} : Nat → (H → Option (H ⊕ E)) → H → Option E
 | 0, _, _ => none
 | k + 1, step, x => (step x).bind fun y => bT y (fun h => aP k step h) some
def yL {α H E : Type} : List α → (H → α → Option (H ⊕ E)) → H → Option (H ⊕ E)
 | [], _, h => some (.inl h)
 | a :: l, step, h => (step h a).bind fun y => bT y (fun h => yL l step h) (fun e => some (.inr e))
def jq {α H : Type} : List α → (H → α → Option H) → H → Option H
 | [], _, h => some h
 | a :: l, step, h => (step h a).bind fun h => jq l step h
def kA {α : Type} (xs : List α) : List (Int × α) := (xs.zipIdx.map fun p => ((p.2 : Int), p.1)).reverse
def fX (S : St) (dfs : Nat) (N : Nst) : St :=
 ⟨(S.slots.filter fun p => !(bit dfs p.1)) ++ N.slots, N.boxes.foldl (fun l p => l.set p.1 p.2) S.obs ++ N.news, N.boxes.map (·.1) ++ S.mods, S.pl⟩
structure Con where
 fn : Nat
 pat : NSh
 out : List NSh
 f : Nat → HL pat.codes → Option (fC (out.map NSh.codes))
def qD (S : St) (pl : List Nat) (i : Nat) : Nat := if i < pl.length then pl.getD i 0 else S.obs.length + (i - pl.length)
def mvA (g : Nat → Nat) : At → At
 | .sl o => .sl (g o)
 | .ptr b off => .ptr (g b) off
 | .pel o k off => .pel (g o) k off
 | .asl b off n => .asl (g b) off n
 | a => a
def mvV (g : Nat → Nat) : V1 → V1
 | .a x => .a (mvA g x)
 | .fn f fs cs => .fn f (fs.map (mvA g)) (cs.map (mvA g))
 | .st ls => .st (ls.map (mvA g))
 | v => v
def mvS (g : Nat → Nat) : SV → SV
 | .v x => .v (mvV g x)
 | .tup xs => .tup (xs.map (mvV g))
def mvO (g : Nat → Nat) : Ob → Ob
 | .box T ls => .box T (ls.map (mvA g))
 | o => o
def nD : List (Nat × SV) → Option (List V1)
 | [] => some []
 | (_, .v x) :: l => (nD l).map (x :: ·)
 | (_, .tup _) :: _ => none
def results : List (Nat × SV) → Option SV
 | [(_, v)] => some v
 | l => (nD l).map .tup
def rO : Ob → Bool
 | .fleet _ d _ _ => !d.l
 | .row _ _ _ .lent _ => false
 | _ => true
def kW : List Nat → Bool
 | [] => true
 | x :: l => !(l.elem x) && kW l
def xz (S : St) (pl : List Nat) (N : Nst) : Option (St × SV) :=
 if (N.boxes.all fun p => decide (p.1 < pl.length) && rO p.2) && N.news.all rO && kW (N.boxes.map fun p => qD S pl p.1) then
  (results (N.slots.map fun p => (p.1, mvS (qD S pl) p.2))).map fun v =>
   (⟨S.slots, N.boxes.foldl (fun l p => l.set (qD S pl p.1) (mvO (qD S pl) p.2)) S.obs ++ N.news.map (mvO (qD S pl)), N.boxes.map (fun p => qD S pl p.1) ++ S.mods, S.pl⟩, v)
 else none
def br (S : St) : List Nat → List OSh → St
 | o :: pl, .row _ _ .rd :: os => match S.ob o with
   | .row e t xs .own fu => br (S.setOb o (.row e t xs .rd fu)) pl os
   | _ => br S pl os
 | _ :: pl, _ :: os => br S pl os
 | _, _ => S
def cE : List Src → List Ob
 | [] => []
 | .nil e t :: pl => .row e t [] .own false :: cE pl
 | .nilr e d :: pl => .fleet e d [] none :: cE pl
 | .ob _ :: pl => .gone :: cE pl
def plB (n : Nat) : List Src → Bool
 | [] => true
 | .ob o :: pl => decide (o < n) && plB n pl
 | .nil _ _ :: pl => plB n pl
 | .nilr _ _ :: pl => plB n pl
def gE : Nat → List Src → List Nat
 | _, [] => []
 | n, .nil _ _ :: pl => n :: gE (n + 1) pl
 | n, .nilr _ _ :: pl => n :: gE (n + 1) pl
 | n, .ob o :: pl => o :: gE (n + 1) pl
def oE (f : Nat) (s : NSh) : List Con → Option Con
 | [] => none
 | c :: r => if c.fn = f ∧ leN true s c.pat = true then some c else oE f s r
def bW {α : Type} : Nat → List α → List (Nat × α)
 | _, [] => []
 | i, x :: xs => (i, x) :: bW (i + 1) xs
def cP (P : Program) (f : Nat) (xs : List SV) : List SV :=
 match P.funcs[f]? with
 | some fn => xs.zipIdx.map fun (x, i) => match fn.params[i]? with
   | some t => ci P t x
   | none => x
 | none => xs
def IA : At → Bool
 | .pel _ _ _ => false
 | _ => true
def iq : Ob → Bool
 | .box _ ls => ls.all IA
 | .row _ _ _ m fu => decide (m ≠ .lent) && !fu
 | _ => false
def fy (S : St) (o e : Nat) (d : Kd) (xs : List (bm d).den) (k : Nat) (os : List Ob) : St :=
 { S with obs := S.obs.set o (.fleet e d xs (some k)) ++ os.map (fun ob => mvO (· + S.obs.length) (aZ d.l ob)), mods := o :: S.mods }
def eW (S : St) (o e : Nat) (d : Kd) (xs : List (bm d).den) (b n : Nat) : St :=
 { S with obs := (S.obs.zipIdx.map fun p => if b ≤ p.2 ∧ p.2 < b + n then .gone else p.1).set o (.fleet e d xs none) }
def toP : (ts : List Ty) → HL ts → (yz ts).den
 | [], _ => ()
 | [_], x => x
 | _ :: u :: ts, x => (x.1, toP (u :: ts) x.2)
def EO (d : Kd) (ds : List Dyn) : Option (bm d).den := (mR (Ey d) ds).map (toP (Ey d))
def tj : Ob → Bool
 | .box _ _ => true
 | .row _ _ _ .own _ => true
 | _ => false
def cK (S : St) : List Nat → St
 | [] => S
 | o :: l => if tj (S.ob o) then cK (S.setOb o .gone) l else cK S l
def xA : List Ob → Bool
 | .box _ _ :: _ => true
 | _ => false
def EP (b : Nat) : List Src → Bool
 | .ob b' :: _ => decide (b' = b)
 | _ => false
def xB (S : St) (o e : Nat) (d : Kd) (put : (bm d).den → List (bm d).den) (b : Nat) : Option St :=
 match uf 0 [] [] [0] { S with slots := [(0, .v (.a (.ptr b 0)))] } with
 | some (N, pl) => if (plB S.obs.length pl && ti false (N.news.map shO) (CP d) && !d.l && EP b pl) = true then
  match EO d (N.news.flatMap coO) with
  | some x => match jN d x with
    | some os => if (os.all iq && xA os) = true then
     some ((cK (S.add (cE pl)) (gE S.obs.length pl)).setOb o (.fleet e d (put x) none)) else none
    | none => none
  | none => none
   else none
 | none => none
abbrev Inl := Nat → List SV → (R : Type) → Alg R → St → (St → SV → R) → R
section
variable {R : Type} (A : Alg R) (P : Program) (Γ : List Con) (inl : List Nat) (H : Inl) (k : Nat)
def AH (f : Nat) : String := match P.funcs[f]? with | some fn => fn.name | none => "?"
def EQ (S : St) : List Nat := (S.slots.filter fun p => decide (rG ≤ p.1)).map fun p => p.1 % shift
def AI (S : St) (gs : List Nat) : List (Nat × SV) := gs.filterMap fun b => (yD S.slots b).map fun v => (rG + b, v)
def BV (gs : List Nat) (S : St) (f : Nat) (xs : List SV) (K : St → SV → R) : R :=
 match uf 0 [] [] (List.range xs.length ++ gs.map (rG + ·)) { S with slots := bW 0 xs ++ AI S gs } with
 | some (N, pl) => if N.slots.map (·.1) = List.range xs.length ++ gs.map (rG + ·) ∧ plB S.obs.length pl = true ∧ (gs.all (fun b => decide (b < shift)) && decide (xs.length ≤ rG)) = true then match oE f (shN N) Γ with
   | some c => match mR c.pat.codes (coN N) with
     | some x => A.bind (c.out.map NSh.codes) (c.f k x) fun i ds => match c.out[i]? with
       | some s => match fiN s ds with
         | some N' => match xz (br (S.add (cE pl)) (gE S.obs.length pl) c.pat.news) (gE S.obs.length pl) N' with
           | some (S', v) => match c.out with
             | [_] => K S' v
             | _ => K (S'.kid i) v
           | none => A.fail "results"
         | none => A.fail "a result's shape"
       | none => A.fail "no such class"
     | none => A.fail ("arguments of " ++ AH P f)
   | none => A.miss f (shN N)
   else A.fail "arguments that can't be told"
 | none => A.fail "arguments"
def J9 (S : St) (f : Nat) (xs : List SV) : Bool :=
 match uf 0 [] [] (List.range xs.length) { S with slots := bW 0 xs } with
 | some (N, _) => (oE f (shN N) Γ).isSome
 | none => false
def rP (X : St → List SV → (St → SV → R) → R) : List Nat → St → List SV → (St → SV → R) → R
 | [], S, xs, K => X S xs K
 | j :: js, S, xs, K => match xs[j]? with
   | some (.v (.a (.pel o k off))) => match S.ob o with
     | .fleet e d ys none => match jN d (at_ (bm d) ys k) with
       | some os => if os.all iq = true then
        A.guard (0 ≤ k ∧ k < (ys.length : Int)) inferInstance <|
         rP X js { fy S o e d ys k.toNat os with mods := [] } (xs.set j (.v (.a (.ptr S.obs.length off)))) fun S2 v =>
          if S2.mods.elem o then A.fail "a row of pointers is written to" else
          if (S2.mods.all fun i => decide (i < S.obs.length) || decide (S.obs.length + os.length ≤ i)) = true then K { eW S2 o e d ys S.obs.length os.length with mods := S2.mods ++ S.mods } v else
          match xB S2 o e d (fun x => ys.set k.toNat x) S.obs.length with
           | some S3 => K { S3 with mods := S3.mods ++ o :: S.mods } v
           | none => A.fail "what a row points to has other parts"
         else A.fail "parts of what a row points to"
       | none => A.fail "what a row points to"
     | _ => A.fail "a pointer into what"
   | _ => rP X js S xs K
def AJ (S : St) (f : Nat) (xs : List SV) (K : St → SV → R) : R :=
 if (EQ S).isEmpty || J9 Γ S f xs then BV A P Γ k [] S f xs K else BV A P Γ k (EQ S) S f xs K
def nE (S : St) (f : Nat) (xs : List SV) (K : St → SV → R) : R :=
 rP A (fun S xs K => AJ A P Γ k S f xs K) (List.range xs.length) S (cP P f xs) K
def dW (S : St) : SV → St × SV
 | .v (.a (.nils e t)) => (S.add [.row e t [] .own false], .v (.a (.sl S.obs.length)))
 | .v (.a (.nilr e d)) => (S.add [.fleet e d [] none], .v (.a (.sl S.obs.length)))
 | v => (S, v)
def kB (S : St) : List At → St
 | [] => S
 | .sl o :: r => match S.ob o with
   | .row e t xs .own fu => kB (S.setOb o (.row e t xs .rd fu)) r
   | _ => kB S r
 | _ :: r => kB S r
def xC (S : St) : SV → St
 | .v (.a x) => kB S [x]
 | .v (.st ls) => kB S ls
 | _ => S
def qE (S : St) (vs : List (Nat × SV)) : St := vs.foldl (fun S p => xC S p.2) S
def rQ (P : Program) (t : TypeId) (n : Nat) : Option (Array Value) :=
 match P.underlying t with
 | some (.slice e) => match P.info? e with
   | some i => (if n * i.size = 0 then some #[] else i.zero.map (·.cells)).map fun z => (Array.range (n * i.size)).map (z[· % z.size]!)
   | none => none
 | _ => none
def lC (S : St) (P : Program) (e : TypeId) (u : Ty) : List (Nat × SV) → Nat → Option (List u.den)
 | [], _ => some []
 | (i, v) :: ps, j => if i = j then match (sQ (ci P e v)).bind (mW S u) with
  | some (x, []) => (lC S P e u ps (j + 1)).map (x :: ·)
  | _ => none
   else none
def cj (s : ByteArray) : List Int := s.data.toList.map fun b => (b.toNat : Int)
def AK (S : St) (t : TypeId) (x y : SV) (K : St → SV → R) : R :=
 match sQ (ci P t y) with
 | none => A.fail "store of what"
 | some us => if cellsOf P t = some (bU us) then match x with
   | .v (.a (.ptr b off)) => match S.ob b with
     | .box T ls => match Az ls off us with
       | some ls' => K (S.setOb b (.box T ls')) (.v (.a .un))
       | none => A.fail "store: parts"
     | _ => A.fail "store: no variable"
   | .v (.elp o sz i off) => match S.ob o with
     | .row e u xs .own _ => match Az (bn .rd u (at_ u xs i) 0).1 off us with
       | some ls' => match mW S u ls' with
         | some (x', []) => if u.flat then K (S.setOb o (.row e u (xs.set i.toNat x') .own false)) (.v (.a .un)) else A.fail "store: deep"
         | _ => A.fail "store: pack"
       | none => A.fail "store: parts of an element"
     | _ => A.fail "store into what is not owned"
   | .v (.arp b off u n i) => match S.ob b with
     | .box T ls => match gC ls off with
       | some (.fl (.arr n' u') vec :: _) => if u' = u ∧ n' = n ∧ u'.flat = true ∧ 0 < u'.sz then match mW S u' us with
        | some (x', []) => match Az ls off [.fl (.arr n' u') (dG vec i x')] with
          | some ls' => K (S.setOb b (.box T ls')) (.v (.a .un))
          | none => A.fail "store: array"
        | _ => A.fail "store: array's pack"
         else A.fail "store: array's type"
       | _ => A.fail "store: no array"
     | _ => A.fail "store: no array's variable"
   | _ => A.fail "store: where"
   else A.fail "store: size"
def St.cutPl (inl : List Nat) (S : St) : Option St := match S.pl with
 | .t p => some (S.to p)
 | _ => none
def K6 (x : R) : R := x
def uh (S : St) (t : TypeId) (s x : SV) (K : St → SV → R) : R :=
 let (S, s) := dW S (ci P t s)
 match s, bp P t with
 | .v (.a (.sl o)), some (e, sz, by_, some z) => match S.ob o with
   | .row e' u xs m fu =>
     let go (ys : List u.den) : R :=
      A.guard ((xs.length + ys.length) * by_ ≤ 140737488355328) inferInstance <|
       if m = .own then K (({ S with mods := o :: S.mods, obs := S.obs.set o .gone } : St).add [.row e' u (xs ++ ys) .own false]) (.v (.a (.sl S.obs.length)))
       else if fu = true then K (S.add [.row e' u (xs ++ ys) m false]) (.v (.a (.sl S.obs.length))) else A.fail "append to what is read"
     if e' = e ∧ sz = u.sz ∧ 0 < sz ∧ 0 < by_ ∧ z.cells.size = sz ∧ e < mB then match ci P t x with
      | .v (.a (.nils _ _)) => A.fail "append of nil"
      | .v (.a (.sl o')) => if o' = o then A.fail "append of itself" else match S.ob o' with
        | .row _ u' ys m' _ => if u.flat = true ∨ m' = .rd ∨ (m' = .own) then match ct (a := .sl 0 u') (b := .sl 0 u) ys with
         | some ys => go ys
         | none => A.fail "append: types"
          else A.fail "append of lent"
        | _ => A.fail "append of no row"
      | _ => A.fail "append of what"
     else A.fail "append: sizes"
   | _ => A.fail "append to no row"
 | _, _ => A.fail "append to what"
structure Aft where
 p : Prop
 dp : Decidable p
 S : St
 v : SV
def AL : SV → Option (Nat × Bool)
 | .v (.a (.sl o)) => some (o, false)
 | .v (.cutf o) => some (o, true)
 | _ => none
def IB (S : St) (t : TypeId) (s x : SV) : Option Aft :=
 match AL s, bp P t, ci P t x with
 | some (o, c), some (e, sz, by_, some z), .v (.a (.sl o')) => match S.ob o, S.ob o' with
   | .fleet e1 d xs none, .fleet e2 d2 ys none => if h : d2 = d then
    if e1 = e ∧ e2 = e ∧ sz = 1 ∧ 0 < by_ ∧ z.cells.size = 1 ∧ e < mB ∧ o' ≠ o then
     some ⟨(xs.length + (h ▸ ys : List (bm d).den).length) * by_ ≤ 140737488355328 ∧ (c = true → (h ▸ ys : List (bm d).den).length ≠ 0), inferInstance,
      ({ S with mods := o' :: o :: S.mods, obs := (S.obs.set o .gone).set o' .gone } : St).add [.fleet e d (xs ++ (h ▸ ys : List (bm d).den)) none], .v (.a (.sl S.obs.length))⟩
    else none
     else none
   | _, _ => none
 | _, _, _ => none
def xD (S : St) (t : TypeId) (s x : SV) (K : St → SV → R) : R :=
 match IB P (dW S (ci P t s)).1 t (dW S (ci P t s)).2 x with
 | some q => A.guard q.p q.dp (K q.S q.v)
 | none => uh A P S t s x K
def vCp {α : Type} {n m : Nat} (v : Vector α n) (y : Vector α m) : Vector α n := ⟨(y.toList.take n ++ v.toList.drop m).toArray, by simp; omega⟩
def ER (S : St) (t : TypeId) (s x : SV) (K : St → SV → R) : R :=
 match s, x with
 | .v (.a (.asl b off n)), .v (.a (.asl c off2 m)) => match S.ob b, S.ob c with
   | .box T ls, .box _ ls2 => match gC ls off, gC ls2 off2 with
     | some (.fl (.arr n' u) v :: _), some (.fl (.arr m' u') y :: _) =>
       if n' = n ∧ m' = m ∧ m ≤ n ∧ m ≤ 9223372036854775807 ∧ cg P t = some u.sz then match ct (a := .arr m' u') (b := .arr m' u) y with
        | some y => match Az ls off [.fl (.arr n' u) (vCp v y)] with
          | some ls' => K (S.setOb b (.box T ls')) (.v (.a (.fl (.int .i64) (m : Int))))
          | none => A.fail "copy: array"
        | none => A.fail "copy: types"
       else A.fail "copy: sizes"
     | _, _ => A.fail "copy: no arrays"
   | _, _ => A.fail "copy: no variables"
 | _, _ => A.fail "a builtin: copy"
def Ka (S : St) (ty : TypeId) (op : Op) (K : St → SV → R) : R :=
 match op with
 | .alloc t => match yB P t with
   | some ls => K (S.add [.box t ls]) (.v (.a (.ptr S.obs.length 0)))
   | none => A.fail "alloc"
 | .box t x => match (opA S x).bind fun v => sQ (ci P t v) with
   | some ls => if cellsOf P t = some (bU ls) then K (S.add [.box t ls]) (.v (.a (.ptr S.obs.length 0))) else A.fail "box: size"
   | none => A.fail "box"
 | .store t x y => match opA S x, opA S y with
   | some x, some y => AK A P S t x y K
   | _, _ => A.fail "store"
 | .buildSlice t n ps => match bp P t, parts S ps.toList with
   | some (e, sz, _, some z), some vs => match yA P depth e with
     | some u =>
       let S := qE S vs
       if sz = u.sz ∧ vs.length = n ∧ n * sz ≤ 16777216 ∧ n ≤ 16777216 ∧ (rQ P t n).isSome = true ∧ e < mB then match lC S P e u vs 0 with
        | some xs => K (S.add [.row e u xs .own false]) (.v (.a (.sl S.obs.length)))
        | none => A.fail "a slice's elements"
       else A.fail "a slice's size"
     | none => match EA e, vs with
       | some d, [(0, .v (.a (.ptr b 0)))] => if sz = 1 ∧ n = 1 ∧ (rQ P t 1).isSome = true ∧ e < mB then
        match xB (S.add [.fleet e d [(bm d).dflt] (some 0)]) S.obs.length e d (fun x => [x]) b with
        | some S' => K S' (.v (.a (.sl S.obs.length)))
        | none => A.fail "a row of what is pointed to"
         else A.fail "a row of a pointer: size"
       | _, _ => A.fail "a slice's type"
   | _, _ => A.fail "a slice"
 | .makeSlice t x y => match opA S x, opA S y, bp P t with
   | some (.v (.a (.fl (.int _) n))), some (.v (.a (.fl (.int _) c))), some (e, sz, by_, some z) => match yA P depth e with
     | some u => if sz = u.sz ∧ u.flat = true ∧ yC P e u = true ∧ e < mB then
      A.guard (0 ≤ (n : Int) ∧ (c : Int) = n ∧ (n : Int).toNat * by_ ≤ 140737488355328 ∧ (n : Int) ≤ 9223372036854775807) inferInstance
       (K (S.add [.row e u (List.replicate (n : Int).toNat u.dflt) .own false]) (.v (.a (.sl S.obs.length))))
       else A.fail "make: size"
     | none => A.fail "make: type"
   | _, _, _ => A.fail "make"
 | .convert s d x => match opA S x with
   | some (.v (.a (.fl .str b))) => match P.underlying d with
     | some (.slice e) => if nr P d s = true then A.guard (b.size ≤ 9223372036854775807) inferInstance (K (S.add [.row (mB + e) (.int .u8) (cj b) .own false]) (.v (.a (.sl S.obs.length)))) else A.fail "convert a string to what"
     | _ => A.fail "convert a string"
   | _ => A.fail "convert"
 | .slice t x l h m => match opA S x with
   | some (.v (.a (.sl o))) => match S.ob o with
     | .row e u xs .own fu => match S.cutPl inl, l, h, m with
       | some S2, none, some y, none => match opA S y, cg P t with
         | some (.v (.a (.fl (.int .i64) hi))), some sz => if sz = u.sz ∧ e < mB then K6 (A.guard (0 ≤ hi ∧ hi ≤ (xs.length : Int)) inferInstance (K (({ S2 with mods := o :: S2.mods, obs := S2.obs.set o .gone } : St).add [.row e u (xs.take hi.toNat) .own false]) (.v (.a (.sl S2.obs.length))))) else A.fail "cut: sizes"
         | _, _ => A.fail "cut: what"
       | _, _, _, _ =>
         let S1 := S.setOb o (.row e u xs .rd fu)
         match opO S1 l, opO S1 h, opO S1 m with
         | some l, some h, some m => match EG P S1 t (.v (.a (.sl o))) l h m with
           | some q => A.guard q.p q.dp (K (S1.add q.news) q.v)
           | none => A.fail "cut"
         | _, _, _ => A.fail "cut: bounds"
     | _ => A.fail "cut of no row"
   | some (.v (.a (.nils e u))) => A.fail "cut of nil"
   | _ => A.fail "cut of what"
 | .call { callee := .builtin .append, args, argTypes } => match args.toList, argTypes.toList with
   | [s, x], [t, t'] => match opA S s, opA S x with
     | some s, some x => if t = t' then xD A P S t s x K else A.fail "append: types"
     | _, _ => A.fail "append"
   | _, _ => A.fail "append: arguments"
 | .call { callee := .builtin .copy, args, argTypes } => match args.toList, argTypes.toList with
   | [s, x], [t, t'] => match opA S s, opA S x with
     | some s, some x => ER A P S t s x K
     | _, _ => A.fail "copy"
   | _, _ => A.fail "copy: arguments"
 | .call { callee := .value x, args, .. } => match opA S x, ue S args.toList with
   | some (.v (.fn f fs cs)), some xs =>
     if tT P f then
      let xs := fs.map (fun a => .v (.a a)) ++ xs ++ cs.map (fun a => .v (.a a))
      if inl.elem f then H f (cP P f xs) R A S K else nE A P Γ k S f xs K
     else A.fail "a call of what has no body"
   | _, _ => A.fail "a call of what"
 | .call { callee := .builtin b, .. } => A.fail "a builtin"
 | .lookup .. => A.fail "lookup"
 | .load .. => A.fail "load"
 | .index .. => A.fail "index"
 | .indexAddr .. => A.fail "indexAddr"
 | .build .. => A.fail "build"
 | .binOp .. => A.fail "binOp"
 | .move .. => A.fail "move"
 | .field .. => A.fail "field"
 | .fieldAddr .. => A.fail "fieldAddr"
 | .nilCheck .. => A.fail "nilCheck"
 | .makeFunc .. => A.fail "makeFunc"
 | .pick .. => A.fail "pick"
 | .extract .. => A.fail "extract"
 | .range .. => A.fail "range"
 | .next .. => A.fail "next"
 | .mapUpdate .. => A.fail "mapUpdate"
 | .makeMap .. => A.fail "makeMap"
 | .makeInterface .. => A.fail "makeInterface"
 | _ => A.fail "operation"
def AM (S : St) (ty : TypeId) (op : Op) (K : St → SV → R) : R :=
 match qC P S ty op with
 | some q => A.guard q.p q.dp (K (S.add q.news) q.v)
 | none => Ka A P Γ inl H k S ty op K
def nF (ops : List Oper) (S : St) : Option (Nat × Bool) → Option (Bool ⊕ (Nat × Bool × Bool))
 | none => some (.inl true)
 | some (g, want) => match (ops[g]?).bind (·.dst) with
   | some d => match aA S.slots d with
     | some (.v (.a (.lit b))) => some (.inl (b == want))
     | some (.v (.a (.fl .bool b))) => some (.inr (d, b, want))
     | some (.v (.a .un)) => some (.inl false)
     | _ => none
   | none => none
def ES : SV := .v (.a .un)
def mf (all : List Oper) : List Oper → St → (St → R) → R
 | [], S, K => K S
 | o :: os, S, K =>
   let yes (S : St) : R := AM A P Γ inl H k S o.type o.op fun S' v => mf all os (S'.put o.dst v) K
   let no (S : St) : R := mf all os (S.put o.dst ES) K
   match nF all S o.guard with
   | some (.inl true) => yes S
   | some (.inl false) => no S
   | some (.inr (d, b, want)) =>
     let t := (S.put (some d) (.lit true)).kid 0; let f := (S.put (some d) (.lit false)).kid 1
     if want then A.ite b (yes t) (no f) else A.ite b (no t) (yes f)
   | none => A.fail "a guard"
def aC (S : St) (st : List Nat) : St := { S with obs := S.obs.zipIdx.map fun p => if st.elem p.2 then p.1 else .gone }
def HJ (st : List Nat) : V1 → Bool
 | .elp o _ _ _ => st.elem o
 | _ => true
def yM (st : List Nat) : SV → Bool
 | .v x => HJ st x
 | .tup xs => xs.all (HJ st)
def exl (ex : List (Nat × List Nat)) (i : Nat) : List Nat := (ex.filter fun p => p.1 == i).flatMap (·.2)
def BW (S : St) (st e : List Nat) (o : Oper) : Option Qt :=
 match qC P (aC S st) o.type o.op with
 | some q => if yM st q.v = true then some q else none
 | none => match qC P (aC S (st ++ e)) o.type o.op with
   | some q => if yM (st ++ e) q.v = true ∧ q.news.isEmpty = true then some q else none
   | none => none
def ui (can : List Nat → Nat → Bool) (ops : Array Oper) (ex : List (Nat × List Nat)) (dead : List Nat) (S : St) (st l : List Nat) : List Nat → Option (Nat × Oper × Option Qt)
 | [] => none
 | j :: r => match ops.toList[j]? with
   | some o => if can l j && !(dead.elem j) then match nF ops.toList S o.guard with
    | some (.inl true) => match BW P S st (exl ex j) o with
      | some q => some (j, o, some q)
      | none => ui can ops ex dead S st l r
    | some (.inl false) => some (j, o, none)
    | _ => ui can ops ex dead S st l r
     else ui can ops ex dead S st l r
   | none => none
def yN (ops : Array Oper) (S : St) : List Nat → Option (Nat × Bool)
 | [] => none
 | j :: r => match ops.toList[j]? with
   | some o => match nF ops.toList S o.guard with
     | some (.inr (d, b, _)) => some (d, b)
     | _ => yN ops S r
   | none => none
def K7 (a b : List Nat) : Bool := a.all fun x => !(b.elem x)
def K8 (ops : Array Oper) (ex : List (Nat × List Nat)) (dead : List Nat) (j : Nat) (M : List Nat) : Bool := ex.all fun p => !(frB ops j p.1) || (!(dead.elem p.1) && K7 M p.2)
def uj (ops : Array Oper) (ex : List (Nat × List Nat)) (j : Nat) : List Nat := (ex.filter fun p => !(frB ops j p.1)).map (·.1)
def yO (rs : List Nat) (act : Nat → St → R) : List Nat → St → R
 | [], _ => A.fail "a region: nothing comes up"
 | [j], S => act j S
 | j :: r, S => A.both rs (fun _ => act j (S.kid 0)) (fun _ => yO rs act r (S.kid 1))
def jP (rdy : List Nat → List Nat) (can : List Nat → Nat → Bool) (ops : Array Oper) (pre : Option (St → R)) (q : Nat) (ex : List (Nat × List Nat)) : Nat → Nat → List Nat → List Nat → List Nat → St → (St → R) → R
 | 0, _, _, _, _, _, _ => A.fail "a region's end"
 | fu + 1, fuel, l, dead, st, S, K =>
   let rs := rdy l
   match fuel with
   | 0 => if rs = [] then K S else A.fail "a region isn't at its end"
   | fuel + 1 =>
     match ui P can ops ex dead S st l rs with
     | some (j, o, some qq) => A.guard qq.p qq.dp (jP rdy can ops pre q ex fu fuel (j :: l) dead (st ++ List.range' S.obs.length qq.news.length) ((S.add qq.news).put o.dst qq.v) K)
     | some (j, o, none) => jP rdy can ops pre q ex fu fuel (j :: l) dead st (S.put o.dst ES) K
     | none => match yN ops S rs with
       | some (d, b) => A.ite b (jP rdy can ops pre q ex fu (fuel + 1) l dead st ((S.put (some d) (.lit true)).kid 0) K) (jP rdy can ops pre q ex fu (fuel + 1) l dead st ((S.put (some d) (.lit false)).kid 1) K)
       | none => yO A rs (fun j S => match ops.toList[j]? with
        | some o => match nF ops.toList S o.guard with
          | some (.inl true) => if j = q then match pre with
           | some f => f S
           | none => if fuel = 0 ∧ rdy (j :: l) = [] then AM A P Γ inl H k S o.type o.op fun S' v => K (S'.put o.dst v) else A.fail "a region's last one isn't the last one"
            else AM A P Γ inl H k S o.type o.op fun S' v =>
             if pre.isSome = true ∨ (K7 S'.mods st && K8 ops ex dead j S'.mods) = true then jP rdy can ops pre q ex fu fuel (j :: l) (dead ++ uj ops ex j) st (S'.put o.dst v) K else A.fail "a region: what is read early is written"
          | _ => A.fail "a region's guard"
        | none => A.fail "a region's number") rs S
end
section
variable (P : Program) (Γ : List Con) (inl : List Nat) (H : Inl) (bk : List Bk) (k : Nat)
def LY (base : St) (dfs : Nat) (sy M : List Nat) (live : Nat) (S : St) : Option (Nst × List Src) :=
 uf base.obs.length sy M (ug 600 (live &&& dfs)) S
def ET (out : Nat) (ex : List (Nat × Nat)) (rl : Nat) : Ek → Nat
 | .normal => out
 | .exit i => AF ex i
 | .ret => rl
def Cls.T (c : Cls) : List (List Ty) := c.cls.map fun p => p.2.codes
def tk (base : St) (dfs : Nat) (c : Cls) (lv : Ek → Nat) (e : Ek) (S : St) : Option (fC c.T) :=
 match LY base dfs c.sy c.M (lv e) S with
 | some (N, pl) => if (nC S base.obs.length pl).all (c.M.elem ·) && (S.mods.filter (· < base.obs.length)).all (c.M.elem ·) then match oD e (shN N) c.cls 0 with
  | some i => yK c.T i (coN N)
  | none => none
   else none
 | none => none
def fD {R : Type} (A : Alg R) (base : St) (dfs : Nat) (cls : List (Ek × NSh)) (ps : List Plan) (K : Ek → St → R) (i : Nat) (ds : List Dyn) : R :=
 match cls[i]? with
 | some (e, s) => match fiN s ds with
   | some N => K e ((fX base dfs N).to (ps.getD i .nil))
   | none => A.fail "a class's parts"
 | none => A.fail "no such class"
def aQ (S : St) : St := { S with mods := [] }
abbrev Run := (R : Type) → Alg R → St → (Ek → St → R) → R
noncomputable def EU {R : Type} (A : Alg R) (S : St) (dfs : Nat) (lv : Ek → Nat) (c : Cls) (p : Plan) (ps : List Plan) (run : Run) (K : Ek → St → R) : R :=
 A.bind c.T (run _ (ax _) ((aQ S).to p) (tk (aQ S) dfs c lv)) (fD A S dfs c.cls ps K)
noncomputable def qF (S0 : St) (dfs : Nat) (lv : Ek → Nat) (run : Run) (hd oc : Cls) (hs : List Plan) (x : fC hd.T) : Option (fC hd.T ⊕ fC oc.T) :=
 ej hd.T x (fD (ax (fC hd.T ⊕ fC oc.T)) S0 dfs hd.cls hs fun _ S' => run _ (ax (fC hd.T ⊕ fC oc.T)) S' fun e S2 =>
  if e = .normal then (tk S0 dfs hd lv .normal S2).map .inl else (tk S0 dfs oc lv e S2).map .inr)
noncomputable def EV {R : Type} (A : Alg R) (S : St) (dfs : Nat) (lv : Ek → Nat) (run : Run) (K : Ek → St → R) (hd oc : Cls) (hs os : List Plan) : R :=
 A.bind oc.T ((tk (aQ S) dfs hd lv .normal (aQ S)).bind fun x0 => aP k (qF (aQ S) dfs lv run hd oc hs) x0) (fD A S dfs oc.cls os K)
noncomputable def yP (S0 : St) (run : Run) (hd : Cls) (hs : List Plan) (x : fC hd.T) : Option (fC hd.T) :=
 ej hd.T x (fD (ax (fC hd.T)) S0 0 hd.cls hs fun _ S' => run _ (ax (fC hd.T)) S' fun e S2 => if e = .normal then tk S0 0 hd (fun _ => 0) .normal S2 else none)
noncomputable def AN {R : Type} (A : Alg R) (S : St) {α : Type} (xs : List α) (run : α → Run) (K : Ek → St → R) (hd oc : Cls) (hs ns os : List Plan) : R :=
 match oc.cls with
 | [] => A.bind hd.T ((tk (aQ S) 0 hd (fun _ => 0) .normal (aQ S)).bind fun x0 => jq xs (fun h x => yP (aQ S) (run x) hd hs h) x0) (fD A S 0 hd.cls ns fun _ S' => K .normal S')
 | _ => A.bind2 hd.T oc.T ((tk (aQ S) 0 hd (fun _ => 0) .normal (aQ S)).bind fun x0 => yL xs (fun h x => qF (aQ S) 0 (fun _ => 0) (run x) hd oc hs h) x0)
  (fD A S 0 hd.cls ns fun _ S' => K .normal S') (fD A S 0 oc.cls os K)
def BX {R : Type} (A : Alg R) (ops : Array Oper) (S : St) (st : List Nat) (ex : List (Nat × List Nat)) (tab : List (Nat × Nat)) (p : Plan) (K : St → R) : R :=
 let last := ops.size - 1
 let q := if lA ops last then last else ops.size
 if (Region.noSelect ops = true ∧ (st ++ ex.flatMap (·.2)).all (fun i => decide (i < S.obs.length)) = true) ∧ yI ops tab = true then jP A P Γ inl H k (fun l => nA (gT ops.size l) tab 0) (fun l j => EL tab (gT ops.size l) j) ops none q ex (2 * ops.size + 2) ops.size [] [] st ((aQ S).to p) (fun S' => K { S' with mods := S'.mods ++ S.mods }) else A.fail "a region that selects"
def Kc (P : Program) (e : TypeId) (u : Ty) (m : Md) (y : u.den) (len : Nat) : Option Qt :=
 match cellsOf P e with
 | some n => ((Ay (bn (inner m) u y len).1 0 n).bind (iM P e)).map fun v => ⟨True, inferInstance, if (aL v).isEmpty then [] else (bn (inner m) u y len).2, v⟩
 | none => none
def rR (S : St) (b o : Nat) (e : TypeId) (u : Ty) (m : Md) (ps : List Nat) (asg body : Run) (x : Int × u.den) : Run := fun R A S' K =>
 if S'.mods.elem b || S'.mods.elem o then A.fail "a range over what is written" else
 match Kc P e u m x.2 S'.obs.length, ps with
 | some q, [p, r] =>
   asg R A (((S'.add q.news).put (some p) (.int .i64 x.1)).put (some r) q.v) fun e S2 =>
    if e = .normal then body R A S2 fun e S3 => K e { S3 with slots := S.slots } else A.fail "a range's assignment"
 | _, _ => A.fail "a range's element"
def xE (gf : Nat) : List Bk → Option Bk
 | [] => none
 | B :: r => if B.gf = gf then some B else xE gf r
def EW : Code → Bool
 | .region _ _ _ | .ret | .exit _ | .skip | .label _ => true
 | _ => false
noncomputable def exec {R : Type} (A : Alg R) (c : Code) (ex : List (Nat × Nat)) (rl out : Nat) (S : St) (K : Ek → St → R) : R :=
 match c with
 | .skip => K .normal S
 | .label _ => K .normal S
 | .ret => K .ret S
 | .exit i => K (.exit i) S
 | .scope b => exec A b ex rl out S K
 | .block i b => exec A b ((i, out) :: ex) rl out S fun e S' => if e = .exit i then K .normal S' else K e S'
 | .region _ ops d => if d then match S.pl with
  | .d st ex tab p => BX P Γ inl H k A ops S st ex tab p (K .normal)
  | .t (.d st ex tab p) => BX P Γ inl H k A ops (kB S ((ex.flatMap (·.2)).map .sl)) st ex tab p (K .normal)
  | _ => A.fail "a plan: draw"
   else mf A P Γ inl H k ops.toList ops.toList S (K .normal)
 | .cond c t e => match opA S c with
   | some (.v (.a (.lit b))) => if b then exec A t ex rl out S K else exec A e ex rl out S K
   | some (.v (.a (.fl .bool b))) => A.ite b (exec A t ex rl out (S.kid 0) K) (exec A e ex rl out (S.kid 1) K)
   | _ => A.fail "a test"
 | .seq a b =>
   let mid := mS b ex rl out
   let then_ : Ek → St → R := fun e S' => if e = .normal then exec A b ex rl out S' K else K e S'
   if EW a || EW b then exec A a ex rl mid S then_
   else match S.pl with
    | .n p => exec A a ex rl mid (S.to p) then_
    | .j c p ps => EU A S (im a) (ET mid ex rl) c p ps (fun _ A' S' K' => exec A' a ex rl mid S' K') then_
    | _ => A.fail "a plan: join"
 | .loop b =>
   let hl := mS (.loop b) ex rl out
   match S.pl with
   | .l hd oc hs os => EV k A S (im b) (ET hl ex rl) (fun _ A' S' K' => exec A' b ex rl hl S' K') K hd oc hs os
   | _ => A.fail "a plan: loop"
 | .rangeFunc g ps asg body =>
   match opA S g with
   | some (.v (.fn gf [] [.ptr b 0])) => match xE gf bk with
     | some B => match S.ob b with
       | .box _ [.sl o] => match S.ob o with
         | .row e u xs m _ => if B.Te = e ∧ cg P B.Ts = some u.sz then match S.pl with
          | .r hd oc hs ns os => AN A S (kA xs) (rR P S b o e u m ps.toList
           (fun _ A' S' K' => exec A' asg [] 0 (mS body ex rl 0) S' K') (fun _ A' S' K' => exec A' body ex rl 0 S' K')) K hd oc hs ns os
          | _ => A.fail "a plan: range"
           else A.fail "a range over other types"
         | _ => A.fail "a range over no row"
       | _ => A.fail "a range over no variable"
     | none => A.fail ("a range over a function " ++ toString gf ++ AH P gf)
   | some (.v (.fn gf _ _)) => A.fail ("a range over a function with " ++ toString gf ++ AH P gf)
   | _ => A.fail "a range over what"
 | .goto _ => A.fail "goto"
 | .refuse _ => A.fail "refused"
def rB : Nat := 100000
def kC (l : List (Nat × SV)) : List (Nat × SV) := l.map fun p => (p.1 + shift, p.2)
def gF (l : List (Nat × SV)) : List (Nat × SV) := (l.filter fun p => decide (shift ≤ p.1)).map fun p => (p.1 - shift, p.2)
def ldB (P : Program) (S : St) (t : TypeId) : SV → Option Qt
 | .v (.a (.ptr b off)) => ldS P S t (.v (.a (.ptr b off)))
 | _ => none
def uk (P : Program) (S : St) : List (ResultVar × TypeId) → Nat → Option (List (Nat × SV))
 | [], _ => some []
 | (.tmp u, t) :: l, i => match opA S (.tmp u), uk P S l (i + 1) with
   | some v, some vs => some ((rB + i, ci P t v) :: vs)
   | _, _ => none
 | (.cell u ty, t) :: l, i => match (opA S (.tmp u)).bind (ldB P S ty), uk P S l (i + 1) with
   | some q, some vs => if q.news.isEmpty = true then some ((rB + i, ci P t q.v) :: vs) else none
   | _, _ => none
def mg (P : Program) (fn : Func) (S : St) : Option St :=
 if fn.results.size = fn.resultTypes.size then (uk P S (fn.results.toList.zip fn.resultTypes.toList) 0).map fun l => { S with slots := l } else none
def tB (fn : Func) : Nat := fn.results.toList.foldl (fun b r => b ||| match r with | .tmp t => 1 <<< t | .cell t _ => 1 <<< t) 0
def iV (pat : NSh) (x : HL pat.codes) : Option St := (fiN pat (toD pat.codes x)).map fun N => fX ⟨[], [], [], .nil⟩ 0 N
def Ke (np : Nat) (sy M : List Nat) (n : Nat) (S : St) : Option (Nst × List Src) := uf np sy M ((List.range n).map (rB + ·)) S
def HK (np n : Nat) (c : Cls) (S : St) : Option (fC ((c.cls.map (·.2)).map NSh.codes)) :=
 match Ke np c.sy c.M n S with
 | some (N, pl) => if (nC S np pl).all (c.M.elem ·) && (S.mods.filter (· < np)).all (c.M.elem ·) && decide (N.slots.map (·.1) = (List.range n).map (rB + ·)) && (results N.slots).isSome && decide (n < 1000) then match oD .ret (shN N) c.cls 0 with
  | some i => yK _ i (coN N)
  | none => none
   else none
 | none => none
noncomputable def Kf (fn : Func) (body : Code) (pat : NSh) (c : Cls) (p : Plan) (x : HL pat.codes) : Option (fC ((c.cls.map (·.2)).map NSh.codes)) :=
 match iV pat x with
 | some S => exec P Γ inl H bk k (ax _) body [] (tB fn) 0 ((aQ S).to p) fun e S' => match e with
   | .exit _ => none
   | _ => match mg P fn S' with
     | some S2 => HK S.obs.length fn.results.size c S2
     | none => none
 | none => none
end
def BY : Op → Bool
 | .defer _ => false
 | _ => true
def wt (n : Nat) (os : List Oper) : Bool := os.all fun o => (match o.dst with
 | some d => decide (d < n)
 | none => true) && BY o.op
def db : Code → Bool
 | .seq a b => db a && db b
 | .cond _ a b => db a && db b
 | .block _ b => db b
 | .loop b => db b
 | .scope b => db b
 | .rangeFunc _ _ _ _ => false
 | _ => true
def okC (n : Nat) : Code → Bool
 | .region _ ops _ => wt n ops.toList
 | .seq a b => okC n a && okC n b
 | .cond _ a b => okC n a && okC n b
 | .block _ b => okC n b
 | .loop b => okC n b
 | .scope b => okC n b
 | .rangeFunc _ ps a b => ps.all (fun p => decide (p < n)) && okC n a && okC n b && db a && db b
 | _ => true
def sS (P : Program) (f : Nat) (m : Nat) : Bool :=
 match P.funcs[f]? with
 | some fn => match fn.body with
   | some body => okC fn.ntmps body && decide (fn.ntmps ≤ shift) && decide (m ≤ fn.ntmps)
   | none => false
 | none => false
def LZ (l : List (Nat × SV)) : Bool := l.all fun p => decide (p.1 + shift < rG) || decide (rG ≤ p.1)
noncomputable def CT (P : Program) (Γ : List Con) (inl : List Nat) (bk : List Bk) (k : Nat) : Nat → Inl
 | 0, _, _, _, A, _, _ => A.fail "too deep in place"
 | d + 1, f, xs, _, A, S, K => match P.funcs[f]? with
   | some fn => match fn.body with
     | some body => if (sS P f xs.length && LZ S.slots) = true then exec P Γ inl (CT P Γ inl bk k d) bk k A body [] (tB fn) 0 { S with slots := bW 0 xs ++ kC S.slots } fun e S' => match e with
       | .exit _ => A.fail "an exit in place"
       | _ => match mg P fn S' with
         | some S2 => match results S2.slots with
           | some v => K { S' with slots := gF S'.slots } v
           | none => A.fail "results in place"
         | none => A.fail "results in place"
       else A.fail "not to be walked in place"
     | none => A.fail "no body in place"
   | none => A.fail "no function in place"
def HM : Nat := 6
noncomputable def yQ (P : Program) (Γ : List Con) (inl : List Nat) (bk : List Bk) (f : Nat) (pat : NSh) (c : Cls) (p : Plan) : Con :=
 ⟨f, pat, c.cls.map (·.2), fun k x => match P.funcs[f]? with
  | some fn => match fn.body with
    | some body => Kf P Γ inl (CT P Γ inl bk k HM) bk k fn body pat c p x
    | none => none
  | none => none⟩
theorem EX (g : Env) (a : At) : (ba g a).length = a.sz := by
 cases a <;> first | rfl | (simp only [ba, (am _).len, aK, At.sz])
theorem bu (g : Env) : ∀ ls : List At, (aw g ls).length = bU ls
 | [] => rfl
 | a :: ls => by
   have := bu g ls
   simp only [aw, bU] at this ⊢
   simp only [List.flatMap_cons, List.length_append, EX, List.map_cons, List.sum_cons, this]
theorem lD (g : Env) (a b : List At) : aw g (a ++ b) = aw g a ++ aw g b := by simp [aw]
theorem CU {v : Value} (h : v.oneCell' = true) : v.cells = #[v] := by
 cases v <;> first | rfl | (simp [Value.oneCell'] at h)
theorem EY (g : Env) (a : At) (h : gP a = true) : ∀ v ∈ ba g a, v.oneCell' = true := by
 cases a <;> first
  | (intro v hv; simp only [ba, List.mem_singleton] at hv; subst hv; first | rfl | exact (g _).one)
  | (exact (am _).one _)
  | (cases h)
theorem ul (g : Env) (ls : List At) (h : ls.all gP = true) : ∀ v ∈ aw g ls, v.oneCell' = true := by
 intro v hv
 obtain ⟨a, ha, hv⟩ := List.mem_flatMap.1 hv
 exact EY g a (List.all_eq_true.1 h a ha) v hv
theorem um (g : Env) (a : At) (h : gP a = true) : (aJ g a).cells.toList = ba g a := by
 cases a with
 | fl t x => cases t <;> rfl
 | sl o => simp only [aJ, ba, CU (g o).one]
 | un => cases h
 | _ => rfl
def Kg (w : World) (e sz : Nat) (v : Value) (n : Nat) (xs : List Value) : Prop :=
 xs.length = n * sz ∧ (v = .slice none 0 0 ∧ n = 0 ∨ ∃ (g cap : Nat) (cur : Array Value) (fz : Nat × Nat), v = .slice (some ⟨g, 0, none⟩) n cap ∧ w.heap[g]? = some (.cells cur e fz) ∧ cur.size ≤ fz.1 ∧ n ≤ cap ∧ cap ≤ maxLen ∧ cur.size = cap * sz ∧ cur.toList.take (n * sz) = xs)
def OwnR (w : World) (e sz : Nat) (v : Value) (n : Nat) (xs : List Value) : Prop := if e < mB then w.ownsRow 0 e sz v n xs else Kg w (e - mB) sz v n xs
theorem OwnR.see {w : World} {e sz n : Nat} {v : Value} {xs : List Value} (h : OwnR w e sz v n xs) :
 xs.length = n * sz ∧ (v = .slice none 0 0 ∧ n = 0 ∨ ∃ (g cap : Nat) (cur : Array Value) (e' : Nat) (fz : Nat × Nat), v = .slice (some ⟨g, 0, none⟩) n cap ∧ w.heap[g]? = some (.cells cur e' fz) ∧ n ≤ cap ∧ cap ≤ maxLen ∧ cur.size = cap * sz ∧ cur.toList.take (n * sz) = xs) := by
 unfold OwnR at h
 split at h
 ·refine ⟨h.1, ?_⟩
  rcases h.2 with h | ⟨g, cap, cur, h1, _, h2, h3⟩
  ·exact .inl h
  ·exact .inr ⟨g, cap, cur, _, _, h1, h2, h3⟩
 ·refine ⟨h.1, ?_⟩
  rcases h.2 with h | ⟨g, cap, cur, fz, h1, h2, _, h3⟩
  ·exact .inl h
  ·exact .inr ⟨g, cap, cur, _, _, h1, h2, h3⟩
def eX (v : Value) (e sz n : Nat) (xs : List Value) : Ent :=
 ⟨fun x => v.ownBlock = some x, fun w => OwnR w e sz v n xs, fun w h x hx => by
  rcases h.see.2 with ⟨rfl, _⟩ | ⟨g, cap, cur, e', fz, rfl, h1, _⟩
  ·simp [Value.ownBlock] at hx
  ·simp only [Value.ownBlock, Option.some.injEq] at hx
   subst hx
   exact (Array.getElem?_eq_some_iff.1 h1).1,
    fun w w' h f => by
  unfold OwnR at h ⊢
  split
  ·rename_i he
   rw [if_pos he] at h
   exact (io v e sz n xs).loc w w' h f
  ·rename_i he
   rw [if_neg he] at h
   refine ⟨h.1, ?_⟩
   rcases h.2 with hn | ⟨g, cap, cur, fz, rfl, h1, rest⟩
   ·exact .inl hn
   ·exact .inr ⟨g, cap, cur, fz, rfl, (f g (by simp [Value.ownBlock])).trans h1, rest⟩, false⟩
theorem dX {v : Value} {e sz n : Nat} {xs : List Value} {w : World} (h : e < mB) : (eX v e sz n xs).ok w ↔ (io v e sz n xs).ok w := by
 show OwnR w e sz v n xs ↔ w.ownsRow 0 e sz v n xs
 unfold OwnR
 rw [if_pos h]
theorem qG (v : Value) (e sz n : Nat) (xs : List Value) : (eX v e sz n xs).dom = (io v e sz n xs).dom := rfl
theorem xF (w : World) (e sz : Nat) : OwnR w e sz (.slice none 0 0) 0 [] := by
 unfold OwnR
 split
 ·exact World.ownsRow_nil _ _ _ _
 ·exact ⟨by simp, .inl ⟨rfl, rfl⟩⟩
theorem kD {w : World} {v : Value} {e sz n : Nat} {xs : List Value} (h : OwnR w e sz v n xs) : Rds v n sz xs w := by
 refine ⟨h.see.1, ?_⟩
 rcases h.see.2 with ⟨rfl, h0⟩ | ⟨g, cap, cur, e', fz, rfl, hg, h1, h2, h3, h4⟩
 ·subst h0
  have : xs = [] := List.eq_nil_of_length_eq_zero (by simpa using h.see.1)
  subst this
  exact ⟨none, 0, rfl, Nat.le_refl _, by omega, fun _ => rfl, by simp⟩
 ·refine ⟨_, cap, rfl, h1, by simpa [maxLen] using h2, by simp, fun j u hu => ⟨_, rfl, ?_⟩⟩
  rw [bG, Nat.zero_add, cell_of_row w g j cur e' fz hg]
  rw [← h4, List.getElem?_take] at hu
  split at hu
  ·simpa using hu
  ·cases hu
theorem rS {w : World} {v : Value} {e sz n : Nat} {xs : List Value} {b : Nat} (h : OwnR w e sz v n xs) (q : aT v = some b) : v.ownBlock = some b := by
 rcases h.see.2 with ⟨rfl, _⟩ | ⟨g, cap, cur, e', fz, rfl, _⟩
 ·simp [aT] at q
 ·simpa [aT, Value.ownBlock] using q
def qH (g : Env) (i : Nat) (T : Nat) (ls : List At) : Ent := dJ false (g i).b T (aw g ls)
def HN {ι : Type} (f : ι → Ent) (l : Bool := false) : Ent :=
 ⟨fun b => ∃ i, (f i).dom b, fun w => ∀ i, (f i).ok w, fun w h b ⟨i, hb⟩ => (f i).lt w (h i) b hb, fun w w' h k i => (f i).loc w w' (h i) (fun b hb => k b ⟨i, hb⟩), l⟩
def cF (g : Env) (i : Nat) : Ob → Ent
 | .box T ls => qH g i T ls
 | .row e t xs .own _ => eX (g i).v e t.sz xs.length (g i).cs
 | _ => Ent.nil
def cG (g : Env) (i : Nat) : Ob → Ent
 | .row e t xs .own _ => dK false (g i).fs
 | .row e t xs .rd _ => dK false (⟨(g i).v, xs.length, t.sz, (g i).cs⟩ :: (g i).fs)
 | .row e t xs .lent _ => dK true (⟨(g i).v, xs.length, t.sz, (g i).cs⟩ :: (g i).fs)
 | _ => Ent.nil
def aF (G : GV) (e : Nat) (d : Kd) (xs : List (bm d).den) (hole : Option Nat) : Option (Nat × Nat) → Ent
 | none => eX G.v e 1 xs.length G.cs
 | some (k, j) => if hole = some k then Ent.nil else match xs[k]? with
   | some x => cF (dL G k) j (aZ d.l (bq d x j))
   | none => Ent.nil
def aY (G : GV) (d : Kd) (xs : List (bm d).den) (hole : Option Nat) (q : Nat × Nat) : Ent :=
 if hole = some q.1 then Ent.nil else match xs[q.1]? with
  | some x => cG (dL G q.1) q.2 (aZ d.l (bq d x q.2))
  | none => Ent.nil
def el (G : GV) (e : Nat) (d : Kd) (xs : List (bm d).den) (hole : Option Nat) : Ent := HN (aF G e d xs hole)
def fE (G : GV) (d : Kd) (xs : List (bm d).den) (hole : Option Nat) : Ent := HN (aY G d xs hole) d.l
def an (g : Env) (i : Nat) : Ob → Ent
 | .box T ls => qH g i T ls
 | .row e t xs .own _ => eX (g i).v e t.sz xs.length (g i).cs
 | .fleet e d xs hole => el (g i) e d xs hole
 | _ => Ent.nil
def az (g : Env) (i : Nat) : Ob → Ent
 | .fleet e d xs hole => fE (g i) d xs hole
 | .row e t xs .own _ => dK false (g i).fs
 | .row e t xs .rd _ => dK false (⟨(g i).v, xs.length, t.sz, (g i).cs⟩ :: (g i).fs)
 | .row e t xs .lent _ => dK true (⟨(g i).v, xs.length, t.sz, (g i).cs⟩ :: (g i).fs)
 | _ => Ent.nil
def AO (g : Env) (i : Nat) : Ob → Prop
 | .box _ ls => ls.all gP = true
 | .row _ t xs m fu => gn (gL t) xs (g i).cs (g i).fs ∧ SlV (g i).v xs.length ∧ fu = false ∧ m ≠ .lent
 | _ => True
structure KidP (κ : Env) (d : Kd) (x : (bm d).den) : Prop where
 ex : ∃ os, jN d x = some os ∧ (∃ T ls, os[0]? = some (.box T ls))
 ob : ∀ j, AO κ j (bq d x j)
 rb : ∀ j T ls, bq d x j = .box T ls → ∀ o ∈ ls.flatMap aN, o < (CP d).length
structure FleetP (G : GV) (e : Nat) (d : Kd) (xs : List (bm d).den) (hole : Option Nat) : Prop where
 n : G.ks.length = xs.length
 cs : G.cs = (List.range xs.length).map (fun k => .pointer (some ⟨gq G k, 0, none⟩))
 fs : G.fs = []
 kb : ∀ k, k < xs.length → (dL G k 0).b = gq G k
 sl : SlV G.v xs.length
 kid : ∀ k x, xs[k]? = some x → hole ≠ some k → KidP (dL G k) d x
 apart : ∀ p q, p ≠ q → ∀ b, (aF G e d xs hole p).dom b → ¬ (aF G e d xs hole q).dom b
def obP (g : Env) (i : Nat) : Ob → Prop
 | .fleet e d xs hole => FleetP (g i) e d xs hole
 | .box _ ls => ls.all gP = true
 | .row _ t xs _ fu => gn (gL t) xs (g i).cs (g i).fs ∧ SlV (g i).v xs.length ∧ (fu = true → ∃ ao, (g i).v = .slice ao xs.length xs.length ∧ (ao = none → xs.length = 0))
 | .gone => True
def okV (S : St) : V1 → Prop
 | .elp o sz i _ => ∀ e t xs m fu, S.ob o = .row e t xs m fu → 0 ≤ i ∧ i < xs.length ∧ sz = t.sz
 | .arp _ _ _ n i => 0 ≤ i ∧ i < n
 | _ => True
def okS (S : St) : SV → Prop
 | .v x => okV S x
 | .tup xs => ∀ x ∈ xs, okV S x
def Cx (g : Env) (S : St) (w0 : World) (D A : Nat → Prop) (w : World) : Prop := CtxF w0 D A (fun i => an g i (S.ob i)) (fun i => az g i (S.ob i)) w
def Ext (g g' : Env) (n : Nat) : Prop := ∀ i, i < n → g' i = g i
def GlV (v : Value) (b : Nat) : Prop := v = undef ∨ v = .pointer (some ⟨b, 0, none⟩)
structure Ghost where
 f : Nat → Value
 ds : List Deferred
 lo : Nat
 gp : ∀ t, rG ≤ t → GlV (f t) (t % shift)
structure SameG (γ' γ : Ghost) : Prop where
 f : γ'.f = γ.f
 lo : γ'.lo = γ.lo
theorem SameG.refl (γ : Ghost) : SameG γ γ := ⟨rfl, rfl⟩
theorem SameG.trans {a b c : Ghost} (h : SameG a b) (k : SameG b c) : SameG a c := ⟨h.f.trans k.f, h.lo.trans k.lo⟩
structure Fit (g : Env) (γ : Ghost) (S : St) (n : Nat) (a : Act) : Prop where
 size : a.tmps.size = n
 lo : n ≤ shift
 defers : a.defers = γ.ds
 sl : ∀ t sv, aA S.slots t = some sv → if t < shift then a.tmps[t]? = some (aq g sv) else γ.f t = aq g sv
 ob : ∀ i, obP g i (S.ob i)
 ok : ∀ t sv, aA S.slots t = some sv → okS S sv
 rs : ∀ t sv, aA S.slots t = some sv → ∀ o ∈ aL sv, o < S.obs.length
 rb : ∀ i T ls, S.ob i = .box T ls → ∀ o ∈ ls.flatMap aN, o < S.obs.length
theorem EZ {g g' : Env} (a : At) (h : ∀ o ∈ aN a, g' o = g o) : ba g' a = ba g a := by
 cases a <;> simp_all [ba, aN]
theorem yR {g g' : Env} (a : At) (h : ∀ o ∈ aN a, g' o = g o) : aJ g' a = aJ g a := by
 cases a with
 | fl t x => cases t <;> rfl
 | _ => simp_all [aJ, aN]
theorem uo {g g' : Env} : ∀ (ls : List At), (∀ o ∈ ls.flatMap aN, g' o = g o) → ls.map (aJ g') = ls.map (aJ g)
 | [], _ => rfl
 | a :: ls, h => by
   simp only [List.flatMap_cons, List.mem_append] at h
   rw [List.map_cons, List.map_cons, yR a (fun o ho => h o (.inl ho)), uo ls (fun o ho => h o (.inr ho))]
theorem ep {g g' : Env} : ∀ (ls : List At), (∀ o ∈ ls.flatMap aN, g' o = g o) → aw g' ls = aw g ls
 | [], _ => rfl
 | a :: ls, h => by
   simp only [List.flatMap_cons, List.mem_append] at h
   have := ep ls (fun o ho => h o (.inr ho))
   simp only [aw] at this ⊢
   rw [List.flatMap_cons, List.flatMap_cons, EZ a (fun o ho => h o (.inl ho)), this]
theorem yS {g g' : Env} (x : V1) (h : ∀ o ∈ bi x, g' o = g o) : aU g' x = aU g x := by
 cases x with
 | a x => exact yR x h
 | elp o sz i off => simp only [bi, List.mem_singleton, forall_eq] at h; simp only [aU, h]
 | arp b off t n i => simp only [bi, List.mem_singleton, forall_eq] at h; simp only [aU, h]
 | fn f fs cs =>
   simp only [bi, List.mem_append] at h
   simp only [aU, uo fs (fun o ho => h o (.inl ho)), uo cs (fun o ho => h o (.inr ho))]
 | st ls => simp only [aU, ep ls h]
 | cutf o => simp only [bi, List.mem_singleton, forall_eq] at h; simp only [aU, h]
theorem eq {g g' : Env} (x : SV) (h : ∀ o ∈ aL x, g' o = g o) : aq g' x = aq g x := by
 cases x with
 | v x => exact yS x h
 | tup xs =>
   simp only [aq]
   congr 2
   apply List.map_congr_left
   intro x hx
   exact yS x (fun o ho => h o (List.mem_flatMap.2 ⟨x, hx, ho⟩))
theorem du : ∀ (ls : List At) (off : Nat) (r : List At), gC ls off = some r → ∃ pre, ls = pre ++ r ∧ bU pre = off
 | ls, 0, r, h => by
   have : r = ls := by cases ls <;> simpa [gC] using h.symm
   exact ⟨[], by simp [this], rfl⟩
 | [], n + 1, r, h => by simp [gC] at h
 | a :: ls, n + 1, r, h => by
   simp only [gC] at h
   split at h
   ·rename_i ha
    obtain ⟨pre, e, hs⟩ := du ls _ r h
    refine ⟨a :: pre, by rw [e]; rfl, ?_⟩
    show a.sz + bU pre = n + 1
    omega
   ·cases h
theorem jQ : ∀ (ls : List At) (n : Nat) (r : List At), nu ls n = some r → ∃ post, ls = r ++ post ∧ bU r = n
 | ls, 0, r, h => by
   have : r = [] := by cases ls <;> simpa [nu] using h.symm
   subst this
   exact ⟨ls, rfl, rfl⟩
 | [], n + 1, r, h => by simp [nu] at h
 | a :: ls, n + 1, r, h => by
   simp only [nu] at h
   split at h
   ·rename_i ha
    obtain ⟨r', hr, rfl⟩ := Option.map_eq_some_iff.1 h
    obtain ⟨post, e, hs⟩ := jQ ls _ r' hr
    refine ⟨post, by rw [e]; rfl, ?_⟩
    show a.sz + bU r' = n + 1
    omega
   ·cases h
theorem lE {ls : List At} {off n : Nat} {seg : List At} (h : Ay ls off n = some seg) : ∃ pre post, ls = pre ++ (seg ++ post) ∧ bU pre = off ∧ bU seg = n := by
 obtain ⟨r, h1, h2⟩ := Option.bind_eq_some_iff.1 h
 obtain ⟨pre, e, hs⟩ := du _ _ _ h1
 obtain ⟨post, e', hs'⟩ := jQ _ _ _ h2
 exact ⟨pre, post, by rw [e, e'], hs, hs'⟩
theorem eY (g : Env) {pre seg post : List At} {off n : Nat} (hp : bU pre = off) (hs : bU seg = n) : ((aw g (pre ++ (seg ++ post))).drop off).take n = aw g seg := by
 rw [lD, lD, ← hp, ← bu g pre, List.drop_left, ← hs, ← bu g seg, List.take_left]
theorem nG (g : Env) {a : At} (h : ED a = true) : ba g a = [aJ g a] := by
 cases a with
 | fl t x => cases t <;> first | rfl | (simp [ED] at h)
 | un => simp [ED] at h
 | _ => rfl
theorem gU {P : Program} {t : TypeId} {n : Nat} {seg : List At} {v : SV} (h : iM P t seg = some v) (hn : cellsOf P t = some n) (hs : bU seg = n) :
 (kq P t = true ∧ ∃ a, seg = [a] ∧ ED a = true ∧ v = .v (.a a)) ∨ (xt P t n = true ∧ ∀ g, aq g v = .agg (aw g seg).toArray) := by
 unfold iM at h
 have hi : (P.info? t).map (·.size) = some n := hn
 split at h
 ·rename_i h5
  cases h
  exact .inr ⟨by simp [xt, h5, hi], fun g => rfl⟩
 ·rename_i h6
  split at h
  ·cases h
   refine .inr ⟨by simp [xt, h6, hi], fun g => ?_⟩
   simp [aq, aU, aJ, aw, ba]
  ·cases h
 ·cases h
 ·rename_i h5 h6 h0
  split at h
  ·rename_i a
   split at h
   ·rename_i hc
    cases h
    refine .inl ⟨?_, a, rfl, hc, rfl⟩
    unfold kq
    simp only [Bool.not_eq_true', Bool.or_eq_false_iff, beq_eq_false_iff_ne]
    exact ⟨⟨fun e => h0 e, fun e => h5 e⟩, fun e => h6 e⟩
   ·cases h
  ·cases h
theorem kE {P : Program} {t : TypeId} {seg : List At} {v : SV} (h : iM P t seg = some v) : aL v = seg.flatMap aN ∧ ∀ S, okS S v := by
 unfold iM at h
 split at h
 ·cases h; exact ⟨rfl, fun _ => trivial⟩
 ·split at h
  ·cases h; exact ⟨rfl, fun _ => trivial⟩
  ·cases h
 ·cases h
 ·split at h
  ·split at h
   ·cases h; exact ⟨by simp [aL, bi], fun _ => trivial⟩
   ·cases h
  ·cases h
theorem lF (m : Md) (hm : m ≠ .own) : ∀ (t : Ty) (x : t.den) (n : Nat) (g : Env) (cs : List Value) (F : List Fact), gL t x cs F →
 ∃ g' : Env, (∀ i, i < n ∨ n + (bn m t x n).2.length ≤ i → g' i = g i) ∧ aw g' (bn m t x n).1 = cs ∧ (bn m t x n).1.all gP = true ∧
  (∀ o ∈ (bn m t x n).1.flatMap aN, n ≤ o ∧ o < n + (bn m t x n).2.length) ∧
  ∀ j ob, (bn m t x n).2[j]? = some ob → obP g' (n + j) ob ∧ ∃ e u xs, ob = .row e u xs m false ∧ ∀ f ∈ (⟨(g' (n + j)).v, xs.length, u.sz, (g' (n + j)).cs⟩ :: (g' (n + j)).fs : List Fact), f ∈ F
 | .pair a b, x, n, g, cs, F, ⟨c1, c2, F1, F2, h1, h2, h3, h4⟩ => by
   obtain ⟨g1, e1, q1, s1, r1, k1⟩ := lF m hm a x.1 n g c1 F1 h3
   obtain ⟨g2, e2, q2, s2, r2, k2⟩ := lF m hm b x.2 (n + (bn m a x.1 n).2.length) g1 c2 F2 h4
   refine ⟨g2, ?_, ?_, ?_, ?_, ?_⟩
   ·intro i hi
    simp only [bn, List.length_append] at hi
    rw [e2 i (by omega), e1 i (by omega)]
   ·simp only [bn, lD, q2, h1]
    rw [ep (g := g1) _ (fun o ho => e2 o (.inl (r1 o ho).2)), q1]
   ·simp only [bn, List.all_append, s1, s2, Bool.and_self]
   ·intro o ho
    simp only [bn, List.flatMap_append, List.mem_append, List.length_append] at ho ⊢
    rcases ho with ho | ho
    ·have := r1 o ho; omega
    ·have := r2 o ho; omega
   ·intro j ob hj
    simp only [bn] at hj
    rcases Nat.lt_or_ge j (bn m a x.1 n).2.length with hlt | hge
    ·rw [List.getElem?_append_left hlt] at hj
     obtain ⟨p1, e, u, xs, he, hf⟩ := k1 j ob hj
     have hg : g2 (n + j) = g1 (n + j) := e2 _ (.inl (by omega))
     subst he
     refine ⟨?_, e, u, xs, rfl, ?_⟩
     ·simp only [obP, hg]; exact p1
     ·intro f hf'
      rw [hg] at hf'
      rw [h2]
      exact List.mem_append_left _ (hf f hf')
    ·rw [List.getElem?_append_right hge] at hj
     obtain ⟨p1, e, u, xs, he, hf⟩ := k2 _ ob hj
     have hn : n + (bn m a x.1 n).2.length + (j - (bn m a x.1 n).2.length) = n + j := by omega
     rw [hn] at p1 hf
     refine ⟨p1, e, u, xs, he, fun f hf' => ?_⟩
     rw [h2]
     exact List.mem_append_right _ (hf f hf')
 | .sl e t, xs, n, g, cs, F, ⟨v, css, F', h1, h2, h3, h4⟩ => by
   have hone : v.oneCell' = true := h2.one
   refine ⟨fun i => if i = n then ⟨v, hone, (0, fun _ => 0), css, F', []⟩ else g i, ?_, ?_, rfl, ?_, ?_⟩
   ·intro i hi
    simp only [bn, List.length_singleton] at hi
    simp only
    rw [if_neg (by omega)]
   ·simp [bn, aw, ba, h1]
   ·intro o ho
    simp only [bn, List.flatMap_cons, aN, List.flatMap_nil, List.append_nil, List.mem_singleton] at ho
    simp only [bn, List.length_singleton]
    omega
   ·intro j ob hj
    match j with
    | 0 =>
      simp only [bn, List.getElem?_cons_zero, Option.some.injEq] at hj
      subst hj
      refine ⟨⟨by simpa using h4, by simpa using h2, by simp⟩, e, t, xs, rfl, ?_⟩
      intro f hf
      simp only [Nat.add_zero, if_true] at hf
      rw [h3]
      exact hf
    | j + 1 => simp [bn] at hj
 | .int k, x, n, g, cs, F, ⟨h1, h2⟩ => ⟨g, fun _ _ => rfl, by simp [bn, aw, ba, h1], rfl, by simp [bn, aN], by simp [bn]⟩
 | .bool, x, n, g, cs, F, ⟨h1, h2⟩ => ⟨g, fun _ _ => rfl, by simp [bn, aw, ba, h1], rfl, by simp [bn, aN], by simp [bn]⟩
 | .str, x, n, g, cs, F, ⟨h1, h2⟩ => ⟨g, fun _ _ => rfl, by simp [bn, aw, ba, h1], rfl, by simp [bn, aN], by simp [bn]⟩
 | .unit, x, n, g, cs, F, ⟨h1, h2⟩ => ⟨g, fun _ _ => rfl, by simp [bn, aw, am, FU, h1], rfl, by simp [bn, aN], by simp [bn]⟩
 | .arr q t, x, n, g, cs, F, ⟨h1, h2⟩ => ⟨g, fun _ _ => rfl, by simp [bn, aw, ba, h1], rfl, by simp [bn, aN], by simp [bn]⟩
theorem aW {S : St} {news : List Ob} {i : Nat} (h : i < S.obs.length) : (S.add news).ob i = S.ob i := by
 simp [St.ob, St.add, List.getD_eq_getElem?_getD, List.getElem?_append_left h]
theorem bO {S : St} {news : List Ob} {i : Nat} (h : S.obs.length ≤ i) : (S.add news).ob i = news.getD (i - S.obs.length) .gone := by
 simp [St.ob, St.add, List.getD_eq_getElem?_getD, List.getElem?_append_right h]
theorem kF {S : St} {i : Nat} (h : S.obs.length ≤ i) : S.ob i = .gone := by simp [St.ob, List.getD_eq_getElem?_getD, List.getElem?_eq_none h]
theorem tC (S : St) : S.add [] = S := by simp [St.add]
section
variable {P : Program} {g g' : Env} {γ : Ghost} {S : St} {n : Nat} {a : Act} {w0 w : World} {D A : Nat → Prop}
theorem iW {i : Nat} {o : Ob} (h : g' i = g i) (hr : ∀ T ls, o = .box T ls → ∀ x ∈ ls.flatMap aN, g' x = g x) : an g' i o = an g i o := by
 cases o with
 | box T ls => simp only [an, qH, h, ep ls (hr T ls rfl)]
 | row e t xs m fu => cases m <;> simp only [an, h]
 | fleet e d xs ho => simp only [an, h]
 | gone => rfl
theorem cQ {i : Nat} {o : Ob} (h : g' i = g i) : az g' i o = az g i o := by
 cases o with
 | row e t xs m fu => cases m <;> simp only [az, h]
 | fleet e d xs ho => simp only [az, h]
 | _ => rfl
theorem iN {i : Nat} {o : Ob} (h : g' i = g i) (k : obP g i o) : obP g' i o := by
 cases o with
 | row e t xs m fu => simp only [obP, h] at k ⊢; exact k
 | fleet e d xs ho => simp only [obP, h] at k ⊢; exact k
 | _ => exact k
def uq (g g' : Env) (S : St) (w : World) (news : List Ob) : Prop :=
 ∀ j ob, news[j]? = some ob → (∀ b, ¬ (an g' (S.obs.length + j) ob).dom b) ∧ (an g' (S.obs.length + j) ob).ok w ∧
  ((∀ b, ¬ (az g' (S.obs.length + j) ob).dom b) ∧ (az g' (S.obs.length + j) ob).ok w ∨
    ∃ o, Sub1 (az g' (S.obs.length + j) ob) (az g o (S.ob o)) w ∧ ((az g' (S.obs.length + j) ob).lent = false → (az g o (S.ob o)).lent = false))
theorem ur (F : Fit g γ S n a) {news : List Ob} (hx : Ext g g' S.obs.length)
 (hn : uq g g' S w news)
 (C : Cx g S w0 D A w) : Cx g' (S.add news) w0 D A w := by
 have hlt : ∀ i, i < S.obs.length → an g' i ((S.add news).ob i) = an g i (S.ob i) ∧ az g' i ((S.add news).ob i) = az g i (S.ob i) := fun i hi => by
  rw [aW hi]
  exact ⟨iW (hx i hi) (fun T ls e x hm => hx x (F.rb i T ls e x hm)), cQ (hx i hi)⟩
 have hge : ∀ i, S.obs.length ≤ i → (∀ b, ¬ (an g' i ((S.add news).ob i)).dom b) ∧ (an g' i ((S.add news).ob i)).ok w ∧
  ((∀ b, ¬ (az g' i ((S.add news).ob i)).dom b) ∧ (az g' i ((S.add news).ob i)).ok w ∨
    ∃ o, Sub1 (az g' i ((S.add news).ob i)) (az g o (S.ob o)) w ∧ ((az g' i ((S.add news).ob i)).lent = false → (az g o (S.ob o)).lent = false)) := fun i hi => by
  rw [bO hi]
  cases hj : news[i - S.obs.length]? with
  | none => rw [List.getD_eq_getElem?_getD, hj]; exact ⟨fun b h => h.elim, trivial, .inl ⟨fun b h => h.elim, trivial⟩⟩
  | some ob =>
    have := hn _ ob hj
    rw [show S.obs.length + (i - S.obs.length) = i by omega] at this
    rw [List.getD_eq_getElem?_getD, hj]
    exact this
 refine qA C id (fun i => ?_) (fun i j hij _ _ => hij) (fun i => ?_)
 ·rcases Nat.lt_or_ge i S.obs.length with h | h
  ·simp only [(hlt i h).1]; exact .inr (Sub1.refl _ _)
  ·exact .inl ⟨(hge i h).1, (hge i h).2.1⟩
 ·rcases Nat.lt_or_ge i S.obs.length with h | h
  ·simp only [(hlt i h).2]; exact .inr (.inl ⟨i, Sub1.refl _ _, id⟩)
  ·rcases (hge i h).2.2 with h1 | ⟨o, h1, h2⟩
   ·exact .inl h1
   ·exact .inr (.inl ⟨o, h1, h2⟩)
theorem BZ {news : List Ob} {v : V1} (hr : ∀ o ∈ bi v, o < S.obs.length) (h : okV S v) : okV (S.add news) v := by
 cases v with
 | elp o sz i off =>
   intro e t xs m fu he
   rw [aW (hr o (by simp [bi]))] at he
   exact h e t xs m fu he
 | arp b off t n i => exact h
 | _ => trivial
theorem HO {news : List Ob} {v : SV} (hr : ∀ o ∈ aL v, o < S.obs.length) (h : okS S v) : okS (S.add news) v := by
 cases v with
 | v x => exact BZ hr h
 | tup xs => exact fun x hx => BZ (fun o ho => hr o (List.mem_flatMap.2 ⟨x, hx, ho⟩)) (h x hx)
theorem gb (F : Fit g γ S n a) {news : List Ob} (hx : Ext g g' S.obs.length) (hn : ∀ j ob, news[j]? = some ob → obP g' (S.obs.length + j) ob)
 (hb : ∀ (j T : Nat) (ls : List At), news[j]? = some (Ob.box T ls) → ∀ o ∈ ls.flatMap aN, o < S.obs.length + news.length) : Fit g' γ (S.add news) n a := by
 refine ⟨F.size, F.lo, F.defers, ?_, ?_, ?_, ?_, ?_⟩
 ·intro t sv h
  have := F.sl t sv h
  rwa [eq sv (fun o ho => hx o (F.rs t sv h o ho))]
 ·intro i
  rcases Nat.lt_or_ge i S.obs.length with h | h
  ·rw [aW h]; exact iN (hx i h) (F.ob i)
  ·rw [bO h]
   cases hj : news[i - S.obs.length]? with
   | none => rw [List.getD_eq_getElem?_getD, hj]; trivial
   | some ob =>
     have := hn _ ob hj
     rw [show S.obs.length + (i - S.obs.length) = i by omega] at this
     rw [List.getD_eq_getElem?_getD, hj]
     exact this
 ·exact fun t sv h => HO (F.rs t sv h) (F.ok t sv h)
 ·intro t sv h o ho
  have := F.rs t sv h o ho
  simp only [St.add, List.length_append]; omega
 ·intro i T ls h o ho
  simp only [St.add, List.length_append]
  rcases Nat.lt_or_ge i S.obs.length with hi | hi
  ·rw [aW hi] at h; have := F.rb i T ls h o ho; omega
  ·rw [bO hi] at h
   cases hj : news[i - S.obs.length]? with
   | none => rw [List.getD_eq_getElem?_getD, hj] at h; cases h
   | some ob =>
     rw [List.getD_eq_getElem?_getD, hj] at h
     simp only [Option.getD_some] at h
     subst h
     exact hb _ T ls hj o ho
structure Looks (P : Program) (g : Env) (γ : Ghost) (S : St) (n : Nat) (a : Act) (op : Op) (q : Qt) (g' : Env) : Prop where
 ext : Ext g g' S.obs.length
 fit : Fit g' γ (S.add q.news) n a
 ok : okS (S.add q.news) q.v
 rs : ∀ o ∈ aL q.v, o < (S.add q.news).obs.length
 run : ∀ w0 D A w, Cx g S w0 D A w → uq g g' S w q.news ∧ cV P a.eval op w (aq g' q.v) w
theorem gV (F : Fit g γ S n a) {op : Op} {p : Prop} {dp : Decidable p} {v : SV} (hok : okS S v) (hrs : ∀ o ∈ aL v, o < S.obs.length)
 (h : ∀ w0 D A w, Cx g S w0 D A w → cV P a.eval op w (aq g v) w) : Looks P g γ S n a op ⟨p, dp, [], v⟩ g :=
 ⟨fun _ _ => rfl, by rw [tC]; exact F, by rw [tC]; exact hok, by rw [tC]; exact hrs, fun w0 D A w C => ⟨fun j ob hj => by simp at hj, h w0 D A w C⟩⟩
theorem aD (F : Fit g γ S n a) {x : Operand} {sv : SV} (h : opA S x = some sv) : a.eval x = aq g sv ∧ okS S sv ∧ ∀ o ∈ aL sv, o < S.obs.length := by
 cases x with
 | tmp t =>
   simp only [opA] at h
   split at h
   ·rename_i ht
    have := F.sl t sv h
    rw [if_pos ht] at this
    exact ⟨by simp [Act.eval, Array.getD_eq_getD_getElem?, this], F.ok t sv h, F.rs t sv h⟩
   ·cases h
 | const v =>
   simp only [opA, Option.map_eq_some_iff] at h
   obtain ⟨b, hb, rfl⟩ := h
   unfold cst at hb
   split at hb <;> first
    | (cases hb; done)
    | (cases hb; exact ⟨rfl, trivial, by simp [aL, bi, aN]⟩)
 | func f => simp only [opA, Option.some.injEq] at h; subst h; exact ⟨rfl, trivial, by simp [aL, bi]⟩
 | global q =>
   simp only [opA] at h
   unfold yD at h
   split at h
   ·rename_i p hp
    have hq := List.find?_some hp
    simp only [Bool.and_eq_true, decide_eq_true_eq] at hq
    split at h
    ·rename_i o hl
     cases h
     have h1 := F.sl p.1 _ hl
     rw [if_neg (by have := hq.1; simp only [rG] at this; omega)] at h1
     refine ⟨?_, F.ok _ _ hl, F.rs _ _ hl⟩
     rcases γ.gp p.1 hq.1 with h2 | h2
     ·rw [h1] at h2; cases h2
     ·rw [h1, hq.2] at h2
      exact h2.symm
    ·cases h
   ·cases h
end
section
variable {P : Program} {g : Env} {γ : Ghost} {S : St} {n : Nat} {a : Act} {w0 w : World} {D A : Nat → Prop} {ρ : Operand → Value}
theorem CV (t : TypeId) (x : At) : aJ g (wk P t x) = aJ g x ∧ ba g (wk P t x) = ba g x ∧ aN (wk P t x) = aN x ∧ gP (wk P t x) = gP x := by
 cases x <;> first
  | exact ⟨rfl, rfl, rfl, rfl⟩
  | (simp only [wk, EB]; split
     ·split
      ·exact ⟨rfl, rfl, rfl, rfl⟩
      ·split <;> exact ⟨rfl, rfl, rfl, rfl⟩
     ·exact ⟨rfl, rfl, rfl, rfl⟩)
theorem bP (t : TypeId) (v : SV) : aq g (ci P t v) = aq g v ∧ aL (ci P t v) = aL v ∧ (okS S v → okS S (ci P t v)) := by
 cases v with
 | tup xs => exact ⟨rfl, rfl, id⟩
 | v x => cases x with
   | a x => have := CV (P := P) (g := g) t x; exact ⟨this.1, this.2.2.1, fun _ => trivial⟩
   | _ => exact ⟨rfl, rfl, id⟩
theorem jx (C : Cx g S w0 D A w) {o e : Nat} {t : Ty} {xs : List t.den} {m : Md} {fu : Bool} (h : S.ob o = .row e t xs m fu) : Rds (g o).v xs.length t.sz (g o).cs w := by
 cases m with
 | own => have := C.okL o; simp only [h, an] at this; exact kD this
 | rd => have := C.okR o; simp only [h, az] at this; exact this _ (List.mem_cons_self ..)
 | lent => have := C.okR o; simp only [h, az] at this; exact this _ (List.mem_cons_self ..)
theorem rT (C : Cx g S w0 D A w) {b T : Nat} {ls : List At} (h : S.ob b = .box T ls) : w.heap[(g b).b]? = some (.cells (aw g ls).toArray T (0, 0)) := by
 have := C.okL b; simp only [h, an] at this; exact this
theorem xG {E : Ent} (h : E.ok w) : Ctx w E.dom nob [E] [] w :=
 ⟨Fr.refl _ _, fun i F hi => by match i with | 0 => simp at hi; subst hi; exact h | i + 1 => simp at hi, by simp,
  fun i F hi b hb => by match i with | 0 => simp at hi; subst hi; exact .inl hb | i + 1 => simp at hi,
  fun i j F G hij hi hj => by match i, j with | 0, 0 => exact absurd rfl hij | 0, j + 1 => simp at hj | i + 1, _ => simp at hi, by simp, by simp⟩
theorem CW {op : BinOp} {k : IntKind} {x y : Int} {q : Qt} {t : TypeId} (h : J2 op k x y = some q) (hp : q.p) (hs : op ≠ .shl ∧ op ≠ .shr) :
 q.news = [] ∧ aL q.v = [] ∧ okS S q.v ∧ ly P op t (.int k x) (.int k y) = some (aq g q.v) := by
 cases op <;> simp only [J2] at h <;> first
  | (cases h; done)
  | exact absurd rfl hs.1
  | exact absurd rfl hs.2
  | (cases h; exact ⟨rfl, rfl, trivial, by simp only [ly, if_true, vJ]; rfl⟩)
  | (cases h; have hp' : y ≠ 0 := hp; exact ⟨rfl, rfl, trivial, by simp only [ly, if_true, vJ, if_neg hp']; rfl⟩)
theorem iO {op : BinOp} {t t' : TypeId} {X Y : Operand} {x y v : Value} (hx : ρ X = x) (hy : ρ Y = y) (h : ly P op t x y = some v) (w : World) : cV P ρ (.binOp op t X Y t') w v w :=
 aE (by simp only [dF, hx, hy, h]) w
def E0 (g : Env) (S : St) (q : Qt) : Prop := q.news = [] ∧ okS S q.v ∧ ∀ o ∈ aL q.v, o < S.obs.length
theorem er {op : BinOp} {b : Bool} {q : Qt} (h : me op b = some q) : E0 g S q ∧ ∃ r, aq g q.v = .bool r ∧ (op = .eql ∧ r = b ∨ op = .neq ∧ r = !b) := by
 cases op <;> simp only [me] at h <;> first
  | (cases h; done)
  | (cases h; exact ⟨⟨rfl, trivial, fun o h => by cases h⟩, _, rfl, by simp⟩)
theorem tD {x : At} {b : Bool} (h : toB x = some b) : aJ g x = .bool b := by
 cases x with
 | fl t x => cases t <;> first | (simp [toB] at h; subst h; rfl) | (simp [toB] at h)
 | lit c => simp [toB] at h; subst h; rfl
 | _ => simp [toB] at h
end
section
variable {P : Program} {g : Env} {γ : Ghost} {S : St} {n : Nat} {a : Act} {w0 w : World} {D A : Nat → Prop} {ρ : Operand → Value}
def Tells (P : Program) (ρ : Operand → Value) (g : Env) (S : St) (op : Op) (q : Qt) : Prop :=
 E0 g S q ∧ ∀ w0 D A w, Cx g S w0 D A w → cV P ρ op w (aq g q.v) w
theorem CX {op : BinOp} {t t' : TypeId} {X Y : Operand} {x y : ByteArray} {q : Qt} (hx : ρ X = .string x) (hy : ρ Y = .string y) (h : J3 op x y = some q) (hp : q.p) : Tells P ρ g S (.binOp op t X Y t') q := by
 cases op <;> simp only [J3] at h <;> first
  | (cases h; done)
  | (cases h; exact ⟨⟨rfl, trivial, fun o h => by cases h⟩, fun _ _ _ w _ => KW hx hy hp⟩)
  | (cases h; exact ⟨⟨rfl, trivial, fun o h => by cases h⟩, fun _ _ _ w _ => iO hx hy (by simp only [ly, ByteArray.toList_eq]; rfl) w⟩)
theorem oF (m : Nat) (u : Ty) (v : Vector u.den m) : (am (.arr m u)).cells v = v.toList.flatMap (am u).cells := by
 simp only [am, FA, ua]
theorem wu {ls : List At} {ft : TypeId} {off : Nat} {v : SV} (h : BS P ls ft off = some v) (g : Env) : kw P ft (aw g ls) off = some (aq g v) := by
 unfold BS at h
 split at h
 ·rename_i m hm
  obtain ⟨seg, hseg, hof⟩ := Option.bind_eq_some_iff.1 h
  obtain ⟨pre, post, e, s1, s2⟩ := lE hseg
  have hcells := eY g (pre := pre) (seg := seg) (post := post) s1 s2
  rw [← e] at hcells
  rcases gU hof hm s2 with ⟨hs, a, ha, hc, rfl⟩ | ⟨hs, he⟩
  ·have h1 := nG g hc
   have hm1 : m = 1 := by rw [← s2, ← bu g, ha]; simp [aw, h1]
   subst hm1
   unfold kw
   rw [if_pos hs]
   have : aw g seg = [aJ g a] := by rw [ha]; simp [aw, h1]
   rw [this] at hcells
   have h2 := congrArg (·[0]?) hcells
   simp only [List.getElem?_take, List.getElem?_drop] at h2
   show (aw g ls)[off]? = some (aJ g a)
   simpa using h2
  ·have hk := he g
   unfold xt at hs
   simp only [Bool.and_eq_true, beq_iff_eq] at hs
   unfold kw
   have hns : kq P ft = false := by
    unfold kq
    have := hs.1
    simp only [Bool.or_eq_true, beq_iff_eq] at this
    rcases this with h | h <;> simp [h]
   rw [if_neg (by rw [hns]; simp), if_pos hs.1]
   obtain ⟨i, hi, his⟩ := Option.map_eq_some_iff.1 hs.2
   simp only [hi, Option.map_some, his, hcells, hk]
 ·cases h
theorem wv {cmp : TypeId → SV → SV → Option Bool} {cv : TypeId → Value → Value → Option Bool} (g : Env) (hc : ∀ t x y r, cmp t x y = some r → cv t (aq g x) (aq g y) = some r) {xs ys : List At} :
 ∀ {fs : List Field} {r : Bool}, HE P cmp xs ys fs = some r → Aw P cv (aw g xs) (aw g ys) fs = some r
 | [], r, h => h
 | f :: fs, r, h => by
   simp only [HE] at h
   split at h
   ·cases h
   ·rename_i hn
    split at h
    ·rename_i a b ha hb
     split at h
     ·rename_i e q he hq
      cases h
      simp only [Aw, if_neg hn, wu ha g, wu hb g, hc _ _ _ _ he, wv g hc hq]
     ·cases h
    ·cases h
theorem wx (g : Env) : ∀ (d : Nat) (t : TypeId) (x y : SV) (r : Bool), EF P d t x y = some r → eqV P d t (aq g x) (aq g y) = some r
 | 0, _, _, _, _, h => by simp [EF] at h
 | d + 1, t, x, y, r, h => by
   simp only [EF] at h
   split at h
   ·rename_i k a k' b
    split at h
    ·rename_i hc
     obtain ⟨h1, rfl⟩ := hc
     cases h
     simp [eqV, aq, aU, aJ, h1]
    ·cases h
   ·rename_i a b
    split at h
    ·rename_i h1
     cases h
     simp only [eqV, aq, aU, aJ, h1, sEq, if_true, ByteArray.toList_eq]
    ·cases h
   ·rename_i xs ys
    split at h
    ·rename_i fs hu
     split at h
     ·cases h
     ·rename_i hs
      have := wv g (fun t x y r h => wx g d t x y r h) h
      simp only [eqV, aq, aU, hu, if_neg hs, this]
    ·cases h
   ·rename_i n k a n' k' b
    split at h
    ·rename_i m e hu
     split at h
     ·rename_i hnk
      split at h
      ·rename_i hc
       obtain ⟨rfl, rfl⟩ := hnk
       obtain ⟨rfl, hd, hi, hce, hsc, hty⟩ := hc
       cases h
       simp only [eqV, aq, aU, aJ, hu, if_pos hi]
       rw [hce]
       obtain ⟨d, rfl⟩ : ∃ q, d = q + 1 := ⟨d - 1, by omega⟩
       have hget : ∀ (v : Vector Int m) (i : Nat), i < m → kw P e ((am (.arr m (.int k))).cells v) (i * 1) = some (.int k (v.toList.getD i 0)) := by
        intro v i hi
        unfold kw
        rw [if_pos hsc, oF]
        have hlen : v.toList.length = m := by simp
        have : ∀ (l : List Int) (i : Nat), i < l.length → (l.flatMap (am (.int k)).cells)[i]? = some (.int k (l.getD i 0)) := by
         intro l
         induction l with
         | nil => intro i hi; simp at hi
         | cons x l ih =>
           intro i hi
           cases i with
           | zero => rfl
           | succ i =>
             have h0 := ih i (by simpa using hi)
             show ([Value.int k x] ++ l.flatMap (am (.int k)).cells)[i + 1]? = _
             rw [List.getElem?_append_right (by simp)]
             simpa using h0
        rw [Nat.mul_one]
        exact this v.toList i (by rw [hlen]; exact hi)
       have key : ∀ is : List Nat, (∀ i ∈ is, i < m) → Ax P (eqV P (d + 1)) e 1 ((am (.arr m (.int k))).cells a) ((am (.arr m (.int k))).cells b) is = some (jp m a b is) := by
        intro is
        induction is with
        | nil => intro _; rfl
        | cons i is ih =>
          intro hm
          have h1 := hm i (List.mem_cons_self ..)
          simp only [Ax, hget a i h1, hget b i h1, ih (fun j hj => hm j (List.mem_cons_of_mem _ hj)), jp]
          simp [eqV, hty]
       exact key _ (fun i hi => List.mem_range.1 hi)
      ·cases h
     ·cases h
    ·cases h
   ·rename_i x y _ _ _
    split at h
    ·rename_i a b ha hb
     split at h
     ·rename_i h1
      cases h
      simp only [aq, aU, tD ha, tD hb]
      simp [eqV, h1]
     ·cases h
    ·cases h
   ·cases h
theorem wy {x : SV} (h : xw x = true) (g : Env) : ∃ cs : List Value, aq g x = .agg cs.toArray := by
 unfold xw at h
 split at h
 ·exact ⟨_, rfl⟩
 ·exact ⟨_, rfl⟩
 ·cases h
theorem yT {op : BinOp} {t t' : TypeId} {X Y : Operand} {x y : SV} {q : Qt} (hx : ρ X = aq g x) (hy : ρ Y = aq g y) (h : eqS P S op t x y = some q) (hp : q.p) : Tells P ρ g S (.binOp op t X Y t') q := by
 unfold eqS at h
 split at h
 ·rename_i hc
  obtain ⟨c1, c2, c3⟩ := hc
  split at h
  ·rename_i r hr
   obtain ⟨cx, ex⟩ := wy c1 g
   obtain ⟨cy, ey⟩ := wy c2 g
   have he := wx g 12 t x y r hr
   rw [ex, ey] at he
   rw [ex] at hx
   rw [ey] at hy
   cases op <;> simp only at h <;> first
    | (cases h; done)
    | (cases h; exact ⟨⟨rfl, trivial, fun o h => by cases h⟩, fun _ _ _ w _ => KY hx hy c3 he rfl⟩)
  ·cases h
 ·cases h
theorem CY {op : BinOp} {t t' : TypeId} {X Y : Operand} {x y : SV} {q : Qt} (hx : ρ X = aq g x) (hy : ρ Y = aq g y) (h : J4 P S op t x y = some q) (hp : q.p) : Tells P ρ g S (.binOp op t X Y t') q := by
 unfold J4 at h
 split at h
 ·rename_i k x k' y
  have hx : ρ X = .int k x := hx
  have hy : ρ Y = .int k' y := hy
  split at h
  ·cases h
   have hp' : 0 ≤ (y : Int) := hp
   exact ⟨⟨rfl, trivial, fun o h => by cases h⟩, fun _ _ _ w _ => KZ hx hy hp' rfl⟩
  ·cases h
   have hp' : 0 ≤ (y : Int) := hp
   exact ⟨⟨rfl, trivial, fun o h => by cases h⟩, fun _ _ _ w _ => KZ hx hy hp' rfl⟩
  ·rename_i h1 h2
   split at h
   ·rename_i hk
    subst hk
    obtain ⟨q1, q2, q3, q4⟩ := CW (g := g) (S := S) (P := P) (t := t) h hp ⟨fun e => h1 e, fun e => h2 e⟩
    exact ⟨⟨q1, q3, by rw [q2]; intro o h; cases h⟩, fun _ _ _ w _ => iO hx hy q4 w⟩
   ·cases h
 ·exact CX hx hy h hp
 ·split at h
  ·rename_i ht
   obtain ⟨s, r, hr, ho⟩ := er (g := g) (S := S) h
   refine ⟨s, fun _ _ _ w _ => iO hx hy ?_ w⟩
   rw [hr]
   rcases ho with ⟨rfl, rfl⟩ | ⟨rfl, rfl⟩ <;> simp [aq, aU, aJ, ly, ht, nt]
  ·cases h
 ·split at h
  ·rename_i ht
   obtain ⟨s, r, hr, ho⟩ := er (g := g) (S := S) h
   refine ⟨s, fun _ _ _ w _ => iO hx hy ?_ w⟩
   rw [hr]
   rcases ho with ⟨rfl, rfl⟩ | ⟨rfl, rfl⟩ <;> simp [aq, aU, aJ, ly, ht, nt]
  ·cases h
 ·split at h
  ·rename_i ht
   obtain ⟨s, r, hr, ho⟩ := er (g := g) (S := S) h
   refine ⟨s, fun _ _ _ w _ => iO hx hy ?_ w⟩
   rw [hr]
   rcases ho with ⟨rfl, rfl⟩ | ⟨rfl, rfl⟩ <;> simp [aq, aU, aJ, ly, ht, nt]
  ·cases h
 ·split at h
  ·rename_i ht
   obtain ⟨s, r, hr, ho⟩ := er (g := g) (S := S) h
   refine ⟨s, fun _ _ _ w _ => iO hx hy ?_ w⟩
   rw [hr]
   rcases ho with ⟨rfl, rfl⟩ | ⟨rfl, rfl⟩ <;> simp [aq, aU, aJ, ly, ht, nt]
  ·cases h
 ·split at h
  ·rename_i ht
   obtain ⟨s, r, hr, ho⟩ := er (g := g) (S := S) h
   refine ⟨s, fun _ _ _ w _ => iO hx hy ?_ w⟩
   rw [hr]
   rcases ho with ⟨rfl, rfl⟩ | ⟨rfl, rfl⟩ <;> simp [aq, aU, aJ, ly, ht, nt]
  ·cases h
 ·split at h
  ·rename_i ht
   obtain ⟨s, r, hr, ho⟩ := er (g := g) (S := S) h
   refine ⟨s, fun _ _ _ w _ => iO hx hy ?_ w⟩
   rw [hr]
   rcases ho with ⟨rfl, rfl⟩ | ⟨rfl, rfl⟩ <;> simp [aq, aU, aJ, ly, ht, nt]
  ·cases h
 ·split at h
  ·rename_i ht
   obtain ⟨s, r, hr, ho⟩ := er (g := g) (S := S) h
   refine ⟨s, fun _ _ _ w _ => iO hx hy ?_ w⟩
   rw [hr]
   rcases ho with ⟨rfl, rfl⟩ | ⟨rfl, rfl⟩ <;> simp [aq, aU, aJ, ly, ht, nt]
  ·cases h
 ·split at h
  ·rename_i a b ha hb
   have hx : ρ X = .bool a := hx.trans (tD ha)
   have hy : ρ Y = .bool b := hy.trans (tD hb)
   split at h
   ·rename_i ht
    split at h <;> first
     | (cases h; done)
     | (cases h; exact ⟨⟨rfl, trivial, fun o h => by cases h⟩, fun _ _ _ w _ => iO hx hy (by simp [ly, ht]; rfl) w⟩)
   ·cases h
  ·exact yT hx hy h hp
 ·exact yT hx hy h hp
theorem E2 {op : UnOp} {t : TypeId} {X : Operand} {x : SV} {q : Qt} (hx : ρ X = aq g x) (h : unS op x = some q) : Tells P ρ g S (.unOp op t X) q := by
 have key : ∀ v, dF P ρ (.unOp op t X) = some v → ∀ w, cV P ρ (.unOp op t X) w v w := fun v hv w => aE hv w
 unfold unS at h
 split at h
 ·rename_i b
  have hx : ρ X = .bool b := hx
  cases op <;> simp only at h <;> first
   | (cases h; done)
   | (cases h; exact ⟨⟨rfl, trivial, fun o h => by cases h⟩, fun _ _ _ w _ => key _ (by simp [dF, hx]; rfl) w⟩)
 ·rename_i b
  have hx : ρ X = .bool b := hx
  cases op <;> simp only at h <;> first
   | (cases h; done)
   | (cases h; exact ⟨⟨rfl, trivial, fun o h => by cases h⟩, fun _ _ _ w _ => key _ (by simp [dF, hx]; rfl) w⟩)
 ·rename_i k x
  have hx : ρ X = .int k x := hx
  cases op <;> simp only at h <;> first
   | (cases h; done)
   | (cases h; exact ⟨⟨rfl, trivial, fun o h => by cases h⟩, fun _ _ _ w _ => key _ (by simp [dF, hx, vJ]; rfl) w⟩)
 ·cases h
theorem jG {g : Env} {S : St} {w0 w : World} {D A : Nat → Prop} {o e : Nat} {d : Kd} {xs : List (bm d).den} {hl : Option Nat} (C : Cx g S w0 D A w) (ho : S.ob o = .fleet e d xs hl) : Rds (g o).v xs.length 1 (g o).cs w := by
 have := C.okL o
 simp only [ho] at this
 exact kD (e := e) (this none)
theorem CZ {t : TypeId} {X : Operand} {x : SV} {q : Qt} (hx : ρ X = aq g x) (h : J5 P S t x = some q) : Tells P ρ g S (.call { callee := .builtin .len, args := #[X], argTypes := #[t] }) q := by
 unfold J5 at h
 split at h
 ·rename_i s
  have hx : ρ X = .string s := hx
  split at h
  ·rename_i ht
   cases h
   exact ⟨⟨rfl, trivial, fun o h => by cases h⟩, fun _ _ _ w _ => aE (by simp [dF, tN, ht, hx]; rfl) w⟩
  ·cases h
 ·rename_i o
  split at h
  ·rename_i ht
   split at h
   ·rename_i e u xs m fu ho
    cases h
    exact ⟨⟨rfl, trivial, fun o h => by cases h⟩, fun _ _ _ w C => sP (dV (jx C ho)) hx (by simp [ht])⟩
   ·rename_i e d xs hl ho
    cases h
    exact ⟨⟨rfl, trivial, fun o h => by cases h⟩, fun _ _ _ w C => sP (dV (jG C ho)) hx (by simp [ht])⟩
   ·cases h
  ·cases h
 ·split at h
  ·rename_i ht
   cases h
   exact ⟨⟨rfl, trivial, fun o h => by cases h⟩, fun _ _ _ w C => sP (n := 0) (dV (mb 1 w)) hx (by simp [ht])⟩
  ·cases h
 ·split at h
  ·rename_i ht
   cases h
   exact ⟨⟨rfl, trivial, fun o h => by cases h⟩, fun _ _ _ w C => sP (n := 0) (dV (mb 1 w)) hx (by simp [ht])⟩
  ·cases h
 ·split at h
  ·rename_i ht
   cases h
   exact ⟨⟨rfl, trivial, fun o h => by cases h⟩, fun _ _ _ w C => sP (n := 0) (dV (mb 1 w)) hx (by simp [ht])⟩
  ·cases h
 ·cases h
theorem wz {big : Bool} {Xs : Array Operand} {ts : Array TypeId} {xs : List SV} {q : Qt} (hx : Xs.toList.map ρ = xs.map (aq g)) (h : HF big xs = some q) :
 Tells P ρ g S (.call { callee := .builtin (if big then .max else .min), args := Xs, argTypes := ts }) q := by
 unfold HF at h
 split at h
 ·rename_i k x k' y
  cases h
  match hl : Xs.toList, hx with
  | [X, Y], hx =>
    simp only [List.map_cons, List.map_nil, List.cons.injEq, and_true] at hx
    have h1 : ρ X = .int k x := hx.1
    have h2 : ρ Y = .int k' y := hx.2
    refine ⟨⟨rfl, trivial, fun o h => by cases h⟩, fun _ _ _ w _ => aE ?_ w⟩
    cases big <;> simp [dF, tN, hl, h1, h2] <;> rfl
  | [], hx => simp at hx
  | [_], hx => simp at hx
  | _ :: _ :: _ :: _, hx => simp at hx
 ·rename_i k x k' y k'' z
  cases h
  match hl : Xs.toList, hx with
  | [X, Y, Z], hx =>
    simp only [List.map_cons, List.map_nil, List.cons.injEq, and_true] at hx
    have h1 : ρ X = .int k x := hx.1
    have h2 : ρ Y = .int k' y := hx.2.1
    have h3 : ρ Z = .int k'' z := hx.2.2
    refine ⟨⟨rfl, trivial, fun o h => by cases h⟩, fun _ _ _ w _ => aE ?_ w⟩
    cases big <;> simp [dF, tN, hl, h1, h2, h3] <;> rfl
  | [], hx => simp at hx
  | [_], hx => simp at hx
  | [_, _], hx => simp at hx
  | _ :: _ :: _ :: _ :: _, hx => simp at hx
 ·cases h
theorem C7 (hb : ∀ i, obP g i (S.ob i)) {t : TypeId} {X Y : Operand} {x y : SV} {q : Qt} (hx : ρ X = aq g x) (hy : ρ Y = aq g y) (hr : ∀ o ∈ aL x, o < S.obs.length) (h : J6 P S t x y = some q) (hp : q.p) : Tells P ρ g S (.indexAddr t X Y) q := by
 unfold J6 at h
 split at h
 ·rename_i o k i
  split at h
  ·rename_i e u xs m fu ho
   split at h
   ·rename_i ht
    cases h
    have hp' : 0 ≤ (i : Int) ∧ (i : Int) < xs.length := hp
    refine ⟨⟨rfl, ?_, hr⟩, fun _ _ _ w C => ?_⟩
    ·intro e' t' xs' m' fu' he
     rw [ho] at he
     cases he
     exact ⟨hp'.1, hp'.2, rfl⟩
    ·have := Em (P := P) (ρ := ρ) (w := w) (t := t) (x := X) (y := Y) (i := i) (k := k) (sz := u.sz) (dV (jx C ho)) hx hy hp'.1 hp'.2 ht
     have e : aq g (.v (.elp o u.sz i 0)) = .pointer (some (il (g o).v (i.toNat * u.sz))) := by simp [aq, aU, Addr.add]
     show cV P ρ _ w (aq g (.v (.elp o u.sz i 0))) w
     rw [e]
     exact this
   ·cases h
  ·rename_i e d xs hl ho
   split at h
   ·rename_i ht
    cases h
    have hp' : 0 ≤ (i : Int) ∧ (i : Int) < xs.length := hp
    refine ⟨⟨rfl, ?_, hr⟩, fun _ _ _ w C => ?_⟩
    ·intro e' t' xs' m' fu' he
     rw [ho] at he
     cases he
    ·have := Em (P := P) (ρ := ρ) (w := w) (t := t) (x := X) (y := Y) (i := i) (k := k) (sz := 1) (dV (jG C ho)) hx hy hp'.1 hp'.2 ht
     have e : aq g (.v (.elp o 1 i 0)) = .pointer (some (il (g o).v (i.toNat * 1))) := by simp [aq, aU, Addr.add]
     show cV P ρ _ w (aq g (.v (.elp o 1 i 0))) w
     rw [e]
     exact this
   ·cases h
  ·cases h
 ·rename_i b off k i
  split at h
  ·rename_i T ls hob
   split at h
   ·rename_i m u vec rest hs
    split at h
    ·rename_i ht
     cases h
     have hp' : 0 ≤ (i : Int) ∧ (i : Int) < m := hp
     refine ⟨⟨rfl, hp', hr⟩, fun _ _ _ w C => ?_⟩
     exact J0 (P := P) (ρ := ρ) (n := m) hx hy hp'.1 hp'.2 ht
    ·cases h
   ·cases h
  ·cases h
 ·cases h
theorem B0 {u : Ty} (h : u.sc1 = true) (x : u.den) : (am u).cells x = [aq g (.v (.a (.fl u x)))] := by
 cases u <;> first | rfl | (simp [Ty.sc1] at h)
theorem E3 {t : TypeId} {X Y : Operand} {x y : SV} {q : Qt} (hx : ρ X = aq g x) (hy : ρ Y = aq g y) (h : idx P t x y = some q) (hp : q.p) : Tells P ρ g S (.index t X Y) q := by
 unfold idx at h
 split at h
 ·rename_i s k i
  split at h
  ·rename_i ht
   cases h
   have hp' : 0 ≤ (i : Int) ∧ (i : Int) < (s.size : Int) := hp
   exact ⟨⟨rfl, trivial, fun o h => by cases h⟩, fun _ _ _ w _ => JY hx hy hp'.1 hp'.2 (by simp [ht])⟩
  ·cases h
 ·rename_i m u vec k i
  split at h
  ·rename_i ht
   cases h
   have hp' : 0 ≤ (i : Int) ∧ (i : Int) < m := hp
   obtain ⟨h1, h2, h4⟩ := ht
   refine ⟨⟨rfl, trivial, fun o h => by cases h⟩, fun _ _ _ w _ => ?_⟩
   exact J1 (F := am u) (n := m) (vec := vec) hx hy hp'.1 hp'.2 (by rw [aK]; exact h1) h4 (by rw [cX]; exact B0 h2 _)
  ·cases h
 ·cases h
theorem yU {t : TypeId} {f : Nat} {X : Operand} {x : SV} {q : Qt} (hx : ρ X = aq g x) (hok : okS S x) (hr : ∀ o ∈ aL x, o < S.obs.length) (h : AC P t f x = some q) : Tells P ρ g S (.fieldAddr t X f) q := by
 unfold AC at h
 split at h
 ·rename_i b off
  obtain ⟨fo, hfo, rfl⟩ := Option.map_eq_some_iff.1 h
  have hx : ρ X = .pointer (some ⟨(g b).b, off, none⟩) := hx
  exact ⟨⟨rfl, trivial, hr⟩, fun _ _ _ w _ => aE (by simp only [dF, hx, hfo, bG]; rfl) w⟩
 ·rename_i o k off
  obtain ⟨fo, hfo, rfl⟩ := Option.map_eq_some_iff.1 h
  have hx : ρ X = .pointer (some ⟨gq (g o) k.toNat, off, none⟩) := hx
  exact ⟨⟨rfl, trivial, hr⟩, fun _ _ _ w _ => aE (by simp only [dF, hx, hfo, bG]; rfl) w⟩
 ·rename_i o sz i off
  obtain ⟨fo, hfo, rfl⟩ := Option.map_eq_some_iff.1 h
  have hx : ρ X = .pointer (some ((il (g o).v (i.toNat * sz)).add off)) := hx
  exact ⟨⟨rfl, hok, hr⟩, fun _ _ _ w _ => aE (by simp only [dF, hx, hfo, add_add]; rfl) w⟩
 ·cases h
theorem HP {t ft : TypeId} {f off sz : Nat} {X : Operand} {cs : List Value} {v : Value} (hx : ρ X = .agg cs.toArray) (hf : nv P t f = some (ft, off)) (hv : kw P ft cs off = some v) (w : World) : cV P ρ (.field t X f) w v w := by
 intro o ho
 unfold nv at hf
 split at hf
 ·rename_i fs hu
  obtain ⟨fd, hfd, he⟩ := Option.map_eq_some_iff.1 hf
  cases he
  have := lB (w := w) (cs := cs.toArray) (by simpa using hv)
  simp [execOp, ho, Instr.field, run_underlying hu, hfd, hx, asAgg, this]
 ·cases hf
theorem yV {t : TypeId} {f : Nat} {X : Operand} {x : SV} {q : Qt} (hx : ρ X = aq g x) (hr : ∀ o ∈ aL x, o < S.obs.length) (h : AB P t f x = some q) : Tells P ρ g S (.field t X f) q := by
 unfold AB at h
 split at h
 ·rename_i ls
  split at h
  ·rename_i ft off hf
   split at h
   ·rename_i m hm
    obtain ⟨v, hv, rfl⟩ := Option.map_eq_some_iff.1 h
    obtain ⟨seg, hseg, hof⟩ := Option.bind_eq_some_iff.1 hv
    obtain ⟨pre, post, e, s1, s2⟩ := lE hseg
    have hrf := kE hof
    have hcells := eY g (pre := pre) (seg := seg) (post := post) s1 s2
    rw [← e] at hcells
    refine ⟨⟨rfl, hrf.2 S, fun o ho => hr o ?_⟩, fun _ _ _ w _ => ?_⟩
    ·change o ∈ aL v at ho
     rw [hrf.1] at ho
     simp only [aL, bi, e, List.flatMap_append, List.mem_append]
     exact .inr (.inl ho)
    ·refine HP (cs := aw g ls) (off := off) (sz := m) hx hf ?_ w
     rcases gU hof hm s2 with ⟨hs, a, ha, hc, rfl⟩ | ⟨hs, he⟩
     ·have h1 := nG g hc
      have hm1 : m = 1 := by rw [← s2, ← bu g, ha]; simp [aw, h1]
      subst hm1
      unfold kw
      rw [if_pos hs]
      have : aw g seg = [aJ g a] := by rw [ha]; simp [aw, h1]
      rw [this] at hcells
      have h2 := congrArg (·[0]?) hcells
      simp only [List.getElem?_take, List.getElem?_drop] at h2
      show (aw g ls)[off]? = some (aJ g a)
      simpa using h2
     ·have hk := he g
      unfold xt at hs
      simp only [Bool.and_eq_true, beq_iff_eq] at hs
      unfold kw
      have hns : kq P ft = false := by
       unfold kq
       have := hs.1
       simp only [Bool.or_eq_true, beq_iff_eq] at this
       rcases this with h | h <;> simp [h]
      rw [if_neg (by rw [hns]; simp), if_pos hs.1]
      obtain ⟨i, hi, his⟩ := Option.map_eq_some_iff.1 hs.2
      simp only [q0, hi, Option.map_some, his, hcells, hk]
   ·cases h
  ·cases h
 ·cases h
end
end Go.Proofs.YtlepjakmadlkjaaGreatDoor
