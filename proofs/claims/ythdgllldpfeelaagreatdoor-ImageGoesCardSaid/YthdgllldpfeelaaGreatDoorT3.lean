/- Texts of the proof, put together: part 3. No condition. -/
import Derived.Test.YthdgllldpfeelaaGreatDoorT2
/- Shapes of states, what fills them; a state put in order; code by signs. No condition. -/
set_option linter.unusedVariables false
set_option linter.unusedSimpArgs false
namespace Go.Proofs.YthdgllldpfeelaaGreatDoor
open Go

/-- A state in order: what is new in it, against another one. -/
structure Nst where
  slots : List (Nat × SV)
  boxes : List (Nat × Ob)
  news : List Ob
def shA : At → ASh
  | .fl t _ => .fl t
  | .lit _ => .fl .bool
  | .sl o => .sl o
  | .ptr b off => .ptr b off
  | .asl b off n => .asl b off n
  | .nil0 => .nil0
  | .nilp => .nilp
  | .nilf => .nilf
  | .nili => .nili
  | _ => .un
def shV : V1 → VSh
  | .a x => .a (shA x)
  | .fn f fs cs => .fn f (fs.map shA) (cs.map shA)
  | .st ls => .st (ls.map shA)
  | _ => .a .un
def shS : SV → SSh
  | .v x => .v (shV x)
  | .tup xs => .tup (xs.map shV)
def shO : Ob → OSh
  | .box T ls => .box T (ls.map shA)
  | .row e t _ m _ => .row e t m
  | .gone => .gone
def shN (N : Nst) : NSh := ⟨N.slots.map fun p => (p.1, shS p.2), N.boxes.map fun p => (p.1, shO p.2), N.news.map shO⟩
def coA : At → List Dyn
  | .fl t x => [⟨t, x⟩]
  | .lit b => [⟨.bool, b⟩]
  | _ => []
def coL (ls : List At) : List Dyn := ls.flatMap coA
def coV : V1 → List Dyn
  | .a x => coA x
  | .fn _ fs cs => coL fs ++ coL cs
  | .st ls => coL ls
  | _ => []
def coS : SV → List Dyn
  | .v x => coV x
  | .tup xs => xs.flatMap coV
def coO : Ob → List Dyn
  | .box _ ls => coL ls
  | .row e t xs _ _ => [⟨.sl e t, xs⟩]
  | .gone => []
def coN (N : Nst) : List Dyn := N.slots.flatMap (fun p => coS p.2) ++ N.boxes.flatMap (fun p => coO p.2) ++ N.news.flatMap coO
def cdA : ASh → List Ty
  | .fl t => [t]
  | _ => []
def cdL (ls : List ASh) : List Ty := ls.flatMap cdA
def cdV : VSh → List Ty
  | .a x => cdA x
  | .fn _ fs cs => cdL fs ++ cdL cs
  | .st ls => cdL ls
def cdS : SSh → List Ty
  | .v x => cdV x
  | .tup xs => xs.flatMap cdV
def cdO : OSh → List Ty
  | .box _ ls => cdL ls
  | .row e t _ => [.sl e t]
  | .gone => []
def NSh.codes (s : NSh) : List Ty := s.slots.flatMap (fun p => cdS p.2) ++ s.boxes.flatMap (fun p => cdO p.2) ++ s.news.flatMap cdO
/-- What fills a shape. -/
def fiA : ASh → List Dyn → Option (At × List Dyn)
  | .fl t, d :: ds => (castT (a := d.1) (b := t) d.2).map fun x => (.fl t x, ds)
  | .fl _, [] => none
  | .sl o, ds => some (.sl o, ds)
  | .ptr b off, ds => some (.ptr b off, ds)
  | .asl b off n, ds => some (.asl b off n, ds)
  | .nil0, ds => some (.nil0, ds)
  | .nilp, ds => some (.nilp, ds)
  | .nilf, ds => some (.nilf, ds)
  | .nili, ds => some (.nili, ds)
  | .un, ds => some (.un, ds)
def fiList {α β : Type} (f : α → List Dyn → Option (β × List Dyn)) : List α → List Dyn → Option (List β × List Dyn)
  | [], ds => some ([], ds)
  | x :: xs, ds => match f x ds with
    | some (y, ds1) => match fiList f xs ds1 with
      | some (ys, ds2) => some (y :: ys, ds2)
      | none => none
    | none => none
def fiV : VSh → List Dyn → Option (V1 × List Dyn)
  | .a x, ds => (fiA x ds).map fun p => (.a p.1, p.2)
  | .fn f fs cs, ds => match fiList fiA fs ds with
    | some (a, ds1) => (fiList fiA cs ds1).map fun p => (.fn f a p.1, p.2)
    | none => none
  | .st ls, ds => (fiList fiA ls ds).map fun p => (.st p.1, p.2)
def fiS : SSh → List Dyn → Option (SV × List Dyn)
  | .v x, ds => (fiV x ds).map fun p => (.v p.1, p.2)
  | .tup xs, ds => (fiList fiV xs ds).map fun p => (.tup p.1, p.2)
def fiO : OSh → List Dyn → Option (Ob × List Dyn)
  | .box T ls, ds => (fiList fiA ls ds).map fun p => (.box T p.1, p.2)
  | .row e t m, d :: ds => (castT (a := d.1) (b := .sl e t) d.2).map fun (xs : List t.den) => (.row e t xs m false, ds)
  | .row _ _ _, [] => none
  | .gone, ds => some (.gone, ds)
def fiP {α β : Type} (f : α → List Dyn → Option (β × List Dyn)) (p : Nat × α) (ds : List Dyn) : Option ((Nat × β) × List Dyn) := (f p.2 ds).map fun q => ((p.1, q.1), q.2)
def fiN (s : NSh) (ds : List Dyn) : Option Nst :=
  match fiList (fiP fiS) s.slots ds with
  | some (sl, ds1) => match fiList (fiP fiO) s.boxes ds1 with
    | some (bx, ds2) => (fiList fiO s.news ds2).map fun p => ⟨sl, bx, p.1⟩
    | none => none
  | none => none

/-! ### a state in order -/
inductive Src where
  | ob (o : Nat)
  | nil (e : Nat) (t : Ty)
def findSrc (o : Nat) : List Src → Nat → Option Nat
  | [], _ => none
  | .ob p :: r, j => if p = o then some j else findSrc o r (j + 1)
  | .nil _ _ :: r, j => findSrc o r (j + 1)
def renId (nb o : Nat) (pl : List Src) : Nat × List Src :=
  match findSrc o pl 0 with
  | some j => (nb + j, pl)
  | none => (nb + pl.length, pl ++ [.ob o])
def renA (S : St) (nb : Nat) (sy : List Nat) : At → List Src → Option (At × List Src)
  | .fl t x, pl => some (.fl t x, pl)
  | .lit b, pl => some (.fl .bool b, pl)
  | .sl o, pl => match S.ob o with
    | .row _ _ _ .own _ => if decide (o < nb) && sy.elem o then some (.sl o, pl) else some (.sl (renId nb o pl).1, (renId nb o pl).2)
    | .row _ _ _ _ _ => some (.sl (nb + pl.length), pl ++ [.ob o])
    | _ => none
  | .nils e t, pl => some (.sl (nb + pl.length), pl ++ [.nil e t])
  | .nil0, pl => some (.nil0, pl)
  | .ptr b off, pl => if b < nb then some (.ptr b off, pl) else some (.ptr (renId nb b pl).1 off, (renId nb b pl).2)
  | .asl b off n, pl => if b < nb then some (.asl b off n, pl) else some (.asl (renId nb b pl).1 off n, (renId nb b pl).2)
  | .nilp, pl => some (.nilp, pl)
  | .nilf, pl => some (.nilf, pl)
  | .nili, pl => some (.nili, pl)
  | .un, pl => some (.un, pl)
def renList {α : Type} (f : α → List Src → Option (α × List Src)) : List α → List Src → Option (List α × List Src)
  | [], pl => some ([], pl)
  | x :: xs, pl => match f x pl with
    | some (y, pl1) => match renList f xs pl1 with
      | some (ys, pl2) => some (y :: ys, pl2)
      | none => none
    | none => none
def renV (S : St) (nb : Nat) (sy : List Nat) : V1 → List Src → Option (V1 × List Src)
  | .a x, pl => (renA S nb sy x pl).map fun p => (.a p.1, p.2)
  | .fn f fs cs, pl => match renList (renA S nb sy) fs pl with
    | some (a, pl1) => (renList (renA S nb sy) cs pl1).map fun p => (.fn f a p.1, p.2)
    | none => none
  | .st ls, pl => (renList (renA S nb sy) ls pl).map fun p => (.st p.1, p.2)
  | _, _ => none
def renS (S : St) (nb : Nat) (sy : List Nat) : SV → List Src → Option (SV × List Src)
  | .v x, pl => (renV S nb sy x pl).map fun p => (.v p.1, p.2)
  | .tup xs, pl => (renList (renV S nb sy) xs pl).map fun p => (.tup p.1, p.2)
/-- The slots of some numbers; those that can't be told are left out. -/
def renSlots (S : St) (nb : Nat) (sy : List Nat) : List Nat → List Src → List (Nat × SV) × List Src
  | [], pl => ([], pl)
  | t :: ts, pl => match (lookS S.slots t).bind fun v => renS S nb sy v pl with
    | some (v, pl1) => ((t, v) :: (renSlots S nb sy ts pl1).1, (renSlots S nb sy ts pl1).2)
    | none => renSlots S nb sy ts pl
def renBoxes (S : St) (nb : Nat) (sy : List Nat) : List Nat → List Src → Option (List (Nat × Ob) × List Src)
  | [], pl => some ([], pl)
  | b :: bs, pl => match S.ob b with
    | .box T ls => match renList (renA S nb sy) ls pl with
      | some (ls', pl1) => (renBoxes S nb sy bs pl1).map fun p => ((b, .box T ls') :: p.1, p.2)
      | none => none
    | .row e t xs m _ => (renBoxes S nb sy bs pl).map fun p => ((b, if sy.elem b then .row e t xs m false else .gone) :: p.1, p.2)
    | .gone => (renBoxes S nb sy bs pl).map fun p => ((b, .gone) :: p.1, p.2)
def renNews (S : St) (nb : Nat) (sy : List Nat) : Nat → Nat → List Src → Option (List Ob × List Src)
  | 0, _, _ => none
  | fuel + 1, j, pl => match pl[j]? with
    | none => some ([], pl)
    | some (.nil e t) => (renNews S nb sy fuel (j + 1) pl).map fun p => (.row e t [] .own false :: p.1, p.2)
    | some (.ob o) => match S.ob o with
      | .box T ls => match renList (renA S nb sy) ls pl with
        | some (ls', pl1) => (renNews S nb sy fuel (j + 1) pl1).map fun p => (.box T ls' :: p.1, p.2)
        | none => none
      | .row e t xs m _ => (renNews S nb sy fuel (j + 1) pl).map fun p => (.row e t xs m false :: p.1, p.2)
      | .gone => none
def norm (nb : Nat) (sy M C : List Nat) (S : St) : Option (Nst × List Src) :=
  match renBoxes S nb sy M (renSlots S nb sy C []).2 with
  | some (bx, pl1) => (renNews S nb sy 200 0 pl1).map fun p => (⟨(renSlots S nb sy C []).1, bx, p.1⟩, p.2)
  | none => none
/-- Which rows parts speak of. -/
def rfA : At → List Nat
  | .sl o => [o]
  | _ => []
def rfV : V1 → List Nat
  | .a x => rfA x
  | .fn _ fs cs => fs.flatMap rfA ++ cs.flatMap rfA
  | .st ls => ls.flatMap rfA
  | .elp o _ _ _ => [o]
  | _ => []
def rfS : SV → List Nat
  | .v x => rfV x
  | .tup xs => xs.flatMap rfV
/-- The rows of one's own, of below nb, that are handed on. -/
def movedSrc (S : St) (nb : Nat) (pl : List Src) : List Nat := pl.filterMap fun
  | .ob o => match S.ob o with
    | .row _ _ _ .own _ => if o < nb then some o else none
    | _ => none
  | _ => none

/-! ### classes of shapes -/
def leM : Md → Md → Bool
  | .own, _ => true
  | .rd, .own => false
  | .rd, _ => true
  | .lent, .lent => true
  | .lent, _ => false
def leO : OSh → OSh → Bool
  | .row e t m, .row e' t' m' => decide (e = e' ∧ t = t') && leM m m'
  | a, b => decide (a = b)
def leOs : List OSh → List OSh → Bool
  | [], [] => true
  | a :: as, b :: bs => leO a b && leOs as bs
  | _, _ => false
/-- A state of the first shape may stand for one of the second. -/
def leN (a b : NSh) : Bool := decide (a.slots = b.slots) && decide (a.boxes.map (·.1) = b.boxes.map (·.1)) && leOs (a.boxes.map (·.2)) (b.boxes.map (·.2)) && leOs a.news b.news
def findCls (e : Ek) (s : NSh) : List (Ek × NSh) → Nat → Option Nat
  | [], _ => none
  | (e', s') :: r, i => if e = e' ∧ leN s s' = true then some i else findCls e s r (i + 1)
@[reducible] def DenL : List (List Ty) → Type
  | [] => Empty
  | [c] => HL c
  | c :: d :: r => HL c ⊕ DenL (d :: r)
def injL : (cs : List (List Ty)) → Nat → List Dyn → Option (DenL cs)
  | [c], 0, ds => fromD c ds
  | c :: _ :: _, 0, ds => (fromD c ds).map .inl
  | _ :: d :: r, i + 1, ds => (injL (d :: r) i ds).map .inr
  | _, _, _ => none
def caseS {α β R : Type} (x : α ⊕ β) (f : α → R) (g : β → R) : R :=
  match x with
  | .inl a => f a
  | .inr b => g b
def elimL {R : Type} : (cs : List (List Ty)) → DenL cs → (Nat → List Dyn → R) → R
  | [], x, _ => nomatch x
  | [c], x, f => f 0 (toD c x)
  | c :: d :: r, x, f => caseS x (fun x => f 0 (toD c x)) (fun y => elimL (d :: r) y (fun i => f (i + 1)))

/-! ### which slots are read later -/
def bit (b t : Nat) : Bool := b.testBit t
def bitOf : Operand → Nat
  | .tmp t => 1 <<< t
  | _ => 0
def bitsOf (xs : List Operand) : Nat := xs.foldl (fun b x => b ||| bitOf x) 0
def diff (a b : Nat) : Nat := a ^^^ (a &&& b)
def liveOps (all : List Oper) : List Oper → Nat → Nat
  | [], out => out
  | o :: os, out =>
    let l := liveOps all os out
    let l := match o.dst with
      | some d => diff l (1 <<< d)
      | none => l
    let l := l ||| bitsOf o.op.operands.toList
    match o.guard with
    | some (g, _) => match (all[g]?).bind (·.dst) with
      | some d => l ||| (1 <<< d)
      | none => l
    | none => l
def exBits (ex : List (Nat × Nat)) (i : Nat) : Nat :=
  match ex with
  | [] => 0
  | (j, b) :: r => if j = i then b else exBits r i
def liveC : Code → List (Nat × Nat) → Nat → Nat → Nat
  | .region _ ops _, _, _, out => liveOps ops.toList ops.toList out
  | .seq a b, ex, rl, out => liveC a ex rl (liveC b ex rl out)
  | .cond c t e, ex, rl, out => bitOf c ||| liveC t ex rl out ||| liveC e ex rl out
  | .block i b, ex, rl, out => liveC b ((i, out) :: ex) rl out
  | .loop b, ex, rl, _ => liveC b ex rl 0
  | .scope b, ex, rl, out => liveC b ex rl out
  | .rangeFunc f _ a b, ex, rl, out => bitOf f ||| liveC a ex rl (liveC b ex rl 0) ||| out
  | .exit i, ex, _, _ => exBits ex i
  | .ret, _, rl, _ => rl
  | _, _, _, out => out
def defsOps : List Oper → Nat
  | [] => 0
  | o :: os => (match o.dst with | some d => 1 <<< d | none => 0) ||| defsOps os
def defsC : Code → Nat
  | .region _ ops _ => defsOps ops.toList
  | .seq a b => defsC a ||| defsC b
  | .cond _ t e => defsC t ||| defsC e
  | .block _ b => defsC b
  | .loop b => defsC b
  | .scope b => defsC b
  | .rangeFunc _ ps a b => ps.toList.foldl (fun x p => x ||| (1 <<< p)) 0 ||| defsC a ||| defsC b
  | _ => 0
def bitsToList (n : Nat) (b : Nat) : List Nat := (List.range n).filter (bit b)
def insN (x : Nat) : List Nat → List Nat
  | [] => [x]
  | y :: r => if x = y then y :: r else if x < y then x :: y :: r else y :: insN x r
def sortN (l : List Nat) : List Nat := l.foldl (fun r x => insN x r) []

/-! ### what is made of a state -/
/-- The algebra of what comes out: in earnest, or dry. -/
structure Alg (R : Type) where
  fail : String → R
  miss : Nat → NSh → R
  ite : Bool → R → R → R
  guard : (p : Prop) → Decidable p → R → R
  bind : (cs : List (List Ty)) → Option (DenL cs) → (Nat → List Dyn → R) → R
  bind2 : (cs ds : List (List Ty)) → Option (DenL cs ⊕ DenL ds) → (Nat → List Dyn → R) → (Nat → List Dyn → R) → R
  both : List Nat → (Unit → R) → (Unit → R) → R
/-- Both, if they are the same. -/
noncomputable def bothO {α : Type} (x y : Option α) : Option α := open Classical in if x = y then x else none
theorem bothO_same {α : Type} (x : Option α) : bothO x x = x := by unfold bothO; rw [if_pos rfl]
theorem bothO_some {α : Type} {x y : Option α} {o : α} (h : bothO x y = some o) : x = some o ∧ y = some o := by
  unfold bothO at h
  split at h
  · rename_i e; exact ⟨h, e ▸ h⟩
  · cases h
def condO {α : Type} (b : Bool) (x y : Option α) : Option α :=
  match b with
  | true => x
  | false => y
noncomputable def optA (α : Type) : Alg (Option α) :=
  ⟨fun _ => none, fun _ _ => none, condO, fun p d x => if p then x else none, fun cs o f => o.bind fun y => elimL cs y f,
   fun cs ds o f g => o.bind fun y => caseS y (fun a => elimL cs a f) (fun b => elimL ds b g), fun _ x y => bothO (x ()) (y ())⟩
def loopK {H E : Type} : Nat → (H → Option (H ⊕ E)) → H → Option E
  | 0, _, _ => none
  | k + 1, step, x => (step x).bind fun y => caseS y (fun h => loopK k step h) some
/-- Over a list, one by one. -/
def iterL {α H E : Type} : List α → (H → α → Option (H ⊕ E)) → H → Option (H ⊕ E)
  | [], _, h => some (.inl h)
  | a :: l, step, h => (step h a).bind fun y => caseS y (fun h => iterL l step h) (fun e => some (.inr e))
def foldL {α H : Type} : List α → (H → α → Option H) → H → Option H
  | [], _, h => some h
  | a :: l, step, h => (step h a).bind fun h => foldL l step h
/-- A list's places and elements, the last one first. -/
def backL {α : Type} (xs : List α) : List (Int × α) := (xs.zipIdx.map fun p => ((p.2 : Int), p.1)).reverse
/-- A state with other parts: those of N, against S. -/
def fillB (S : St) (dfs : Nat) (N : Nst) : St :=
  ⟨(S.slots.filter fun p => !(bit dfs p.1)) ++ N.slots, N.boxes.foldl (fun l p => l.set p.1 p.2) S.obs ++ N.news, N.boxes.map (·.1) ++ S.mods, S.pl⟩
/-- A function's contract: what it is given, what comes out. -/
structure Con where
  fn : Nat
  pat : NSh
  out : List NSh
  f : Nat → HL pat.codes → Option (DenL (out.map NSh.codes))
/-- Where a callee's object stands with the caller. -/
def srcId (S : St) (pl : List Nat) (i : Nat) : Nat := if i < pl.length then pl.getD i 0 else S.obs.length + (i - pl.length)
def mvA (g : Nat → Nat) : At → At
  | .sl o => .sl (g o)
  | .ptr b off => .ptr (g b) off
  | .asl b off n => .asl (g b) off n
  | a => a
def mvV (g : Nat → Nat) : V1 → V1
  | .a x => .a (mvA g x)
  | .fn f fs cs => .fn f (fs.map (mvA g)) (cs.map (mvA g))
  | .st ls => .st (ls.map (mvA g))
  | v => v
def mvS (g : Nat → Nat) : SV → SV
  | .v x => .v (mvV g x)
  | .tup xs => .tup (xs.map (mvV g))
def mvO (g : Nat → Nat) : Ob → Ob
  | .box T ls => .box T (ls.map (mvA g))
  | o => o
def vsOf : List (Nat × SV) → Option (List V1)
  | [] => some []
  | (_, .v x) :: l => (vsOf l).map (x :: ·)
  | (_, .tup _) :: _ => none
def results : List (Nat × SV) → Option SV
  | [(_, v)] => some v
  | l => (vsOf l).map .tup
def noLent : Ob → Bool
  | .row _ _ _ .lent _ => false
  | _ => true
def nodupB : List Nat → Bool
  | [] => true
  | x :: l => !(l.elem x) && nodupB l
/-- The caller's state behind a call. -/
def instOut (S : St) (pl : List Nat) (N : Nst) : Option (St × SV) :=
  if (N.boxes.all fun p => decide (p.1 < pl.length) && noLent p.2) && N.news.all noLent && nodupB (N.boxes.map fun p => srcId S pl p.1) then
    (results (N.slots.map fun p => (p.1, mvS (srcId S pl) p.2))).map fun v =>
      (⟨S.slots, N.boxes.foldl (fun l p => l.set (srcId S pl p.1) (mvO (srcId S pl) p.2)) S.obs ++ N.news.map (mvO (srcId S pl)), N.boxes.map (fun p => srcId S pl p.1) ++ S.mods, S.pl⟩, v)
  else none
/-- What is to be read by the callee, and not lent, is no more owned. -/
def demote (S : St) : List Nat → List OSh → St
  | o :: pl, .row _ _ .rd :: os => match S.ob o with
    | .row e t xs .own fu => demote (S.setOb o (.row e t xs .rd fu)) pl os
    | _ => demote S pl os
  | _ :: pl, _ :: os => demote S pl os
  | _, _ => S
/-- The rows of nothing that are given get objects of their own. -/
def nilObs : List Src → List Ob
  | [] => []
  | .nil e t :: pl => .row e t [] .own false :: nilObs pl
  | .ob _ :: pl => .gone :: nilObs pl
def plB (n : Nat) : List Src → Bool
  | [] => true
  | .ob o :: pl => decide (o < n) && plB n pl
  | .nil _ _ :: pl => plB n pl
def noNil : Nat → List Src → List Nat
  | _, [] => []
  | n, .nil _ _ :: pl => n :: noNil (n + 1) pl
  | n, .ob o :: pl => o :: noNil (n + 1) pl
def findCon (f : Nat) (s : NSh) : List Con → Option Con
  | [] => none
  | c :: r => if c.fn = f ∧ leN s c.pat = true then some c else findCon f s r
def numbered {α : Type} : Nat → List α → List (Nat × α)
  | _, [] => []
  | i, x :: xs => (i, x) :: numbered (i + 1) xs
def typeArgs (P : Program) (f : Nat) (xs : List SV) : List SV :=
  match P.funcs[f]? with
  | some fn => xs.zipIdx.map fun (x, i) => match fn.params[i]? with
    | some t => typedV P t x
    | none => x
  | none => xs
/-- How a function is walked in place. -/
abbrev Inl := Nat → List SV → (R : Type) → Alg R → St → (St → SV → R) → R
section
variable {R : Type} (A : Alg R) (P : Program) (Γ : List Con) (inl : List Nat) (H : Inl) (k : Nat)
def fnName (f : Nat) : String := match P.funcs[f]? with | some fn => fn.name | none => "?"
/-- The package's variables of which slots speak. -/
def globs (S : St) : List Nat := (S.slots.filter fun p => decide (rG ≤ p.1)).map fun p => p.1 % shift
def pseudo (S : St) (gs : List Nat) : List (Nat × SV) := gs.filterMap fun b => (lookG S.slots b).map fun v => (rG + b, v)
def callG (gs : List Nat) (S : St) (f : Nat) (xs : List SV) (K : St → SV → R) : R :=
  match norm 0 [] [] (List.range xs.length ++ gs.map (rG + ·)) { S with slots := numbered 0 xs ++ pseudo S gs } with
  | some (N, pl) => if N.slots.map (·.1) = List.range xs.length ++ gs.map (rG + ·) ∧ plB S.obs.length pl = true ∧ (gs.all (fun b => decide (b < shift)) && decide (xs.length ≤ rG)) = true then match findCon f (shN N) Γ with
    | some c => match fromD c.pat.codes (coN N) with
      | some x => A.bind (c.out.map NSh.codes) (c.f k x) fun i ds => match c.out[i]? with
        | some s => match fiN s ds with
          | some N' => match instOut (demote (S.add (nilObs pl)) (noNil S.obs.length pl) c.pat.news) (noNil S.obs.length pl) N' with
            | some (S', v) => match c.out with
              | [_] => K S' v
              | _ => K (S'.kid i) v
            | none => A.fail "results"
          | none => A.fail "a result's shape"
        | none => A.fail "no such class"
      | none => A.fail ("arguments of " ++ fnName P f)
    | none => A.miss f (shN N)
    else A.fail "arguments that can't be told"
  | none => A.fail "arguments"
/-- Is a contract told that knows of no variable of the package? -/
def known0 (S : St) (f : Nat) (xs : List SV) : Bool :=
  match norm 0 [] [] (List.range xs.length) { S with slots := numbered 0 xs } with
  | some (N, _) => (findCon f (shN N) Γ).isSome
  | none => false
def callF (S : St) (f : Nat) (xs : List SV) (K : St → SV → R) : R :=
  let xs := typeArgs P f xs
  if (globs S).isEmpty || known0 Γ S f xs then callG A P Γ k [] S f xs K else callG A P Γ k (globs S) S f xs K
/-- The rows of nothing become rows. -/
def realize (S : St) : SV → St × SV
  | .v (.a (.nils e t)) => (S.add [.row e t [] .own false], .v (.a (.sl S.obs.length)))
  | v => (S, v)
/-- The rows of one's own of which leaves speak are read from now on. -/
def freezeL (S : St) : List At → St
  | [] => S
  | .sl o :: r => match S.ob o with
    | .row e t xs .own fu => freezeL (S.setOb o (.row e t xs .rd fu)) r
    | _ => freezeL S r
  | _ :: r => freezeL S r
def freezeV (S : St) : SV → St
  | .v (.a x) => freezeL S [x]
  | .v (.st ls) => freezeL S ls
  | _ => S
def freezeP (S : St) (vs : List (Nat × SV)) : St := vs.foldl (fun S p => freezeV S p.2) S
def packAll (S : St) (u : Ty) : List SV → Option (List u.den)
  | [] => some []
  | v :: vs => match (leafs v).bind (pack S u) with
    | some (x, []) => (packAll S u vs).map (x :: ·)
    | _ => none
/-- The cells of so many zero values. -/
def sliceZ (P : Program) (t : TypeId) (n : Nat) : Option (Array Value) :=
  match P.underlying t with
  | some (.slice e) => match P.info? e with
    | some i => (if n * i.size = 0 then some #[] else i.zero.map (·.cells)).map fun z => (Array.range (n * i.size)).map (z[· % z.size]!)
    | none => none
  | _ => none
def litElems (S : St) (P : Program) (e : TypeId) (u : Ty) : List (Nat × SV) → Nat → Option (List u.den)
  | [], _ => some []
  | (i, v) :: ps, j => if i = j then match (leafs (typedV P e v)).bind (pack S u) with
      | some (x, []) => (litElems S P e u ps (j + 1)).map (x :: ·)
      | _ => none
    else none
def bytesOfStr (s : ByteArray) : List Int := s.data.toList.map fun b => (b.toNat : Int)
def storeS (S : St) (t : TypeId) (x y : SV) (K : St → SV → R) : R :=
  match leafs (typedV P t y) with
  | none => A.fail "store of what"
  | some us => if cellsOf P t = some (sizeL us) then match x with
    | .v (.a (.ptr b off)) => match S.ob b with
      | .box T ls => match splL ls off us with
        | some ls' => K (S.setOb b (.box T ls')) (.v (.a .un))
        | none => A.fail "store: parts"
      | _ => A.fail "store: no variable"
    | .v (.elp o sz i off) => match S.ob o with
      | .row e u xs .own _ => match splL (unpk .rd u (at_ u xs i) 0).1 off us with
        | some ls' => match pack S u ls' with
          | some (x', []) => if u.flat then K (S.setOb o (.row e u (xs.set i.toNat x') .own false)) (.v (.a .un)) else A.fail "store: deep"
          | _ => A.fail "store: pack"
        | none => A.fail "store: parts of an element"
      | _ => A.fail "store into what is not owned"
    | .v (.arp b off u n i) => match S.ob b with
      | .box T ls => match skipL ls off with
        | some (.fl (.arr n' u') vec :: _) => if u' = u ∧ n' = n ∧ u'.flat = true ∧ 0 < u'.sz then match pack S u' us with
            | some (x', []) => match splL ls off [.fl (.arr n' u') (vSet vec i x')] with
              | some ls' => K (S.setOb b (.box T ls')) (.v (.a .un))
              | none => A.fail "store: array"
            | _ => A.fail "store: array's pack"
          else A.fail "store: array's type"
        | _ => A.fail "store: no array"
      | _ => A.fail "store: no array's variable"
    | _ => A.fail "store: where"
    else A.fail "store: size"
/-- Is the next row of one's own that is cut cut where it lies? -/
def St.cutPl (inl : List Nat) (S : St) : Option St := match S.pl with
  | .t p => some (S.to p)
  | _ => none
def turnA (x : R) : R := x
def appendS (S : St) (t : TypeId) (s x : SV) (K : St → SV → R) : R :=
  let (S, s) := realize S (typedV P t s)
  match s, elemInfo P t with
  | .v (.a (.sl o)), some (e, sz, by_, some z) => match S.ob o with
    | .row e' u xs m fu =>
      let go (ys : List u.den) : R :=
        A.guard ((xs.length + ys.length) * by_ ≤ 140737488355328) inferInstance <|
          if m = .own then K (({ S with mods := o :: S.mods, obs := S.obs.set o .gone } : St).add [.row e' u (xs ++ ys) .own false]) (.v (.a (.sl S.obs.length)))
          else if fu = true then K (S.add [.row e' u (xs ++ ys) m false]) (.v (.a (.sl S.obs.length))) else A.fail "append to what is read"
      if e' = e ∧ sz = u.sz ∧ 0 < sz ∧ 0 < by_ ∧ z.cells.size = sz ∧ e < mB then match typedV P t x with
        | .v (.a (.nils _ _)) => A.fail "append of nil"
        | .v (.a (.sl o')) => if o' = o then A.fail "append of itself" else match S.ob o' with
          | .row _ u' ys m' _ => if u.flat = true ∨ m' = .rd ∨ (m' = .own) then match castT (a := .sl 0 u') (b := .sl 0 u) ys with
              | some ys => go ys
              | none => A.fail "append: types"
            else A.fail "append of lent"
          | _ => A.fail "append of no row"
        | _ => A.fail "append of what"
      else A.fail "append: sizes"
    | _ => A.fail "append to no row"
  | _, _ => A.fail "append to what"
def vCp {α : Type} {n m : Nat} (v : Vector α n) (y : Vector α m) : Vector α n := ⟨(y.toList.take n ++ v.toList.drop m).toArray, by simp; omega⟩
/-- An array copied onto another one. -/
def copyS (S : St) (t : TypeId) (s x : SV) (K : St → SV → R) : R :=
  match s, x with
  | .v (.a (.asl b off n)), .v (.a (.asl c off2 m)) => match S.ob b, S.ob c with
    | .box T ls, .box _ ls2 => match skipL ls off, skipL ls2 off2 with
      | some (.fl (.arr n' u) v :: _), some (.fl (.arr m' u') y :: _) =>
        if n' = n ∧ m' = m ∧ m ≤ n ∧ m ≤ 9223372036854775807 ∧ elemSz P t = some u.sz then match castT (a := .arr m' u') (b := .arr m' u) y with
          | some y => match splL ls off [.fl (.arr n' u) (vCp v y)] with
            | some ls' => K (S.setOb b (.box T ls')) (.v (.a (.fl (.int .i64) (m : Int))))
            | none => A.fail "copy: array"
          | none => A.fail "copy: types"
        else A.fail "copy: sizes"
      | _, _ => A.fail "copy: no arrays"
    | _, _ => A.fail "copy: no variables"
  | _, _ => A.fail "a builtin: copy"
def loud (S : St) (ty : TypeId) (op : Op) (K : St → SV → R) : R :=
  match op with
  | .alloc t => match zeroK P t with
    | some ls => K (S.add [.box t ls]) (.v (.a (.ptr S.obs.length 0)))
    | none => A.fail "alloc"
  | .box t x => match (opA S x).bind fun v => leafs (typedV P t v) with
    | some ls => if cellsOf P t = some (sizeL ls) then K (S.add [.box t ls]) (.v (.a (.ptr S.obs.length 0))) else A.fail "box: size"
    | none => A.fail "box"
  | .store t x y => match opA S x, opA S y with
    | some x, some y => storeS A P S t x y K
    | _, _ => A.fail "store"
  | .buildSlice t n ps => match elemInfo P t, parts S ps.toList with
    | some (e, sz, _, some z), some vs => match tyOf P depth e with
      | some u =>
        let S := freezeP S vs
        if sz = u.sz ∧ vs.length = n ∧ n * sz ≤ 16777216 ∧ n ≤ 16777216 ∧ (sliceZ P t n).isSome = true ∧ e < mB then match litElems S P e u vs 0 with
          | some xs => K (S.add [.row e u xs .own false]) (.v (.a (.sl S.obs.length)))
          | none => A.fail "a slice's elements"
        else A.fail "a slice's size"
      | none => A.fail "a slice's type"
    | _, _ => A.fail "a slice"
  | .makeSlice t x y => match opA S x, opA S y, elemInfo P t with
    | some (.v (.a (.fl (.int _) n))), some (.v (.a (.fl (.int _) c))), some (e, sz, by_, some z) => match tyOf P depth e with
      | some u => if sz = u.sz ∧ u.flat = true ∧ zeroD P e u = true ∧ e < mB then
          A.guard (0 ≤ (n : Int) ∧ (c : Int) = n ∧ (n : Int).toNat * by_ ≤ 140737488355328 ∧ (n : Int) ≤ 9223372036854775807) inferInstance
            (K (S.add [.row e u (List.replicate (n : Int).toNat u.dflt) .own false]) (.v (.a (.sl S.obs.length))))
        else A.fail "make: size"
      | none => A.fail "make: type"
    | _, _, _ => A.fail "make"
  | .convert s d x => match opA S x with
    | some (.v (.a (.fl .str b))) => match P.underlying d with
      | some (.slice e) => if bytesT P d s = true then A.guard (b.size ≤ 9223372036854775807) inferInstance (K (S.add [.row (mB + e) (.int .u8) (bytesOfStr b) .own false]) (.v (.a (.sl S.obs.length)))) else A.fail "convert a string to what"
      | _ => A.fail "convert a string"
    | _ => A.fail "convert"
  | .slice t x l h m => match opA S x with
    | some (.v (.a (.sl o))) => match S.ob o with
      | .row e u xs .own fu => match S.cutPl inl, l, h, m with
        | some S2, none, some y, none => match opA S y, elemSz P t with
          | some (.v (.a (.fl (.int .i64) hi))), some sz => if sz = u.sz ∧ e < mB then turnA (A.guard (0 ≤ hi ∧ hi ≤ (xs.length : Int)) inferInstance (K (({ S2 with mods := o :: S2.mods, obs := S2.obs.set o .gone } : St).add [.row e u (xs.take hi.toNat) .own false]) (.v (.a (.sl S2.obs.length))))) else A.fail "cut: sizes"
          | _, _ => A.fail "cut: what"
        | _, _, _, _ =>
          let S1 := S.setOb o (.row e u xs .rd fu)
          match opO S1 l, opO S1 h, opO S1 m with
          | some l, some h, some m => match cutS P S1 t (.v (.a (.sl o))) l h m with
            | some q => A.guard q.p q.dp (K (S1.add q.news) q.v)
            | none => A.fail "cut"
          | _, _, _ => A.fail "cut: bounds"
      | _ => A.fail "cut of no row"
    | some (.v (.a (.nils e u))) => A.fail "cut of nil"
    | _ => A.fail "cut of what"
  | .call { callee := .builtin .append, args, argTypes } => match args.toList, argTypes.toList with
    | [s, x], [t, t'] => match opA S s, opA S x with
      | some s, some x => if t = t' then appendS A P S t s x K else A.fail "append: types"
      | _, _ => A.fail "append"
    | _, _ => A.fail "append: arguments"
  | .call { callee := .builtin .copy, args, argTypes } => match args.toList, argTypes.toList with
    | [s, x], [t, t'] => match opA S s, opA S x with
      | some s, some x => copyS A P S t s x K
      | _, _ => A.fail "copy"
    | _, _ => A.fail "copy: arguments"
  | .call { callee := .value x, args, .. } => match opA S x, opAs S args.toList with
    | some (.v (.fn f fs cs)), some xs =>
      if enters P f then
        let xs := fs.map (fun a => .v (.a a)) ++ xs ++ cs.map (fun a => .v (.a a))
        if inl.elem f then H f (typeArgs P f xs) R A S K else callF A P Γ k S f xs K
      else A.fail "a call of what has no body"
    | _, _ => A.fail "a call of what"
  | .call { callee := .builtin b, .. } => A.fail "a builtin"
  | .lookup .. => A.fail "lookup"
  | .load .. => A.fail "load"
  | .index .. => A.fail "index"
  | .indexAddr .. => A.fail "indexAddr"
  | .build .. => A.fail "build"
  | .binOp .. => A.fail "binOp"
  | .move .. => A.fail "move"
  | .field .. => A.fail "field"
  | .fieldAddr .. => A.fail "fieldAddr"
  | .nilCheck .. => A.fail "nilCheck"
  | .makeFunc .. => A.fail "makeFunc"
  | .pick .. => A.fail "pick"
  | .extract .. => A.fail "extract"
  | .range .. => A.fail "range"
  | .next .. => A.fail "next"
  | .mapUpdate .. => A.fail "mapUpdate"
  | .makeMap .. => A.fail "makeMap"
  | .makeInterface .. => A.fail "makeInterface"
  | _ => A.fail "operation"
def doOp (S : St) (ty : TypeId) (op : Op) (K : St → SV → R) : R :=
  match quiet P S ty op with
  | some q => A.guard q.p q.dp (K (S.add q.news) q.v)
  | none => loud A P Γ inl H k S ty op K
/-- Is an operation wanted? -/
def wantS (ops : List Oper) (S : St) : Option (Nat × Bool) → Option (Bool ⊕ (Nat × Bool × Bool))
  | none => some (.inl true)
  | some (g, want) => match (ops[g]?).bind (·.dst) with
    | some d => match lookS S.slots d with
      | some (.v (.a (.lit b))) => some (.inl (b == want))
      | some (.v (.a (.fl .bool b))) => some (.inr (d, b, want))
      | some (.v (.a .un)) => some (.inl false)
      | _ => none
    | none => none
def unS_ : SV := .v (.a .un)
def execOps (all : List Oper) : List Oper → St → (St → R) → R
  | [], S, K => K S
  | o :: os, S, K =>
    let yes (S : St) : R := doOp A P Γ inl H k S o.type o.op fun S' v => execOps all os (S'.put o.dst v) K
    let no (S : St) : R := execOps all os (S.put o.dst unS_) K
    match wantS all S o.guard with
    | some (.inl true) => yes S
    | some (.inl false) => no S
    | some (.inr (d, b, want)) =>
      let t := (S.put (some d) (.lit true)).kid 0; let f := (S.put (some d) (.lit false)).kid 1
      if want then A.ite b (yes t) (no f) else A.ite b (no t) (yes f)
    | none => A.fail "a guard"
/-! a region that draws its order -/
def restrict (S : St) (st : List Nat) : St := { S with obs := S.obs.zipIdx.map fun p => if st.elem p.2 then p.1 else .gone }
/-- Does it speak of no element but of the rows named? -/
def elIn (st : List Nat) : V1 → Bool
  | .elp o _ _ _ => st.elem o
  | _ => true
def elInS (st : List Nat) : SV → Bool
  | .v x => elIn st x
  | .tup xs => xs.all (elIn st)
/-- What is looked at early by an operation. -/
def exl (ex : List (Nat × List Nat)) (i : Nat) : List Nat := (ex.filter fun p => p.1 == i).flatMap (·.2)
/-- What an operation only looks at: of what is written nowhere; or early, of what it looks at ahead of the writing. -/
def lookQ (S : St) (st e : List Nat) (o : Oper) : Option Qt :=
  match quiet P (restrict S st) o.type o.op with
  | some q => if elInS st q.v = true then some q else none
  | none => match quiet P (restrict S (st ++ e)) o.type o.op with
    | some q => if elInS (st ++ e) q.v = true ∧ q.news.isEmpty = true then some q else none
    | none => none
/-- The first operation that may come up and only looks. -/
def pickQ (can : List Nat → Nat → Bool) (ops : Array Oper) (ex : List (Nat × List Nat)) (dead : List Nat) (S : St) (st l : List Nat) : List Nat → Option (Nat × Oper × Option Qt)
  | [] => none
  | j :: r => match ops.toList[j]? with
    | some o => if can l j && !(dead.elem j) then match wantS ops.toList S o.guard with
        | some (.inl true) => match lookQ P S st (exl ex j) o with
          | some q => some (j, o, some q)
          | none => pickQ can ops ex dead S st l r
        | some (.inl false) => some (j, o, none)
        | _ => pickQ can ops ex dead S st l r
      else pickQ can ops ex dead S st l r
    | none => none
def openG (ops : Array Oper) (S : St) : List Nat → Option (Nat × Bool)
  | [] => none
  | j :: r => match ops.toList[j]? with
    | some o => match wantS ops.toList S o.guard with
      | some (.inr (d, b, _)) => some (d, b)
      | _ => openG ops S r
    | none => none
def disj (a b : List Nat) : Bool := a.all fun x => !(b.elem x)
/-- Does an act leave standing what is looked at early? -/
def exOk (ops : Array Oper) (ex : List (Nat × List Nat)) (dead : List Nat) (j : Nat) (M : List Nat) : Bool := ex.all fun p => !(frB ops j p.1) || (!(dead.elem p.1) && disj M p.2)
def exDead (ops : Array Oper) (ex : List (Nat × List Nat)) (j : Nat) : List Nat := (ex.filter fun p => !(frB ops j p.1)).map (·.1)
/-- Those that act: whichever comes first. -/
def bothG (rs : List Nat) (act : Nat → St → R) : List Nat → St → R
  | [], _ => A.fail "a region: nothing comes up"
  | [j], S => act j S
  | j :: r, S => A.both rs (fun _ => act j (S.kid 0)) (fun _ => bothG rs act r (S.kid 1))
def execDr (rdy : List Nat → List Nat) (can : List Nat → Nat → Bool) (ops : Array Oper) (pre : Option (St → R)) (q : Nat) (ex : List (Nat × List Nat)) : Nat → Nat → List Nat → List Nat → List Nat → St → (St → R) → R
  | 0, _, _, _, _, _, _ => A.fail "a region's end"
  | fu + 1, fuel, l, dead, st, S, K =>
    let rs := rdy l
    match fuel with
    | 0 => if rs = [] then K S else A.fail "a region isn't at its end"
    | fuel + 1 =>
      match pickQ P can ops ex dead S st l rs with
      | some (j, o, some qq) => A.guard qq.p qq.dp (execDr rdy can ops pre q ex fu fuel (j :: l) dead (st ++ List.range' S.obs.length qq.news.length) ((S.add qq.news).put o.dst qq.v) K)
      | some (j, o, none) => execDr rdy can ops pre q ex fu fuel (j :: l) dead st (S.put o.dst unS_) K
      | none => match openG ops S rs with
        | some (d, b) => A.ite b (execDr rdy can ops pre q ex fu (fuel + 1) l dead st ((S.put (some d) (.lit true)).kid 0) K) (execDr rdy can ops pre q ex fu (fuel + 1) l dead st ((S.put (some d) (.lit false)).kid 1) K)
        | none => bothG A rs (fun j S => match ops.toList[j]? with
            | some o => match wantS ops.toList S o.guard with
              | some (.inl true) => if j = q then match pre with
                  | some f => f S
                  | none => if fuel = 0 ∧ rdy (j :: l) = [] then doOp A P Γ inl H k S o.type o.op fun S' v => K (S'.put o.dst v) else A.fail "a region's last one isn't the last one"
                else doOp A P Γ inl H k S o.type o.op fun S' v =>
                  if pre.isSome = true ∨ (disj S'.mods st && exOk ops ex dead j S'.mods) = true then execDr rdy can ops pre q ex fu fuel (j :: l) (dead ++ exDead ops ex j) st (S'.put o.dst v) K else A.fail "a region: what is read early is written"
              | _ => A.fail "a region's guard"
            | none => A.fail "a region's number") rs S
end
section
variable (P : Program) (Γ : List Con) (inl : List Nat) (H : Inl) (bk : List Bk) (k : Nat)
/-- What a state at an end is, in order. -/
def endN (base : St) (dfs : Nat) (sy M : List Nat) (live : Nat) (S : St) : Option (Nst × List Src) :=
  norm base.obs.length sy M (bitsToList 600 (live &&& dfs)) S
def liveAt (out : Nat) (ex : List (Nat × Nat)) (rl : Nat) : Ek → Nat
  | .normal => out
  | .exit i => exBits ex i
  | .ret => rl
def Cls.T (c : Cls) : List (List Ty) := c.cls.map fun p => p.2.codes
def injE (base : St) (dfs : Nat) (c : Cls) (lv : Ek → Nat) (e : Ek) (S : St) : Option (DenL c.T) :=
  match endN base dfs c.sy c.M (lv e) S with
  | some (N, pl) => if (movedSrc S base.obs.length pl).all (c.M.elem ·) && (S.mods.filter (· < base.obs.length)).all (c.M.elem ·) then match findCls e (shN N) c.cls 0 with
      | some i => injL c.T i (coN N)
      | none => none
    else none
  | none => none
def afterE {R : Type} (A : Alg R) (base : St) (dfs : Nat) (cls : List (Ek × NSh)) (ps : List Plan) (K : Ek → St → R) (i : Nat) (ds : List Dyn) : R :=
  match cls[i]? with
  | some (e, s) => match fiN s ds with
    | some N => K e ((fillB base dfs N).to (ps.getD i .nil))
    | none => A.fail "a class's parts"
  | none => A.fail "no such class"
def fresh (S : St) : St := { S with mods := [] }
/-- A piece of code, whatever is made of it. -/
abbrev Run := (R : Type) → Alg R → St → (Ek → St → R) → R
/-- The ways of the first part meet ahead of the second one. -/
noncomputable def joinE {R : Type} (A : Alg R) (S : St) (dfs : Nat) (lv : Ek → Nat) (c : Cls) (p : Plan) (ps : List Plan) (run : Run) (K : Ek → St → R) : R :=
  A.bind c.T (run _ (optA _) ((fresh S).to p) (injE (fresh S) dfs c lv)) (afterE A S dfs c.cls ps K)
noncomputable def loopStep (S0 : St) (dfs : Nat) (lv : Ek → Nat) (run : Run) (hd oc : Cls) (hs : List Plan) (x : DenL hd.T) : Option (DenL hd.T ⊕ DenL oc.T) :=
  elimL hd.T x (afterE (optA (DenL hd.T ⊕ DenL oc.T)) S0 dfs hd.cls hs fun _ S' => run _ (optA (DenL hd.T ⊕ DenL oc.T)) S' fun e S2 =>
    if e = .normal then (injE S0 dfs hd lv .normal S2).map .inl else (injE S0 dfs oc lv e S2).map .inr)
noncomputable def loopE {R : Type} (A : Alg R) (S : St) (dfs : Nat) (lv : Ek → Nat) (run : Run) (K : Ek → St → R) (hd oc : Cls) (hs os : List Plan) : R :=
  A.bind oc.T ((injE (fresh S) dfs hd lv .normal (fresh S)).bind fun x0 => loopK k (loopStep (fresh S) dfs lv run hd oc hs) x0) (afterE A S dfs oc.cls os K)
noncomputable def foldStep (S0 : St) (run : Run) (hd : Cls) (hs : List Plan) (x : DenL hd.T) : Option (DenL hd.T) :=
  elimL hd.T x (afterE (optA (DenL hd.T)) S0 0 hd.cls hs fun _ S' => run _ (optA (DenL hd.T)) S' fun e S2 => if e = .normal then injE S0 0 hd (fun _ => 0) .normal S2 else none)
/-- Over a list of data. -/
noncomputable def rangeE {R : Type} (A : Alg R) (S : St) {α : Type} (xs : List α) (run : α → Run) (K : Ek → St → R) (hd oc : Cls) (hs ns os : List Plan) : R :=
  match oc.cls with
  | [] => A.bind hd.T ((injE (fresh S) 0 hd (fun _ => 0) .normal (fresh S)).bind fun x0 => foldL xs (fun h x => foldStep (fresh S) (run x) hd hs h) x0) (afterE A S 0 hd.cls ns fun _ S' => K .normal S')
  | _ => A.bind2 hd.T oc.T ((injE (fresh S) 0 hd (fun _ => 0) .normal (fresh S)).bind fun x0 => iterL xs (fun h x => loopStep (fresh S) 0 (fun _ => 0) (run x) hd oc hs h) x0)
      (afterE A S 0 hd.cls ns fun _ S' => K .normal S') (afterE A S 0 oc.cls os K)
def drawE {R : Type} (A : Alg R) (ops : Array Oper) (S : St) (st : List Nat) (ex : List (Nat × List Nat)) (tab : List (Nat × Nat)) (p : Plan) (K : St → R) : R :=
  let last := ops.size - 1
  let q := if lastB ops last then last else ops.size
  if (Region.noSelect ops = true ∧ (st ++ ex.flatMap (·.2)).all (fun i => decide (i < S.obs.length)) = true) ∧ tabOk ops tab = true then execDr A P Γ inl H k (fun l => readyT (lmask ops.size l) tab 0) (fun l j => canT tab (lmask ops.size l) j) ops none q ex (2 * ops.size + 2) ops.size [] [] st ((fresh S).to p) (fun S' => K { S' with mods := S'.mods ++ S.mods }) else A.fail "a region that selects"
/-- An element of a list, as a load of it gives it. -/
def ldAt (P : Program) (e : TypeId) (u : Ty) (m : Md) (y : u.den) (len : Nat) : Option Qt :=
  match cellsOf P e with
  | some n => ((segL (unpk (inner m) u y len).1 0 n).bind (ofLeafs P e)).map fun v => ⟨True, inferInstance, if (refS v).isEmpty then [] else (unpk (inner m) u y len).2, v⟩
  | none => none
/-- One round over a list's elements: their places and values in two slots. -/
def roundE (S : St) (b o : Nat) (e : TypeId) (u : Ty) (m : Md) (ps : List Nat) (asg body : Run) (x : Int × u.den) : Run := fun R A S' K =>
  if S'.mods.elem b || S'.mods.elem o then A.fail "a range over what is written" else
  match ldAt P e u m x.2 S'.obs.length, ps with
  | some q, [p, r] =>
    asg R A (((S'.add q.news).put (some p) (.int .i64 x.1)).put (some r) q.v) fun e S2 =>
      if e = .normal then body R A S2 fun e S3 => K e { S3 with slots := S.slots } else A.fail "a range's assignment"
  | _, _ => A.fail "a range's element"
def findBk (gf : Nat) : List Bk → Option Bk
  | [] => none
  | B :: r => if B.gf = gf then some B else findBk gf r
/-- Code with but one end, or none. -/
def simple : Code → Bool
  | .region _ _ _ | .ret | .exit _ | .skip | .label _ => true
  | _ => false
noncomputable def exec {R : Type} (A : Alg R) (c : Code) (ex : List (Nat × Nat)) (rl out : Nat) (S : St) (K : Ek → St → R) : R :=
  match c with
  | .skip => K .normal S
  | .label _ => K .normal S
  | .ret => K .ret S
  | .exit i => K (.exit i) S
  | .scope b => exec A b ex rl out S K
  | .block i b => exec A b ((i, out) :: ex) rl out S fun e S' => if e = .exit i then K .normal S' else K e S'
  | .region _ ops d => if d then match S.pl with
      | .d st ex tab p => drawE P Γ inl H k A ops S st ex tab p (K .normal)
      | .t (.d st ex tab p) => drawE P Γ inl H k A ops (freezeL S ((ex.flatMap (·.2)).map .sl)) st ex tab p (K .normal)
      | _ => A.fail "a plan: draw"
    else execOps A P Γ inl H k ops.toList ops.toList S (K .normal)
  | .cond c t e => match opA S c with
    | some (.v (.a (.lit b))) => if b then exec A t ex rl out S K else exec A e ex rl out S K
    | some (.v (.a (.fl .bool b))) => A.ite b (exec A t ex rl out (S.kid 0) K) (exec A e ex rl out (S.kid 1) K)
    | _ => A.fail "a test"
  | .seq a b =>
    let mid := liveC b ex rl out
    let then_ : Ek → St → R := fun e S' => if e = .normal then exec A b ex rl out S' K else K e S'
    if simple a || simple b then exec A a ex rl mid S then_
    else match S.pl with
      | .n p => exec A a ex rl mid (S.to p) then_
      | .j c p ps => joinE A S (defsC a) (liveAt mid ex rl) c p ps (fun _ A' S' K' => exec A' a ex rl mid S' K') then_
      | _ => A.fail "a plan: join"
  | .loop b =>
    let hl := liveC (.loop b) ex rl out
    match S.pl with
    | .l hd oc hs os => loopE k A S (defsC b) (liveAt hl ex rl) (fun _ A' S' K' => exec A' b ex rl hl S' K') K hd oc hs os
    | _ => A.fail "a plan: loop"
  | .rangeFunc g ps asg body =>
    match opA S g with
    | some (.v (.fn gf [] [.ptr b 0])) => match findBk gf bk with
      | some B => match S.ob b with
        | .box _ [.sl o] => match S.ob o with
          | .row e u xs m _ => if B.Te = e ∧ elemSz P B.Ts = some u.sz then match S.pl with
              | .r hd oc hs ns os => rangeE A S (backL xs) (roundE P S b o e u m ps.toList
                  (fun _ A' S' K' => exec A' asg [] 0 (liveC body ex rl 0) S' K') (fun _ A' S' K' => exec A' body ex rl 0 S' K')) K hd oc hs ns os
              | _ => A.fail "a plan: range"
            else A.fail "a range over other types"
          | _ => A.fail "a range over no row"
        | _ => A.fail "a range over no variable"
      | none => A.fail ("a range over a function " ++ toString gf ++ fnName P gf)
    | some (.v (.fn gf _ _)) => A.fail ("a range over a function with " ++ toString gf ++ fnName P gf)
    | _ => A.fail "a range over what"
  | .goto _ => A.fail "goto"
  | .refuse _ => A.fail "refused"
/-! ### a function -/
def rB : Nat := 100000
def shiftUp (l : List (Nat × SV)) : List (Nat × SV) := l.map fun p => (p.1 + shift, p.2)
def shiftDown (l : List (Nat × SV)) : List (Nat × SV) := (l.filter fun p => decide (shift ≤ p.1)).map fun p => (p.1 - shift, p.2)
def resGo (P : Program) (S : St) : List (ResultVar × TypeId) → Nat → Option (List (Nat × SV))
  | [], _ => some []
  | (.tmp u, t) :: l, i => match opA S (.tmp u), resGo P S l (i + 1) with
    | some v, some vs => some ((rB + i, typedV P t v) :: vs)
    | _, _ => none
  | (.cell u ty, t) :: l, i => match (opA S (.tmp u)).bind (ldS P S ty), resGo P S l (i + 1) with
    | some q, some vs => if q.news.isEmpty = true then some ((rB + i, typedV P t q.v) :: vs) else none
    | _, _ => none
/-- The state in which a function ends: its results, in slots of their own. -/
def withRes (P : Program) (fn : Func) (S : St) : Option St :=
  if fn.results.size = fn.resultTypes.size then (resGo P S (fn.results.toList.zip fn.resultTypes.toList) 0).map fun l => { S with slots := l } else none
def resBits (fn : Func) : Nat := fn.results.toList.foldl (fun b r => b ||| match r with | .tmp t => 1 <<< t | .cell t _ => 1 <<< t) 0
def patSt (pat : NSh) (x : HL pat.codes) : Option St := (fiN pat (toD pat.codes x)).map fun N => fillB ⟨[], [], [], .nil⟩ 0 N
def endRes (np : Nat) (sy M : List Nat) (n : Nat) (S : St) : Option (Nst × List Src) := norm np sy M ((List.range n).map (rB + ·)) S
def injR (np n : Nat) (c : Cls) (S : St) : Option (DenL ((c.cls.map (·.2)).map NSh.codes)) :=
  match endRes np c.sy c.M n S with
  | some (N, pl) => if (movedSrc S np pl).all (c.M.elem ·) && (S.mods.filter (· < np)).all (c.M.elem ·) && decide (N.slots.map (·.1) = (List.range n).map (rB + ·)) && (results N.slots).isSome && decide (n < 1000) then match findCls .ret (shN N) c.cls 0 with
      | some i => injL _ i (coN N)
      | none => none
    else none
  | none => none
noncomputable def runF (fn : Func) (body : Code) (pat : NSh) (c : Cls) (p : Plan) (x : HL pat.codes) : Option (DenL ((c.cls.map (·.2)).map NSh.codes)) :=
  match patSt pat x with
  | some S => exec P Γ inl H bk k (optA _) body [] (resBits fn) 0 ((fresh S).to p) fun e S' => match e with
    | .exit _ => none
    | _ => match withRes P fn S' with
      | some S2 => injR S.obs.length fn.results.size c S2
      | none => none
  | none => none
end
def noDef : Op → Bool
  | .defer _ => false
  | _ => true
def okOps (n : Nat) (os : List Oper) : Bool := os.all fun o => (match o.dst with
  | some d => decide (d < n)
  | none => true) && noDef o.op
def noRange : Code → Bool
  | .seq a b => noRange a && noRange b
  | .cond _ a b => noRange a && noRange b
  | .block _ b => noRange b
  | .loop b => noRange b
  | .scope b => noRange b
  | .rangeFunc _ _ _ _ => false
  | _ => true
/-- Every slot is one of n; nothing that isn't walked yet. -/
def okC (n : Nat) : Code → Bool
  | .region _ ops _ => okOps n ops.toList
  | .seq a b => okC n a && okC n b
  | .cond _ a b => okC n a && okC n b
  | .block _ b => okC n b
  | .loop b => okC n b
  | .scope b => okC n b
  | .rangeFunc _ ps a b => ps.all (fun p => decide (p < n)) && okC n a && okC n b && noRange a && noRange b
  | _ => true
/-- May a function be walked, with so many arguments? -/
def goodF (P : Program) (f : Nat) (m : Nat) : Bool :=
  match P.funcs[f]? with
  | some fn => match fn.body with
    | some body => okC fn.ntmps body && decide (fn.ntmps ≤ shift) && decide (m ≤ fn.ntmps)
    | none => false
  | none => false
/-- No slot comes between those of frames and those of the package's variables when they are shifted. -/
def gapB (l : List (Nat × SV)) : Bool := l.all fun p => decide (p.1 + shift < rG) || decide (rG ≤ p.1)
/-- A function walked in place, with so many more within. -/
noncomputable def inlN (P : Program) (Γ : List Con) (inl : List Nat) (bk : List Bk) (k : Nat) : Nat → Inl
  | 0, _, _, _, A, _, _ => A.fail "too deep in place"
  | d + 1, f, xs, _, A, S, K => match P.funcs[f]? with
    | some fn => match fn.body with
      | some body => if (goodF P f xs.length && gapB S.slots) = true then exec P Γ inl (inlN P Γ inl bk k d) bk k A body [] (resBits fn) 0 { S with slots := numbered 0 xs ++ shiftUp S.slots } fun e S' => match e with
        | .exit _ => A.fail "an exit in place"
        | _ => match withRes P fn S' with
          | some S2 => match results S2.slots with
            | some v => K { S' with slots := shiftDown S'.slots } v
            | none => A.fail "results in place"
          | none => A.fail "results in place"
        else A.fail "not to be walked in place"
      | none => A.fail "no body in place"
    | none => A.fail "no function in place"
def inDepth : Nat := 6
noncomputable def mkCon (P : Program) (Γ : List Con) (inl : List Nat) (bk : List Bk) (f : Nat) (pat : NSh) (c : Cls) (p : Plan) : Con :=
  ⟨f, pat, c.cls.map (·.2), fun k x => match P.funcs[f]? with
    | some fn => match fn.body with
      | some body => runF P Γ inl (inlN P Γ inl bk k inDepth) bk k fn body pat c p x
      | none => none
    | none => none⟩
end Go.Proofs.YthdgllldpfeelaaGreatDoor
/- What states by signs mean; operations that only look. No condition. -/
set_option linter.unusedVariables false
set_option linter.unusedSimpArgs false
namespace Go.Proofs.YthdgllldpfeelaaGreatDoor
open Go

/-! ### what a state means -/
theorem encA_len (g : Env) (a : At) : (encA g a).length = a.sz := by
  cases a <;> first | rfl | (simp only [encA, (flatT _).len, flatT_sz, At.sz])
theorem encL_len (g : Env) : ∀ ls : List At, (encL g ls).length = sizeL ls
  | [] => rfl
  | a :: ls => by
    have := encL_len g ls
    simp only [encL, sizeL] at this ⊢
    simp only [List.flatMap_cons, List.length_append, encA_len, List.map_cons, List.sum_cons, this]
theorem encL_app (g : Env) (a b : List At) : encL g (a ++ b) = encL g a ++ encL g b := by simp [encL]
theorem one_cells {v : Value} (h : v.oneCell' = true) : v.cells = #[v] := by
  cases v <;> first | rfl | (simp [Value.oneCell'] at h)
theorem encA_one (g : Env) (a : At) (h : stor a = true) : ∀ v ∈ encA g a, v.oneCell' = true := by
  cases a <;> first
    | (intro v hv; simp only [encA, List.mem_singleton] at hv; subst hv; first | rfl | exact (g _).one)
    | (exact (flatT _).one _)
    | (cases h)
theorem encL_one (g : Env) (ls : List At) (h : ls.all stor = true) : ∀ v ∈ encL g ls, v.oneCell' = true := by
  intro v hv
  obtain ⟨a, ha, hv⟩ := List.mem_flatMap.1 hv
  exact encA_one g a (List.all_eq_true.1 h a ha) v hv
theorem val1_cells (g : Env) (a : At) (h : stor a = true) : (val1 g a).cells.toList = encA g a := by
  cases a with
  | fl t x => cases t <;> rfl
  | sl o => simp only [val1, encA, one_cells (g o).one]
  | un => cases h
  | _ => rfl
/-! ### rows of one's own -/
/-- A row of one's own, behind whose cells a mark lies. -/
def OwnM (w : World) (e sz : Nat) (v : Value) (n : Nat) (xs : List Value) : Prop :=
  xs.length = n * sz ∧ (v = .slice none 0 0 ∧ n = 0 ∨ ∃ (g cap : Nat) (cur : Array Value) (fz : Nat × Nat), v = .slice (some ⟨g, 0, none⟩) n cap ∧ w.heap[g]? = some (.cells cur e fz) ∧ cur.size ≤ fz.1 ∧ n ≤ cap ∧ cap ≤ maxLen ∧ cur.size = cap * sz ∧ cur.toList.take (n * sz) = xs)
def OwnR (w : World) (e sz : Nat) (v : Value) (n : Nat) (xs : List Value) : Prop := if e < mB then w.ownsRow 0 e sz v n xs else OwnM w (e - mB) sz v n xs
/-- What both say. -/
theorem OwnR.see {w : World} {e sz n : Nat} {v : Value} {xs : List Value} (h : OwnR w e sz v n xs) :
    xs.length = n * sz ∧ (v = .slice none 0 0 ∧ n = 0 ∨ ∃ (g cap : Nat) (cur : Array Value) (e' : Nat) (fz : Nat × Nat), v = .slice (some ⟨g, 0, none⟩) n cap ∧ w.heap[g]? = some (.cells cur e' fz) ∧ n ≤ cap ∧ cap ≤ maxLen ∧ cur.size = cap * sz ∧ cur.toList.take (n * sz) = xs) := by
  unfold OwnR at h
  split at h
  · refine ⟨h.1, ?_⟩
    rcases h.2 with h | ⟨g, cap, cur, h1, _, h2, h3⟩
    · exact .inl h
    · exact .inr ⟨g, cap, cur, _, _, h1, h2, h3⟩
  · refine ⟨h.1, ?_⟩
    rcases h.2 with h | ⟨g, cap, cur, fz, h1, h2, _, h3⟩
    · exact .inl h
    · exact .inr ⟨g, cap, cur, _, _, h1, h2, h3⟩
def ownE (v : Value) (e sz n : Nat) (xs : List Value) : Ent :=
  ⟨fun x => v.ownBlock = some x, fun w => OwnR w e sz v n xs, fun w h x hx => by
     rcases h.see.2 with ⟨rfl, _⟩ | ⟨g, cap, cur, e', fz, rfl, h1, _⟩
     · simp [Value.ownBlock] at hx
     · simp only [Value.ownBlock, Option.some.injEq] at hx
       subst hx
       exact (Array.getElem?_eq_some_iff.1 h1).1,
   fun w w' h f => by
     unfold OwnR at h ⊢
     split
     · rename_i he
       rw [if_pos he] at h
       exact (rowE v e sz n xs).loc w w' h f
     · rename_i he
       rw [if_neg he] at h
       refine ⟨h.1, ?_⟩
       rcases h.2 with hn | ⟨g, cap, cur, fz, rfl, h1, rest⟩
       · exact .inl hn
       · exact .inr ⟨g, cap, cur, fz, rfl, (f g (by simp [Value.ownBlock])).trans h1, rest⟩, false⟩
theorem ownE_lt {v : Value} {e sz n : Nat} {xs : List Value} {w : World} (h : e < mB) : (ownE v e sz n xs).ok w ↔ (rowE v e sz n xs).ok w := by
  show OwnR w e sz v n xs ↔ w.ownsRow 0 e sz v n xs
  unfold OwnR
  rw [if_pos h]
theorem ownE_dom (v : Value) (e sz n : Nat) (xs : List Value) : (ownE v e sz n xs).dom = (rowE v e sz n xs).dom := rfl
theorem own_nil (w : World) (e sz : Nat) : OwnR w e sz (.slice none 0 0) 0 [] := by
  unfold OwnR
  split
  · exact World.ownsRow_nil _ _ _ _
  · exact ⟨by simp, .inl ⟨rfl, rfl⟩⟩
theorem rds_own {w : World} {v : Value} {e sz n : Nat} {xs : List Value} (h : OwnR w e sz v n xs) : Rds v n sz xs w := by
  refine ⟨h.see.1, ?_⟩
  rcases h.see.2 with ⟨rfl, h0⟩ | ⟨g, cap, cur, e', fz, rfl, hg, h1, h2, h3, h4⟩
  · subst h0
    have : xs = [] := List.eq_nil_of_length_eq_zero (by simpa using h.see.1)
    subst this
    exact ⟨none, 0, rfl, Nat.le_refl _, by omega, fun _ => rfl, by simp⟩
  · refine ⟨_, cap, rfl, h1, by simpa [maxLen] using h2, by simp, fun j u hu => ⟨_, rfl, ?_⟩⟩
    rw [add_plain, Nat.zero_add, cell_of_row w g j cur e' fz hg]
    rw [← h4, List.getElem?_take] at hu
    split at hu
    · simpa using hu
    · cases hu
theorem own_block {w : World} {v : Value} {e sz n : Nat} {xs : List Value} {b : Nat} (h : OwnR w e sz v n xs) (q : addrOf v = some b) : v.ownBlock = some b := by
  rcases h.see.2 with ⟨rfl, _⟩ | ⟨g, cap, cur, e', fz, rfl, _⟩
  · simp [addrOf] at q
  · simpa [addrOf, Value.ownBlock] using q
theorem own_slv {w : World} {v : Value} {e sz n : Nat} {xs : List Value} (h : OwnR w e sz v n xs) : SlV v n := by
  rcases h.see.2 with ⟨rfl, h0⟩ | ⟨g, cap, cur, e', fz, rfl, _⟩
  · exact ⟨none, 0, by rw [h0], fun _ => h0⟩
  · exact ⟨_, _, rfl, fun h => by cases h⟩
def boxT (g : Env) (i : Nat) (T : Nat) (ls : List At) : Ent := boxE false (g i).b T (encL g ls)
def entL (g : Env) (i : Nat) : Ob → Ent
  | .box T ls => boxT g i T ls
  | .row e t xs .own _ => ownE (g i).v e t.sz xs.length (g i).cs
  | _ => Ent.nil
def entR (g : Env) (i : Nat) : Ob → Ent
  | .row e t xs .own _ => factsE false (g i).fs
  | .row e t xs .rd _ => factsE false (⟨(g i).v, xs.length, t.sz, (g i).cs⟩ :: (g i).fs)
  | .row e t xs .lent _ => factsE true (⟨(g i).v, xs.length, t.sz, (g i).cs⟩ :: (g i).fs)
  | _ => Ent.nil
def obP (g : Env) (i : Nat) : Ob → Prop
  | .box _ ls => ls.all stor = true
  | .row _ t xs _ fu => RepL (RepP t) xs (g i).cs (g i).fs ∧ SlV (g i).v xs.length ∧ (fu = true → ∃ ao, (g i).v = .slice ao xs.length xs.length ∧ (ao = none → xs.length = 0))
  | .gone => True
def okV (S : St) : V1 → Prop
  | .elp o sz i _ => ∀ e t xs m fu, S.ob o = .row e t xs m fu → 0 ≤ i ∧ i < xs.length ∧ sz = t.sz
  | .arp _ _ _ n i => 0 ≤ i ∧ i < n
  | _ => True
def okS (S : St) : SV → Prop
  | .v x => okV S x
  | .tup xs => ∀ x ∈ xs, okV S x
def Cx (g : Env) (S : St) (w0 : World) (D A : Nat → Prop) (w : World) : Prop := CtxF w0 D A (fun i => entL g i (S.ob i)) (fun i => entR g i (S.ob i)) w
def Ext (g g' : Env) (n : Nat) : Prop := ∀ i, i < n → g' i = g i

/-! ### numbers of objects that may be spoken of -/
/-- What a slot tells of a variable of the package: where it lies. -/
def GlV (v : Value) (b : Nat) : Prop := v = undef ∨ v = .pointer (some ⟨b, 0, none⟩)
/-- What others keep in slots; the deferred calls of the frame. -/
structure Ghost where
  f : Nat → Value
  ds : List Deferred
  /-- Where the marks' blocks begin. -/
  lo : Nat
  gp : ∀ t, rG ≤ t → GlV (f t) (t % shift)
structure SameG (γ' γ : Ghost) : Prop where
  f : γ'.f = γ.f
  lo : γ'.lo = γ.lo
theorem SameG.refl (γ : Ghost) : SameG γ γ := ⟨rfl, rfl⟩
theorem SameG.trans {a b c : Ghost} (h : SameG a b) (k : SameG b c) : SameG a c := ⟨h.f.trans k.f, h.lo.trans k.lo⟩
/-- The parts that stand. -/
structure Fit (g : Env) (γ : Ghost) (S : St) (n : Nat) (a : Act) : Prop where
  size : a.tmps.size = n
  lo : n ≤ shift
  defers : a.defers = γ.ds
  sl : ∀ t sv, lookS S.slots t = some sv → if t < shift then a.tmps[t]? = some (encS g sv) else γ.f t = encS g sv
  ob : ∀ i, obP g i (S.ob i)
  ok : ∀ t sv, lookS S.slots t = some sv → okS S sv
  rs : ∀ t sv, lookS S.slots t = some sv → ∀ o ∈ refS sv, o < S.obs.length
  rb : ∀ i T ls, S.ob i = .box T ls → ∀ o ∈ ls.flatMap refA, o < S.obs.length
theorem encA_ext {g g' : Env} (a : At) (h : ∀ o ∈ refA a, g' o = g o) : encA g' a = encA g a := by
  cases a <;> simp_all [encA, refA]
theorem val1_ext {g g' : Env} (a : At) (h : ∀ o ∈ refA a, g' o = g o) : val1 g' a = val1 g a := by
  cases a with
  | fl t x => cases t <;> rfl
  | _ => simp_all [val1, refA]
theorem mapv_ext {g g' : Env} : ∀ (ls : List At), (∀ o ∈ ls.flatMap refA, g' o = g o) → ls.map (val1 g') = ls.map (val1 g)
  | [], _ => rfl
  | a :: ls, h => by
    simp only [List.flatMap_cons, List.mem_append] at h
    rw [List.map_cons, List.map_cons, val1_ext a (fun o ho => h o (.inl ho)), mapv_ext ls (fun o ho => h o (.inr ho))]
theorem encL_ext {g g' : Env} : ∀ (ls : List At), (∀ o ∈ ls.flatMap refA, g' o = g o) → encL g' ls = encL g ls
  | [], _ => rfl
  | a :: ls, h => by
    simp only [List.flatMap_cons, List.mem_append] at h
    have := encL_ext ls (fun o ho => h o (.inr ho))
    simp only [encL] at this ⊢
    rw [List.flatMap_cons, List.flatMap_cons, encA_ext a (fun o ho => h o (.inl ho)), this]
theorem encV_ext {g g' : Env} (x : V1) (h : ∀ o ∈ refV x, g' o = g o) : encV g' x = encV g x := by
  cases x with
  | a x => exact val1_ext x h
  | elp o sz i off => simp only [refV, List.mem_singleton, forall_eq] at h; simp only [encV, h]
  | arp b off t n i => simp only [refV, List.mem_singleton, forall_eq] at h; simp only [encV, h]
  | fn f fs cs =>
    simp only [refV, List.mem_append] at h
    simp only [encV, mapv_ext fs (fun o ho => h o (.inl ho)), mapv_ext cs (fun o ho => h o (.inr ho))]
  | st ls => simp only [encV, encL_ext ls h]
theorem encS_ext {g g' : Env} (x : SV) (h : ∀ o ∈ refS x, g' o = g o) : encS g' x = encS g x := by
  cases x with
  | v x => exact encV_ext x h
  | tup xs =>
    simp only [encS]
    congr 2
    apply List.map_congr_left
    intro x hx
    exact encV_ext x (fun o ho => h o (List.mem_flatMap.2 ⟨x, hx, ho⟩))
end Go.Proofs.YthdgllldpfeelaaGreatDoor
/- Operations that only look. No condition. -/
set_option linter.unusedVariables false
set_option linter.unusedSimpArgs false
namespace Go.Proofs.YthdgllldpfeelaaGreatDoor
open Go

/-! ### leaves -/
theorem sizeL_app (a b : List At) : sizeL (a ++ b) = sizeL a + sizeL b := by simp [sizeL]
theorem skipL_spec : ∀ (ls : List At) (off : Nat) (r : List At), skipL ls off = some r → ∃ pre, ls = pre ++ r ∧ sizeL pre = off
  | ls, 0, r, h => by
    have : r = ls := by cases ls <;> simpa [skipL] using h.symm
    exact ⟨[], by simp [this], rfl⟩
  | [], n + 1, r, h => by simp [skipL] at h
  | a :: ls, n + 1, r, h => by
    simp only [skipL] at h
    split at h
    · rename_i ha
      obtain ⟨pre, e, hs⟩ := skipL_spec ls _ r h
      refine ⟨a :: pre, by rw [e]; rfl, ?_⟩
      show a.sz + sizeL pre = n + 1
      omega
    · cases h
theorem takeL_spec : ∀ (ls : List At) (n : Nat) (r : List At), takeL ls n = some r → ∃ post, ls = r ++ post ∧ sizeL r = n
  | ls, 0, r, h => by
    have : r = [] := by cases ls <;> simpa [takeL] using h.symm
    subst this
    exact ⟨ls, rfl, rfl⟩
  | [], n + 1, r, h => by simp [takeL] at h
  | a :: ls, n + 1, r, h => by
    simp only [takeL] at h
    split at h
    · rename_i ha
      obtain ⟨r', hr, rfl⟩ := Option.map_eq_some_iff.1 h
      obtain ⟨post, e, hs⟩ := takeL_spec ls _ r' hr
      refine ⟨post, by rw [e]; rfl, ?_⟩
      show a.sz + sizeL r' = n + 1
      omega
    · cases h
theorem segL_spec {ls : List At} {off n : Nat} {seg : List At} (h : segL ls off n = some seg) : ∃ pre post, ls = pre ++ (seg ++ post) ∧ sizeL pre = off ∧ sizeL seg = n := by
  obtain ⟨r, h1, h2⟩ := Option.bind_eq_some_iff.1 h
  obtain ⟨pre, e, hs⟩ := skipL_spec _ _ _ h1
  obtain ⟨post, e', hs'⟩ := takeL_spec _ _ _ h2
  exact ⟨pre, post, by rw [e, e'], hs, hs'⟩
theorem seg_cells (g : Env) {pre seg post : List At} {off n : Nat} (hp : sizeL pre = off) (hs : sizeL seg = n) : ((encL g (pre ++ (seg ++ post))).drop off).take n = encL g seg := by
  rw [encL_app, encL_app, ← hp, ← encL_len g pre, List.drop_left, ← hs, ← encL_len g seg, List.take_left]
theorem oneA_enc (g : Env) {a : At} (h : oneA a = true) : encA g a = [val1 g a] := by
  cases a with
  | fl t x => cases t <;> first | rfl | (simp [oneA] at h)
  | un => simp [oneA] at h
  | _ => rfl
theorem ofLeafs_spec {P : Program} {t : TypeId} {n : Nat} {seg : List At} {v : SV} (h : ofLeafs P t seg = some v) (hn : cellsOf P t = some n) (hs : sizeL seg = n) :
    (scal P t = true ∧ ∃ a, seg = [a] ∧ oneA a = true ∧ v = .v (.a a)) ∨ (rowT P t n = true ∧ ∀ g, encS g v = .agg (encL g seg).toArray) := by
  unfold ofLeafs at h
  have hi : (P.info? t).map (·.size) = some n := hn
  split at h
  · rename_i h5
    cases h
    exact .inr ⟨by simp [rowT, h5, hi], fun g => rfl⟩
  · rename_i h6
    split at h
    · cases h
      refine .inr ⟨by simp [rowT, h6, hi], fun g => ?_⟩
      simp [encS, encV, val1, encL, encA]
    · cases h
  · cases h
  · rename_i h5 h6 h0
    split at h
    · rename_i a
      split at h
      · rename_i hc
        cases h
        refine .inl ⟨?_, a, rfl, hc, rfl⟩
        unfold scal
        simp only [Bool.not_eq_true', Bool.or_eq_false_iff, beq_eq_false_iff_ne]
        exact ⟨⟨fun e => h0 e, fun e => h5 e⟩, fun e => h6 e⟩
      · cases h
    · cases h
theorem ofLeafs_ref {P : Program} {t : TypeId} {seg : List At} {v : SV} (h : ofLeafs P t seg = some v) : refS v = seg.flatMap refA ∧ ∀ S, okS S v := by
  unfold ofLeafs at h
  split at h
  · cases h; exact ⟨rfl, fun _ => trivial⟩
  · split at h
    · cases h; exact ⟨rfl, fun _ => trivial⟩
    · cases h
  · cases h
  · split at h
    · split at h
      · cases h; exact ⟨by simp [refS, refV], fun _ => trivial⟩
      · cases h
    · cases h
/-! ### data as leaves -/
theorem unpk_spec (m : Md) (hm : m ≠ .own) : ∀ (t : Ty) (x : t.den) (n : Nat) (g : Env) (cs : List Value) (F : List Fact), RepP t x cs F →
    ∃ g' : Env, (∀ i, i < n ∨ n + (unpk m t x n).2.length ≤ i → g' i = g i) ∧ encL g' (unpk m t x n).1 = cs ∧ (unpk m t x n).1.all stor = true ∧
      (∀ o ∈ (unpk m t x n).1.flatMap refA, n ≤ o ∧ o < n + (unpk m t x n).2.length) ∧
      ∀ j ob, (unpk m t x n).2[j]? = some ob → obP g' (n + j) ob ∧ ∃ e u xs, ob = .row e u xs m false ∧ ∀ f ∈ (⟨(g' (n + j)).v, xs.length, u.sz, (g' (n + j)).cs⟩ :: (g' (n + j)).fs : List Fact), f ∈ F
  | .pair a b, x, n, g, cs, F, ⟨c1, c2, F1, F2, h1, h2, h3, h4⟩ => by
    obtain ⟨g1, e1, q1, s1, r1, k1⟩ := unpk_spec m hm a x.1 n g c1 F1 h3
    obtain ⟨g2, e2, q2, s2, r2, k2⟩ := unpk_spec m hm b x.2 (n + (unpk m a x.1 n).2.length) g1 c2 F2 h4
    refine ⟨g2, ?_, ?_, ?_, ?_, ?_⟩
    · intro i hi
      simp only [unpk, List.length_append] at hi
      rw [e2 i (by omega), e1 i (by omega)]
    · simp only [unpk, encL_app, q2, h1]
      rw [encL_ext (g := g1) _ (fun o ho => e2 o (.inl (r1 o ho).2)), q1]
    · simp only [unpk, List.all_append, s1, s2, Bool.and_self]
    · intro o ho
      simp only [unpk, List.flatMap_append, List.mem_append, List.length_append] at ho ⊢
      rcases ho with ho | ho
      · have := r1 o ho; omega
      · have := r2 o ho; omega
    · intro j ob hj
      simp only [unpk] at hj
      rcases Nat.lt_or_ge j (unpk m a x.1 n).2.length with hlt | hge
      · rw [List.getElem?_append_left hlt] at hj
        obtain ⟨p1, e, u, xs, he, hf⟩ := k1 j ob hj
        have hg : g2 (n + j) = g1 (n + j) := e2 _ (.inl (by omega))
        subst he
        refine ⟨?_, e, u, xs, rfl, ?_⟩
        · simp only [obP, hg]; exact p1
        · intro f hf'
          rw [hg] at hf'
          rw [h2]
          exact List.mem_append_left _ (hf f hf')
      · rw [List.getElem?_append_right hge] at hj
        obtain ⟨p1, e, u, xs, he, hf⟩ := k2 _ ob hj
        have hn : n + (unpk m a x.1 n).2.length + (j - (unpk m a x.1 n).2.length) = n + j := by omega
        rw [hn] at p1 hf
        refine ⟨p1, e, u, xs, he, fun f hf' => ?_⟩
        rw [h2]
        exact List.mem_append_right _ (hf f hf')
  | .sl e t, xs, n, g, cs, F, ⟨v, css, F', h1, h2, h3, h4⟩ => by
    have hone : v.oneCell' = true := h2.one
    refine ⟨fun i => if i = n then ⟨v, hone, 0, css, F'⟩ else g i, ?_, ?_, rfl, ?_, ?_⟩
    · intro i hi
      simp only [unpk, List.length_singleton] at hi
      simp only
      rw [if_neg (by omega)]
    · simp [unpk, encL, encA, h1]
    · intro o ho
      simp only [unpk, List.flatMap_cons, refA, List.flatMap_nil, List.append_nil, List.mem_singleton] at ho
      simp only [unpk, List.length_singleton]
      omega
    · intro j ob hj
      match j with
      | 0 =>
        simp only [unpk, List.getElem?_cons_zero, Option.some.injEq] at hj
        subst hj
        refine ⟨⟨by simpa using h4, by simpa using h2, by simp⟩, e, t, xs, rfl, ?_⟩
        intro f hf
        simp only [Nat.add_zero, if_true] at hf
        rw [h3]
        exact hf
      | j + 1 => simp [unpk] at hj
  | .int k, x, n, g, cs, F, ⟨h1, h2⟩ => ⟨g, fun _ _ => rfl, by simp [unpk, encL, encA, h1], rfl, by simp [unpk, refA], by simp [unpk]⟩
  | .bool, x, n, g, cs, F, ⟨h1, h2⟩ => ⟨g, fun _ _ => rfl, by simp [unpk, encL, encA, h1], rfl, by simp [unpk, refA], by simp [unpk]⟩
  | .str, x, n, g, cs, F, ⟨h1, h2⟩ => ⟨g, fun _ _ => rfl, by simp [unpk, encL, encA, h1], rfl, by simp [unpk, refA], by simp [unpk]⟩
  | .unit, x, n, g, cs, F, ⟨h1, h2⟩ => ⟨g, fun _ _ => rfl, by simp [unpk, encL, flatT, FU, h1], rfl, by simp [unpk, refA], by simp [unpk]⟩
  | .arr q t, x, n, g, cs, F, ⟨h1, h2⟩ => ⟨g, fun _ _ => rfl, by simp [unpk, encL, encA, h1], rfl, by simp [unpk, refA], by simp [unpk]⟩

/-! ### objects more -/
theorem ob_add_lt {S : St} {news : List Ob} {i : Nat} (h : i < S.obs.length) : (S.add news).ob i = S.ob i := by
  simp [St.ob, St.add, List.getD_eq_getElem?_getD, List.getElem?_append_left h]
theorem ob_add_ge {S : St} {news : List Ob} {i : Nat} (h : S.obs.length ≤ i) : (S.add news).ob i = news.getD (i - S.obs.length) .gone := by
  simp [St.ob, St.add, List.getD_eq_getElem?_getD, List.getElem?_append_right h]
theorem ob_ge {S : St} {i : Nat} (h : S.obs.length ≤ i) : S.ob i = .gone := by simp [St.ob, List.getD_eq_getElem?_getD, List.getElem?_eq_none h]
theorem add_nil (S : St) : S.add [] = S := by simp [St.add]
section
variable {P : Program} {g g' : Env} {γ : Ghost} {S : St} {n : Nat} {a : Act} {w0 w : World} {D A : Nat → Prop}
theorem entL_ext {i : Nat} {o : Ob} (h : g' i = g i) (hr : ∀ T ls, o = .box T ls → ∀ x ∈ ls.flatMap refA, g' x = g x) : entL g' i o = entL g i o := by
  cases o with
  | box T ls => simp only [entL, boxT, h, encL_ext ls (hr T ls rfl)]
  | row e t xs m fu => cases m <;> simp only [entL, h]
  | gone => rfl
theorem entR_ext {i : Nat} {o : Ob} (h : g' i = g i) : entR g' i o = entR g i o := by
  cases o with
  | row e t xs m fu => cases m <;> simp only [entR, h]
  | _ => rfl
theorem obP_ext {i : Nat} {o : Ob} (h : g' i = g i) (k : obP g i o) : obP g' i o := by
  cases o with
  | row e t xs m fu => simp only [obP, h] at k ⊢; exact k
  | _ => exact k
/-- New objects that are read only: out of what is read. -/
def NewOk (g g' : Env) (S : St) (w : World) (news : List Ob) : Prop :=
  ∀ j ob, news[j]? = some ob → (∀ b, ¬ (entL g' (S.obs.length + j) ob).dom b) ∧ (entL g' (S.obs.length + j) ob).ok w ∧
    ((∀ b, ¬ (entR g' (S.obs.length + j) ob).dom b) ∧ (entR g' (S.obs.length + j) ob).ok w ∨
      ∃ o, Sub1 (entR g' (S.obs.length + j) ob) (entR g o (S.ob o)) w ∧ ((entR g' (S.obs.length + j) ob).lent = false → (entR g o (S.ob o)).lent = false))
/-- More objects, which are read only: out of what is read. -/
theorem cx_add (F : Fit g γ S n a) {news : List Ob} (hx : Ext g g' S.obs.length)
    (hn : NewOk g g' S w news)
    (C : Cx g S w0 D A w) : Cx g' (S.add news) w0 D A w := by
  have hlt : ∀ i, i < S.obs.length → entL g' i ((S.add news).ob i) = entL g i (S.ob i) ∧ entR g' i ((S.add news).ob i) = entR g i (S.ob i) := fun i hi => by
    rw [ob_add_lt hi]
    exact ⟨entL_ext (hx i hi) (fun T ls e x hm => hx x (F.rb i T ls e x hm)), entR_ext (hx i hi)⟩
  have hge : ∀ i, S.obs.length ≤ i → (∀ b, ¬ (entL g' i ((S.add news).ob i)).dom b) ∧ (entL g' i ((S.add news).ob i)).ok w ∧
      ((∀ b, ¬ (entR g' i ((S.add news).ob i)).dom b) ∧ (entR g' i ((S.add news).ob i)).ok w ∨
        ∃ o, Sub1 (entR g' i ((S.add news).ob i)) (entR g o (S.ob o)) w ∧ ((entR g' i ((S.add news).ob i)).lent = false → (entR g o (S.ob o)).lent = false)) := fun i hi => by
    rw [ob_add_ge hi]
    cases hj : news[i - S.obs.length]? with
    | none => rw [List.getD_eq_getElem?_getD, hj]; exact ⟨fun b h => h.elim, trivial, .inl ⟨fun b h => h.elim, trivial⟩⟩
    | some ob =>
      have := hn _ ob hj
      rw [show S.obs.length + (i - S.obs.length) = i by omega] at this
      rw [List.getD_eq_getElem?_getD, hj]
      exact this
  refine cf_remap C id (fun i => ?_) (fun i j hij _ _ => hij) (fun i => ?_)
  · rcases Nat.lt_or_ge i S.obs.length with h | h
    · simp only [(hlt i h).1]; exact .inr (Sub1.refl _ _)
    · exact .inl ⟨(hge i h).1, (hge i h).2.1⟩
  · rcases Nat.lt_or_ge i S.obs.length with h | h
    · simp only [(hlt i h).2]; exact .inr (.inl ⟨i, Sub1.refl _ _, id⟩)
    · rcases (hge i h).2.2 with h1 | ⟨o, h1, h2⟩
      · exact .inl h1
      · exact .inr (.inl ⟨o, h1, h2⟩)
theorem okV_add {news : List Ob} {v : V1} (hr : ∀ o ∈ refV v, o < S.obs.length) (h : okV S v) : okV (S.add news) v := by
  cases v with
  | elp o sz i off =>
    intro e t xs m fu he
    rw [ob_add_lt (hr o (by simp [refV]))] at he
    exact h e t xs m fu he
  | arp b off t n i => exact h
  | _ => trivial
theorem okS_add {news : List Ob} {v : SV} (hr : ∀ o ∈ refS v, o < S.obs.length) (h : okS S v) : okS (S.add news) v := by
  cases v with
  | v x => exact okV_add hr h
  | tup xs => exact fun x hx => okV_add (fun o ho => hr o (List.mem_flatMap.2 ⟨x, hx, ho⟩)) (h x hx)
theorem fit_add (F : Fit g γ S n a) {news : List Ob} (hx : Ext g g' S.obs.length) (hn : ∀ j ob, news[j]? = some ob → obP g' (S.obs.length + j) ob)
    (hb : ∀ (j T : Nat) (ls : List At), news[j]? = some (Ob.box T ls) → ∀ o ∈ ls.flatMap refA, o < S.obs.length + news.length) : Fit g' γ (S.add news) n a := by
  refine ⟨F.size, F.lo, F.defers, ?_, ?_, ?_, ?_, ?_⟩
  · intro t sv h
    have := F.sl t sv h
    rwa [encS_ext sv (fun o ho => hx o (F.rs t sv h o ho))]
  · intro i
    rcases Nat.lt_or_ge i S.obs.length with h | h
    · rw [ob_add_lt h]; exact obP_ext (hx i h) (F.ob i)
    · rw [ob_add_ge h]
      cases hj : news[i - S.obs.length]? with
      | none => rw [List.getD_eq_getElem?_getD, hj]; trivial
      | some ob =>
        have := hn _ ob hj
        rw [show S.obs.length + (i - S.obs.length) = i by omega] at this
        rw [List.getD_eq_getElem?_getD, hj]
        exact this
  · exact fun t sv h => okS_add (F.rs t sv h) (F.ok t sv h)
  · intro t sv h o ho
    have := F.rs t sv h o ho
    simp only [St.add, List.length_append]; omega
  · intro i T ls h o ho
    simp only [St.add, List.length_append]
    rcases Nat.lt_or_ge i S.obs.length with hi | hi
    · rw [ob_add_lt hi] at h; have := F.rb i T ls h o ho; omega
    · rw [ob_add_ge hi] at h
      cases hj : news[i - S.obs.length]? with
      | none => rw [List.getD_eq_getElem?_getD, hj] at h; cases h
      | some ob =>
        rw [List.getD_eq_getElem?_getD, hj] at h
        simp only [Option.getD_some] at h
        subst h
        exact hb _ T ls hj o ho
/-- What a look gives. -/
structure Looks (P : Program) (g : Env) (γ : Ghost) (S : St) (n : Nat) (a : Act) (op : Op) (q : Qt) (g' : Env) : Prop where
  ext : Ext g g' S.obs.length
  fit : Fit g' γ (S.add q.news) n a
  ok : okS (S.add q.news) q.v
  rs : ∀ o ∈ refS q.v, o < (S.add q.news).obs.length
  run : ∀ w0 D A w, Cx g S w0 D A w → NewOk g g' S w q.news ∧ Runs P a.eval op w (encS g' q.v) w
theorem looks0 (F : Fit g γ S n a) {op : Op} {p : Prop} {dp : Decidable p} {v : SV} (hok : okS S v) (hrs : ∀ o ∈ refS v, o < S.obs.length)
    (h : ∀ w0 D A w, Cx g S w0 D A w → Runs P a.eval op w (encS g v) w) : Looks P g γ S n a op ⟨p, dp, [], v⟩ g :=
  ⟨fun _ _ => rfl, by rw [add_nil]; exact F, by rw [add_nil]; exact hok, by rw [add_nil]; exact hrs, fun w0 D A w C => ⟨fun j ob hj => by simp at hj, h w0 D A w C⟩⟩
theorem opA_spec (F : Fit g γ S n a) {x : Operand} {sv : SV} (h : opA S x = some sv) : a.eval x = encS g sv ∧ okS S sv ∧ ∀ o ∈ refS sv, o < S.obs.length := by
  cases x with
  | tmp t =>
    simp only [opA] at h
    split at h
    · rename_i ht
      have := F.sl t sv h
      rw [if_pos ht] at this
      exact ⟨by simp [Act.eval, Array.getD_eq_getD_getElem?, this], F.ok t sv h, F.rs t sv h⟩
    · cases h
  | const v =>
    simp only [opA, Option.map_eq_some_iff] at h
    obtain ⟨b, hb, rfl⟩ := h
    unfold cst at hb
    split at hb <;> first
      | (cases hb; done)
      | (cases hb; exact ⟨rfl, trivial, by simp [refS, refV, refA]⟩)
  | func f => simp only [opA, Option.some.injEq] at h; subst h; exact ⟨rfl, trivial, by simp [refS, refV]⟩
  | global q =>
    simp only [opA] at h
    unfold lookG at h
    split at h
    · rename_i p hp
      have hq := List.find?_some hp
      simp only [Bool.and_eq_true, decide_eq_true_eq] at hq
      split at h
      · rename_i o hl
        cases h
        have h1 := F.sl p.1 _ hl
        rw [if_neg (by have := hq.1; simp only [rG] at this; omega)] at h1
        refine ⟨?_, F.ok _ _ hl, F.rs _ _ hl⟩
        rcases γ.gp p.1 hq.1 with h2 | h2
        · rw [h1] at h2; cases h2
        · rw [h1, hq.2] at h2
          exact h2.symm
      · cases h
    · cases h
end
end Go.Proofs.YthdgllldpfeelaaGreatDoor
/- Operations that only look, one by one. No condition. -/
set_option linter.unusedVariables false
set_option linter.unusedSimpArgs false
namespace Go.Proofs.YthdgllldpfeelaaGreatDoor
open Go
section
variable {P : Program} {g : Env} {γ : Ghost} {S : St} {n : Nat} {a : Act} {w0 w : World} {D A : Nat → Prop} {ρ : Operand → Value}
theorem typed_enc (t : TypeId) (x : At) : val1 g (typed P t x) = val1 g x ∧ encA g (typed P t x) = encA g x ∧ refA (typed P t x) = refA x ∧ stor (typed P t x) = stor x := by
  cases x <;> first
    | exact ⟨rfl, rfl, rfl, rfl⟩
    | (simp only [typed, nilOf]; split
       · split <;> exact ⟨rfl, rfl, rfl, rfl⟩
       · exact ⟨rfl, rfl, rfl, rfl⟩)
theorem typedV_enc (t : TypeId) (v : SV) : encS g (typedV P t v) = encS g v ∧ refS (typedV P t v) = refS v ∧ (okS S v → okS S (typedV P t v)) := by
  cases v with
  | tup xs => exact ⟨rfl, rfl, id⟩
  | v x => cases x with
    | a x => have := typed_enc (P := P) (g := g) t x; exact ⟨this.1, this.2.2.1, fun _ => trivial⟩
    | _ => exact ⟨rfl, rfl, id⟩
theorem runs_val {op : Op} {v : Value} (h : ∀ o : Oper, o.op = op → (execOp ρ o).run P w = .ok (.value v) w) : Runs P ρ op w v w := h
/-- A row's cells may be read. -/
theorem row_rds (C : Cx g S w0 D A w) {o e : Nat} {t : Ty} {xs : List t.den} {m : Md} {fu : Bool} (h : S.ob o = .row e t xs m fu) : Rds (g o).v xs.length t.sz (g o).cs w := by
  cases m with
  | own => have := C.okL o; simp only [h, entL] at this; exact rds_own this
  | rd => have := C.okR o; simp only [h, entR] at this; exact this _ (List.mem_cons_self ..)
  | lent => have := C.okR o; simp only [h, entR] at this; exact this _ (List.mem_cons_self ..)
theorem box_ok (C : Cx g S w0 D A w) {b T : Nat} {ls : List At} (h : S.ob b = .box T ls) : w.heap[(g b).b]? = some (.cells (encL g ls).toArray T (0, 0)) := by
  have := C.okL b; simp only [h, entL] at this; exact this
theorem ctx1 {E : Ent} (h : E.ok w) : Ctx w E.dom nob [E] [] w :=
  ⟨Fr.refl _ _, fun i F hi => by match i with | 0 => simp at hi; subst hi; exact h | i + 1 => simp at hi, by simp,
   fun i F hi b hb => by match i with | 0 => simp at hi; subst hi; exact .inl hb | i + 1 => simp at hi,
   fun i j F G hij hi hj => by match i, j with | 0, 0 => exact absurd rfl hij | 0, j + 1 => simp at hj | i + 1, _ => simp at hi, by simp, by simp⟩
/-! ### numbers, texts, bools -/
theorem intS_spec {op : BinOp} {k : IntKind} {x y : Int} {q : Qt} {t : TypeId} (h : intS op k x y = some q) (hp : q.p) (hs : op ≠ .shl ∧ op ≠ .shr) :
    q.news = [] ∧ refS q.v = [] ∧ okS S q.v ∧ binV P op t (.int k x) (.int k y) = some (encS g q.v) := by
  cases op <;> simp only [intS] at h <;> first
    | (cases h; done)
    | exact absurd rfl hs.1
    | exact absurd rfl hs.2
    | (cases h; exact ⟨rfl, rfl, trivial, by simp only [binV, if_true, intV]; rfl⟩)
    | (cases h; have hp' : y ≠ 0 := hp; exact ⟨rfl, rfl, trivial, by simp only [binV, if_true, intV, if_neg hp']; rfl⟩)
theorem binS_eq {op : BinOp} {t t' : TypeId} {X Y : Operand} {x y v : Value} (hx : ρ X = x) (hy : ρ Y = y) (h : binV P op t x y = some v) (w : World) : Runs P ρ (.binOp op t X Y t') w v w :=
  runs_pure (by simp only [pureV, hx, hy, h]) w
def Simple (g : Env) (S : St) (q : Qt) : Prop := q.news = [] ∧ okS S q.v ∧ ∀ o ∈ refS q.v, o < S.obs.length
theorem nilCmp_spec {op : BinOp} {b : Bool} {q : Qt} (h : nilCmp op b = some q) : Simple g S q ∧ ∃ r, encS g q.v = .bool r ∧ (op = .eql ∧ r = b ∨ op = .neq ∧ r = !b) := by
  cases op <;> simp only [nilCmp] at h <;> first
    | (cases h; done)
    | (cases h; exact ⟨⟨rfl, trivial, fun o h => by cases h⟩, _, rfl, by simp⟩)
theorem toB_enc {x : At} {b : Bool} (h : toB x = some b) : val1 g x = .bool b := by
  cases x with
  | fl t x => cases t <;> first | (simp [toB] at h; subst h; rfl) | (simp [toB] at h)
  | lit c => simp [toB] at h; subst h; rfl
  | _ => simp [toB] at h
end
end Go.Proofs.YthdgllldpfeelaaGreatDoor
/- Operations that only look: numbers, texts, lengths, places. No condition. -/
set_option linter.unusedVariables false
set_option linter.unusedSimpArgs false
namespace Go.Proofs.YthdgllldpfeelaaGreatDoor
open Go
section
variable {P : Program} {g : Env} {γ : Ghost} {S : St} {n : Nat} {a : Act} {w0 w : World} {D A : Nat → Prop} {ρ : Operand → Value}
/-- What an operation tells in every world in which the state stands. -/
def Tells (P : Program) (ρ : Operand → Value) (g : Env) (S : St) (op : Op) (q : Qt) : Prop :=
  Simple g S q ∧ ∀ w0 D A w, Cx g S w0 D A w → Runs P ρ op w (encS g q.v) w
theorem strS_spec {op : BinOp} {t t' : TypeId} {X Y : Operand} {x y : ByteArray} {q : Qt} (hx : ρ X = .string x) (hy : ρ Y = .string y) (h : strS op x y = some q) (hp : q.p) : Tells P ρ g S (.binOp op t X Y t') q := by
  cases op <;> simp only [strS] at h <;> first
    | (cases h; done)
    | (cases h; exact ⟨⟨rfl, trivial, fun o h => by cases h⟩, fun _ _ _ w _ => r_cat hx hy hp⟩)
    | (cases h; exact ⟨⟨rfl, trivial, fun o h => by cases h⟩, fun _ _ _ w _ => binS_eq hx hy (by simp only [binV, ByteArray.toList_eq]; rfl) w⟩)
theorem vec_cells (m : Nat) (u : Ty) (v : Vector u.den m) : (flatT (.arr m u)).cells v = v.toList.flatMap (flatT u).cells := by
  simp only [flatT, FA, arL_eq]
theorem partS_enc {ls : List At} {ft : TypeId} {off : Nat} {v : SV} (h : partS P ls ft off = some v) (g : Env) : partV P ft (encL g ls) off = some (encS g v) := by
  unfold partS at h
  split at h
  · rename_i m hm
    obtain ⟨seg, hseg, hof⟩ := Option.bind_eq_some_iff.1 h
    obtain ⟨pre, post, e, s1, s2⟩ := segL_spec hseg
    have hcells := seg_cells g (pre := pre) (seg := seg) (post := post) s1 s2
    rw [← e] at hcells
    rcases ofLeafs_spec hof hm s2 with ⟨hs, a, ha, hc, rfl⟩ | ⟨hs, he⟩
    · have h1 := oneA_enc g hc
      have hm1 : m = 1 := by rw [← s2, ← encL_len g, ha]; simp [encL, h1]
      subst hm1
      unfold partV
      rw [if_pos hs]
      have : encL g seg = [val1 g a] := by rw [ha]; simp [encL, h1]
      rw [this] at hcells
      have h2 := congrArg (·[0]?) hcells
      simp only [List.getElem?_take, List.getElem?_drop] at h2
      show (encL g ls)[off]? = some (val1 g a)
      simpa using h2
    · have hk := he g
      unfold rowT at hs
      simp only [Bool.and_eq_true, beq_iff_eq] at hs
      unfold partV
      have hns : scal P ft = false := by
        unfold scal
        have := hs.1
        simp only [Bool.or_eq_true, beq_iff_eq] at this
        rcases this with h | h <;> simp [h]
      rw [if_neg (by rw [hns]; simp), if_pos hs.1]
      obtain ⟨i, hi, his⟩ := Option.map_eq_some_iff.1 hs.2
      simp only [hi, Option.map_some, his, hcells, hk]
  · cases h
theorem eqFm_spec {cmp : TypeId → SV → SV → Option Bool} {cv : TypeId → Value → Value → Option Bool} (g : Env) (hc : ∀ t x y r, cmp t x y = some r → cv t (encS g x) (encS g y) = some r) {xs ys : List At} :
    ∀ {fs : List Field} {r : Bool}, eqFm P cmp xs ys fs = some r → eqFl P cv (encL g xs) (encL g ys) fs = some r
  | [], r, h => h
  | f :: fs, r, h => by
    simp only [eqFm] at h
    split at h
    · cases h
    · rename_i hn
      split at h
      · rename_i a b ha hb
        split at h
        · rename_i e q he hq
          cases h
          simp only [eqFl, if_neg hn, partS_enc ha g, partS_enc hb g, hc _ _ _ _ he, eqFm_spec g hc hq]
        · cases h
      · cases h
theorem eqSm_spec (g : Env) : ∀ (d : Nat) (t : TypeId) (x y : SV) (r : Bool), eqSm P d t x y = some r → eqV P d t (encS g x) (encS g y) = some r
  | 0, _, _, _, _, h => by simp [eqSm] at h
  | d + 1, t, x, y, r, h => by
    simp only [eqSm] at h
    split at h
    · rename_i k a k' b
      split at h
      · rename_i hc
        obtain ⟨h1, rfl⟩ := hc
        cases h
        simp [eqV, encS, encV, val1, h1]
      · cases h
    · rename_i a b
      split at h
      · rename_i h1
        cases h
        simp only [eqV, encS, encV, val1, h1, sEq, if_true, ByteArray.toList_eq]
      · cases h
    · rename_i xs ys
      split at h
      · rename_i fs hu
        split at h
        · cases h
        · rename_i hs
          have := eqFm_spec g (fun t x y r h => eqSm_spec g d t x y r h) h
          simp only [eqV, encS, encV, hu, if_neg hs, this]
      · cases h
    · rename_i n k a n' k' b
      split at h
      · rename_i m e hu
        split at h
        · rename_i hnk
          split at h
          · rename_i hc
            obtain ⟨rfl, rfl⟩ := hnk
            obtain ⟨rfl, hd, hi, hce, hsc, hty⟩ := hc
            cases h
            simp only [eqV, encS, encV, val1, hu, if_pos hi]
            rw [hce]
            obtain ⟨d, rfl⟩ : ∃ q, d = q + 1 := ⟨d - 1, by omega⟩
            have hget : ∀ (v : Vector Int m) (i : Nat), i < m → partV P e ((flatT (.arr m (.int k))).cells v) (i * 1) = some (.int k (v.toList.getD i 0)) := by
              intro v i hi
              unfold partV
              rw [if_pos hsc, vec_cells]
              have hlen : v.toList.length = m := by simp
              have : ∀ (l : List Int) (i : Nat), i < l.length → (l.flatMap (flatT (.int k)).cells)[i]? = some (.int k (l.getD i 0)) := by
                intro l
                induction l with
                | nil => intro i hi; simp at hi
                | cons x l ih =>
                  intro i hi
                  cases i with
                  | zero => rfl
                  | succ i =>
                    have h0 := ih i (by simpa using hi)
                    show ([Value.int k x] ++ l.flatMap (flatT (.int k)).cells)[i + 1]? = _
                    rw [List.getElem?_append_right (by simp)]
                    simpa using h0
              rw [Nat.mul_one]
              exact this v.toList i (by rw [hlen]; exact hi)
            have key : ∀ is : List Nat, (∀ i ∈ is, i < m) → eqIt P (eqV P (d + 1)) e 1 ((flatT (.arr m (.int k))).cells a) ((flatT (.arr m (.int k))).cells b) is = some (sameI m a b is) := by
              intro is
              induction is with
              | nil => intro _; rfl
              | cons i is ih =>
                intro hm
                have h1 := hm i (List.mem_cons_self ..)
                simp only [eqIt, hget a i h1, hget b i h1, ih (fun j hj => hm j (List.mem_cons_of_mem _ hj)), sameI]
                simp [eqV, hty]
            exact key _ (fun i hi => List.mem_range.1 hi)
          · cases h
        · cases h
      · cases h
    · rename_i x y _ _ _
      split at h
      · rename_i a b ha hb
        split at h
        · rename_i h1
          cases h
          simp only [encS, encV, toB_enc ha, toB_enc hb]
          simp [eqV, h1]
        · cases h
      · cases h
    · cases h
theorem isAgg_enc {x : SV} (h : isAggS x = true) (g : Env) : ∃ cs : List Value, encS g x = .agg cs.toArray := by
  unfold isAggS at h
  split at h
  · exact ⟨_, rfl⟩
  · exact ⟨_, rfl⟩
  · cases h
theorem eqS_spec {op : BinOp} {t t' : TypeId} {X Y : Operand} {x y : SV} {q : Qt} (hx : ρ X = encS g x) (hy : ρ Y = encS g y) (h : eqS P S op t x y = some q) (hp : q.p) : Tells P ρ g S (.binOp op t X Y t') q := by
  unfold eqS at h
  split at h
  · rename_i hc
    obtain ⟨c1, c2, c3⟩ := hc
    split at h
    · rename_i r hr
      obtain ⟨cx, ex⟩ := isAgg_enc c1 g
      obtain ⟨cy, ey⟩ := isAgg_enc c2 g
      have he := eqSm_spec g 12 t x y r hr
      rw [ex, ey] at he
      rw [ex] at hx
      rw [ey] at hy
      cases op <;> simp only at h <;> first
        | (cases h; done)
        | (cases h; exact ⟨⟨rfl, trivial, fun o h => by cases h⟩, fun _ _ _ w _ => r_eqd hx hy c3 he rfl⟩)
    · cases h
  · cases h
theorem binS_spec {op : BinOp} {t t' : TypeId} {X Y : Operand} {x y : SV} {q : Qt} (hx : ρ X = encS g x) (hy : ρ Y = encS g y) (h : binS P S op t x y = some q) (hp : q.p) : Tells P ρ g S (.binOp op t X Y t') q := by
  unfold binS at h
  split at h
  · rename_i k x k' y
    have hx : ρ X = .int k x := hx
    have hy : ρ Y = .int k' y := hy
    split at h
    · cases h
      have hp' : 0 ≤ (y : Int) := hp
      exact ⟨⟨rfl, trivial, fun o h => by cases h⟩, fun _ _ _ w _ => r_sh hx hy hp' rfl⟩
    · cases h
      have hp' : 0 ≤ (y : Int) := hp
      exact ⟨⟨rfl, trivial, fun o h => by cases h⟩, fun _ _ _ w _ => r_sh hx hy hp' rfl⟩
    · rename_i h1 h2
      split at h
      · rename_i hk
        subst hk
        obtain ⟨q1, q2, q3, q4⟩ := intS_spec (g := g) (S := S) (P := P) (t := t) h hp ⟨fun e => h1 e, fun e => h2 e⟩
        exact ⟨⟨q1, q3, by rw [q2]; intro o h; cases h⟩, fun _ _ _ w _ => binS_eq hx hy q4 w⟩
      · cases h
  · exact strS_spec hx hy h hp
  · split at h
    · rename_i ht
      obtain ⟨s, r, hr, ho⟩ := nilCmp_spec (g := g) (S := S) h
      refine ⟨s, fun _ _ _ w _ => binS_eq hx hy ?_ w⟩
      rw [hr]
      rcases ho with ⟨rfl, rfl⟩ | ⟨rfl, rfl⟩ <;> simp [encS, encV, val1, binV, ht]
    · cases h
  · split at h
    · rename_i ht
      obtain ⟨s, r, hr, ho⟩ := nilCmp_spec (g := g) (S := S) h
      refine ⟨s, fun _ _ _ w _ => binS_eq hx hy ?_ w⟩
      rw [hr]
      rcases ho with ⟨rfl, rfl⟩ | ⟨rfl, rfl⟩ <;> simp [encS, encV, val1, binV, ht]
    · cases h
  · split at h
    · rename_i ht
      obtain ⟨s, r, hr, ho⟩ := nilCmp_spec (g := g) (S := S) h
      refine ⟨s, fun _ _ _ w _ => binS_eq hx hy ?_ w⟩
      rw [hr]
      rcases ho with ⟨rfl, rfl⟩ | ⟨rfl, rfl⟩ <;> simp [encS, encV, val1, binV, ht]
    · cases h
  · split at h
    · rename_i ht
      obtain ⟨s, r, hr, ho⟩ := nilCmp_spec (g := g) (S := S) h
      refine ⟨s, fun _ _ _ w _ => binS_eq hx hy ?_ w⟩
      rw [hr]
      rcases ho with ⟨rfl, rfl⟩ | ⟨rfl, rfl⟩ <;> simp [encS, encV, val1, binV, ht]
    · cases h
  · split at h
    · rename_i ht
      obtain ⟨s, r, hr, ho⟩ := nilCmp_spec (g := g) (S := S) h
      refine ⟨s, fun _ _ _ w _ => binS_eq hx hy ?_ w⟩
      rw [hr]
      rcases ho with ⟨rfl, rfl⟩ | ⟨rfl, rfl⟩ <;> simp [encS, encV, val1, binV, ht]
    · cases h
  · split at h
    · rename_i a b ha hb
      have hx : ρ X = .bool a := hx.trans (toB_enc ha)
      have hy : ρ Y = .bool b := hy.trans (toB_enc hb)
      split at h
      · rename_i ht
        split at h <;> first
          | (cases h; done)
          | (cases h; exact ⟨⟨rfl, trivial, fun o h => by cases h⟩, fun _ _ _ w _ => binS_eq hx hy (by simp [binV, ht]; rfl) w⟩)
      · cases h
    · exact eqS_spec hx hy h hp
  · exact eqS_spec hx hy h hp
theorem unS_spec {op : UnOp} {t : TypeId} {X : Operand} {x : SV} {q : Qt} (hx : ρ X = encS g x) (h : unS op x = some q) : Tells P ρ g S (.unOp op t X) q := by
  have key : ∀ v, pureV P ρ (.unOp op t X) = some v → ∀ w, Runs P ρ (.unOp op t X) w v w := fun v hv w => runs_pure hv w
  unfold unS at h
  split at h
  · rename_i b
    have hx : ρ X = .bool b := hx
    cases op <;> simp only at h <;> first
      | (cases h; done)
      | (cases h; exact ⟨⟨rfl, trivial, fun o h => by cases h⟩, fun _ _ _ w _ => key _ (by simp [pureV, hx]; rfl) w⟩)
  · rename_i b
    have hx : ρ X = .bool b := hx
    cases op <;> simp only at h <;> first
      | (cases h; done)
      | (cases h; exact ⟨⟨rfl, trivial, fun o h => by cases h⟩, fun _ _ _ w _ => key _ (by simp [pureV, hx]; rfl) w⟩)
  · rename_i k x
    have hx : ρ X = .int k x := hx
    cases op <;> simp only at h <;> first
      | (cases h; done)
      | (cases h; exact ⟨⟨rfl, trivial, fun o h => by cases h⟩, fun _ _ _ w _ => key _ (by simp [pureV, hx, intV]; rfl) w⟩)
  · cases h
theorem lenS_spec {t : TypeId} {X : Operand} {x : SV} {q : Qt} (hx : ρ X = encS g x) (h : lenS P S t x = some q) : Tells P ρ g S (.call { callee := .builtin .len, args := #[X], argTypes := #[t] }) q := by
  unfold lenS at h
  split at h
  · rename_i s
    have hx : ρ X = .string s := hx
    split at h
    · rename_i ht
      cases h
      exact ⟨⟨rfl, trivial, fun o h => by cases h⟩, fun _ _ _ w _ => runs_pure (by simp [pureV, callV, ht, hx]; rfl) w⟩
    · cases h
  · rename_i o
    split at h
    · rename_i ht
      split at h
      · rename_i e u xs m fu ho
        cases h
        exact ⟨⟨rfl, trivial, fun o h => by cases h⟩, fun _ _ _ w C => r_len (rds_shp (row_rds C ho)) hx (by simp [ht])⟩
      · cases h
    · cases h
  · split at h
    · rename_i ht
      cases h
      exact ⟨⟨rfl, trivial, fun o h => by cases h⟩, fun _ _ _ w C => r_len (n := 0) (rds_shp (rds_nil 1 w)) hx (by simp [ht])⟩
    · cases h
  · split at h
    · rename_i ht
      cases h
      exact ⟨⟨rfl, trivial, fun o h => by cases h⟩, fun _ _ _ w C => r_len (n := 0) (rds_shp (rds_nil 1 w)) hx (by simp [ht])⟩
    · cases h
  · cases h
theorem minS_spec {big : Bool} {Xs : Array Operand} {ts : Array TypeId} {xs : List SV} {q : Qt} (hx : Xs.toList.map ρ = xs.map (encS g)) (h : minS big xs = some q) :
    Tells P ρ g S (.call { callee := .builtin (if big then .max else .min), args := Xs, argTypes := ts }) q := by
  unfold minS at h
  split at h
  · rename_i k x k' y
    cases h
    match hl : Xs.toList, hx with
    | [X, Y], hx =>
      simp only [List.map_cons, List.map_nil, List.cons.injEq, and_true] at hx
      have h1 : ρ X = .int k x := hx.1
      have h2 : ρ Y = .int k' y := hx.2
      refine ⟨⟨rfl, trivial, fun o h => by cases h⟩, fun _ _ _ w _ => runs_pure ?_ w⟩
      cases big <;> simp [pureV, callV, hl, h1, h2] <;> rfl
    | [], hx => simp at hx
    | [_], hx => simp at hx
    | _ :: _ :: _ :: _, hx => simp at hx
  · rename_i k x k' y k'' z
    cases h
    match hl : Xs.toList, hx with
    | [X, Y, Z], hx =>
      simp only [List.map_cons, List.map_nil, List.cons.injEq, and_true] at hx
      have h1 : ρ X = .int k x := hx.1
      have h2 : ρ Y = .int k' y := hx.2.1
      have h3 : ρ Z = .int k'' z := hx.2.2
      refine ⟨⟨rfl, trivial, fun o h => by cases h⟩, fun _ _ _ w _ => runs_pure ?_ w⟩
      cases big <;> simp [pureV, callV, hl, h1, h2, h3] <;> rfl
    | [], hx => simp at hx
    | [_], hx => simp at hx
    | [_, _], hx => simp at hx
    | _ :: _ :: _ :: _ :: _, hx => simp at hx
  · cases h
theorem idxA_spec (hb : ∀ i, obP g i (S.ob i)) {t : TypeId} {X Y : Operand} {x y : SV} {q : Qt} (hx : ρ X = encS g x) (hy : ρ Y = encS g y) (hr : ∀ o ∈ refS x, o < S.obs.length) (h : idxA P S t x y = some q) (hp : q.p) : Tells P ρ g S (.indexAddr t X Y) q := by
  unfold idxA at h
  split at h
  · rename_i o k i
    split at h
    · rename_i e u xs m fu ho
      split at h
      · rename_i ht
        cases h
        have hp' : 0 ≤ (i : Int) ∧ (i : Int) < xs.length := hp
        refine ⟨⟨rfl, ?_, hr⟩, fun _ _ _ w C => ?_⟩
        · intro e' t' xs' m' fu' he
          rw [ho] at he
          cases he
          exact ⟨hp'.1, hp'.2, rfl⟩
        · have := r_idx (P := P) (ρ := ρ) (w := w) (t := t) (x := X) (y := Y) (i := i) (k := k) (sz := u.sz) (rds_shp (row_rds C ho)) hx hy hp'.1 hp'.2 ht
          have e : encS g (.v (.elp o u.sz i 0)) = .pointer (some (elemA (g o).v (i.toNat * u.sz))) := by simp [encS, encV, Addr.add]
          show Runs P ρ _ w (encS g (.v (.elp o u.sz i 0))) w
          rw [e]
          exact this
      · cases h
    · cases h
  · rename_i b off k i
    split at h
    · rename_i T ls hob
      split at h
      · rename_i m u vec rest hs
        split at h
        · rename_i ht
          cases h
          have hp' : 0 ≤ (i : Int) ∧ (i : Int) < m := hp
          refine ⟨⟨rfl, hp', hr⟩, fun _ _ _ w C => ?_⟩
          exact r_idxa (P := P) (ρ := ρ) (n := m) hx hy hp'.1 hp'.2 ht
        · cases h
      · cases h
    · cases h
  · cases h
theorem sc1_one {u : Ty} (h : u.sc1 = true) (x : u.den) : (flatT u).cells x = [encS g (.v (.a (.fl u x)))] := by
  cases u <;> first | rfl | (simp [Ty.sc1] at h)
theorem idx_spec {t : TypeId} {X Y : Operand} {x y : SV} {q : Qt} (hx : ρ X = encS g x) (hy : ρ Y = encS g y) (h : idx P t x y = some q) (hp : q.p) : Tells P ρ g S (.index t X Y) q := by
  unfold idx at h
  split at h
  · rename_i s k i
    split at h
    · rename_i ht
      cases h
      have hp' : 0 ≤ (i : Int) ∧ (i : Int) < (s.size : Int) := hp
      exact ⟨⟨rfl, trivial, fun o h => by cases h⟩, fun _ _ _ w _ => r_sidx hx hy hp'.1 hp'.2 (by simp [ht])⟩
    · cases h
  · rename_i m u vec k i
    split at h
    · rename_i ht
      cases h
      have hp' : 0 ≤ (i : Int) ∧ (i : Int) < m := hp
      obtain ⟨h1, h2, h4⟩ := ht
      refine ⟨⟨rfl, trivial, fun o h => by cases h⟩, fun _ _ _ w _ => ?_⟩
      exact r_aidx (F := flatT u) (n := m) (vec := vec) hx hy hp'.1 hp'.2 (by rw [flatT_sz]; exact h1) h4 (by rw [flatT_dflt]; exact sc1_one h2 _)
    · cases h
  · cases h
theorem fieldA_spec {t : TypeId} {f : Nat} {X : Operand} {x : SV} {q : Qt} (hx : ρ X = encS g x) (hok : okS S x) (hr : ∀ o ∈ refS x, o < S.obs.length) (h : fieldA P t f x = some q) : Tells P ρ g S (.fieldAddr t X f) q := by
  unfold fieldA at h
  split at h
  · rename_i b off
    obtain ⟨fo, hfo, rfl⟩ := Option.map_eq_some_iff.1 h
    have hx : ρ X = .pointer (some ⟨(g b).b, off, none⟩) := hx
    exact ⟨⟨rfl, trivial, hr⟩, fun _ _ _ w _ => runs_pure (by simp only [pureV, hx, hfo, add_plain]; rfl) w⟩
  · rename_i o sz i off
    obtain ⟨fo, hfo, rfl⟩ := Option.map_eq_some_iff.1 h
    have hx : ρ X = .pointer (some ((elemA (g o).v (i.toNat * sz)).add off)) := hx
    exact ⟨⟨rfl, hok, hr⟩, fun _ _ _ w _ => runs_pure (by simp only [pureV, hx, hfo, add_add]; rfl) w⟩
  · cases h
theorem r_field {t ft : TypeId} {f off sz : Nat} {X : Operand} {cs : List Value} {v : Value} (hx : ρ X = .agg cs.toArray) (hf : fieldOff P t f = some (ft, off)) (hv : partV P ft cs off = some v) (w : World) : Runs P ρ (.field t X f) w v w := by
  intro o ho
  unfold fieldOff at hf
  split at hf
  · rename_i fs hu
    obtain ⟨fd, hfd, he⟩ := Option.map_eq_some_iff.1 hf
    cases he
    have := run_partV (w := w) (cs := cs.toArray) (by simpa using hv)
    simp [execOp, ho, Instr.field, run_underlying hu, hfd, hx, asAgg, this]
  · cases hf
theorem fieldS_spec {t : TypeId} {f : Nat} {X : Operand} {x : SV} {q : Qt} (hx : ρ X = encS g x) (hr : ∀ o ∈ refS x, o < S.obs.length) (h : fieldS P t f x = some q) : Tells P ρ g S (.field t X f) q := by
  unfold fieldS at h
  split at h
  · rename_i ls
    split at h
    · rename_i ft off hf
      split at h
      · rename_i m hm
        obtain ⟨v, hv, rfl⟩ := Option.map_eq_some_iff.1 h
        obtain ⟨seg, hseg, hof⟩ := Option.bind_eq_some_iff.1 hv
        obtain ⟨pre, post, e, s1, s2⟩ := segL_spec hseg
        have hrf := ofLeafs_ref hof
        have hcells := seg_cells g (pre := pre) (seg := seg) (post := post) s1 s2
        rw [← e] at hcells
        refine ⟨⟨rfl, hrf.2 S, fun o ho => hr o ?_⟩, fun _ _ _ w _ => ?_⟩
        · change o ∈ refS v at ho
          rw [hrf.1] at ho
          simp only [refS, refV, e, List.flatMap_append, List.mem_append]
          exact .inr (.inl ho)
        · refine r_field (cs := encL g ls) (off := off) (sz := m) hx hf ?_ w
          rcases ofLeafs_spec hof hm s2 with ⟨hs, a, ha, hc, rfl⟩ | ⟨hs, he⟩
          · have h1 := oneA_enc g hc
            have hm1 : m = 1 := by rw [← s2, ← encL_len g, ha]; simp [encL, h1]
            subst hm1
            unfold partV
            rw [if_pos hs]
            have : encL g seg = [val1 g a] := by rw [ha]; simp [encL, h1]
            rw [this] at hcells
            have h2 := congrArg (·[0]?) hcells
            simp only [List.getElem?_take, List.getElem?_drop] at h2
            show (encL g ls)[off]? = some (val1 g a)
            simpa using h2
          · have hk := he g
            unfold rowT at hs
            simp only [Bool.and_eq_true, beq_iff_eq] at hs
            unfold partV
            have hns : scal P ft = false := by
              unfold scal
              have := hs.1
              simp only [Bool.or_eq_true, beq_iff_eq] at this
              rcases this with h | h <;> simp [h]
            rw [if_neg (by rw [hns]; simp), if_pos hs.1]
            obtain ⟨i, hi, his⟩ := Option.map_eq_some_iff.1 hs.2
            simp only [q0, hi, Option.map_some, his, hcells, hk]
      · cases h
    · cases h
  · cases h
end
end Go.Proofs.YthdgllldpfeelaaGreatDoor
/- Operations that only look: loads, cuts, conversions; all of them. No condition. -/
set_option linter.unusedVariables false
set_option linter.unusedSimpArgs false
namespace Go.Proofs.YthdgllldpfeelaaGreatDoor
open Go
section
variable {P : Program} {g : Env} {γ : Ghost} {S : St} {n : Nat} {a : Act} {w0 w : World} {D A : Nat → Prop} {ρ : Operand → Value}
theorem r_ldcells {t : TypeId} {X : Operand} {ad : Addr} {m : Nat} {cs : List Value} {v : Value} (hx : ρ X = .pointer (some ad)) (hc : ∀ j u, cs[j]? = some u → w.cell? (ad.add j) = some u)
    (hv : (scal P t = true ∧ cs = [v]) ∨ (rowT P t m = true ∧ cs.length = m ∧ v = .agg cs.toArray)) : Runs P ρ (.load t X) w v w := by
  rcases hv with ⟨hs, rfl⟩ | ⟨hs, hl, rfl⟩
  · refine r_cell hx ?_ hs
    have := hc 0 v rfl
    simpa [Addr.add] using this
  · intro o ho
    obtain ⟨d, h1, h2, h3⟩ := row_yes hs
    subst hl
    have hl : (loadCells ad cs.length).run P w = .ok cs.toArray w := run_loadCells_list (P := P) w _ _ hc
    cases hq : P.info? t with
    | none => simp [hq] at h3
    | some q =>
      have hs' : q.size = cs.length := by simpa [hq] using h3
      have hagg : (isAgg t).run P w = .ok true w := by
        unfold isAgg
        rw [Sem.run_bind, run_underlying h1 w]
        cases d <;> simp_all
      simp only [execOp, ho, hx, Instr.loadAt, Instr.sureAddr, Sem.run_bind, Sem.run_pure, Result.andThen_ok, loadVar, hagg, if_true, sizeOf, typeInfo, run_program, hq, hs', hl]
theorem ldS_spec (F : Fit g γ S n a) {t : TypeId} {X : Operand} {x : SV} {q : Qt} (hx : a.eval X = encS g x) (hok : okS S x) (hr : ∀ o ∈ refS x, o < S.obs.length) (h : ldS P S t x = some q) : ∃ g', Looks P g γ S n a (.load t X) q g' := by
  unfold ldS at h
  split at h
  · rename_i b off
    split at h
    · rename_i T ls m hb hm
      obtain ⟨v, hv, rfl⟩ := Option.map_eq_some_iff.1 h
      obtain ⟨seg, hseg, hof⟩ := Option.bind_eq_some_iff.1 hv
      obtain ⟨pre, post, e, s1, s2⟩ := segL_spec hseg
      have hrf := ofLeafs_ref hof
      have hcells := seg_cells g (pre := pre) (seg := seg) (post := post) s1 s2
      rw [← e] at hcells
      have hlen : (encL g seg).length = m := by rw [encL_len, s2]
      refine ⟨g, looks0 F (hrf.2 S) (fun o ho => ?_) (fun w0 D A w C => ?_)⟩
      · rw [hrf.1] at ho
        exact F.rb b T ls hb o (by rw [e]; simp only [List.flatMap_append, List.mem_append]; exact .inr (.inl ho))
      · have hbx := box_ok C hb
        have Cc : Ctx w _ nob [boxE false (g b).b T (encL g ls)] [] w := ctx1 (E := boxE false (g b).b T (encL g ls)) hbx
        rcases ofLeafs_spec hof hm s2 with ⟨hs, y, hy, hc, rfl⟩ | ⟨hs, he⟩
        · have h1 := oneA_enc g hc
          have hm1 : m = 1 := by rw [← hlen, hy]; simp [encL, h1]
          subst hm1
          have : encL g seg = [val1 g y] := by rw [hy]; simp [encL, h1]
          rw [this] at hcells
          have h2 := congrArg (·[0]?) hcells
          simp only [List.getElem?_take, List.getElem?_drop] at h2
          have h3 : (encL g ls)[off]? = some (val1 g y) := by simpa using h2
          exact r_ldb (li := 0) Cc rfl hx h3 hs
        · rw [he g]
          exact r_ldbs (li := 0) Cc rfl hx (by rw [hlen]; exact hcells) (by rw [hlen]; exact hs)
    · cases h
  · rename_i o sz i off
    split at h
    · rename_i e u xs md fu m ho hm
      obtain ⟨v, hv, rfl⟩ := Option.map_eq_some_iff.1 h
      obtain ⟨seg, hseg, hof⟩ := Option.bind_eq_some_iff.1 hv
      obtain ⟨pre, post, es, s1, s2⟩ := segL_spec hseg
      have hrf := ofLeafs_ref hof
      obtain ⟨hi0, hi1, rfl⟩ := hok e u xs md fu ho
      have hob : obP g o (S.ob o) := F.ob o
      rw [ho] at hob
      obtain ⟨hrep, _, hfull⟩ := hob
      have hlt : i.toNat < xs.length := by omega
      obtain ⟨F1, hel, hsub⟩ := RepL_get (fun x c F h => RepP_len u x c F h) xs _ _ hrep i.toNat hlt
      have hat : at_ u xs i = xs[i.toNat] := by simp [at_, List.getD_eq_getElem?_getD, hlt]
      have hinm : inner md ≠ .own := by cases md <;> simp [inner]
      rw [← hat] at hel
      obtain ⟨g', hx', hq, hst, href, hnew⟩ := unpk_spec (inner md) hinm u (at_ u xs i) S.obs.length g _ F1 hel
      have hseg' := seg_cells g' (pre := pre) (seg := seg) (post := post) s1 s2
      rw [← es, hq] at hseg'
      have hlen : (encL g' seg).length = m := by rw [encL_len, s2]
      -- what the load gives, in every world in which the row may be read
      have hrun : ∀ w, Rds (g o).v xs.length u.sz (g o).cs w → Runs P a.eval (.load t X) w (encS g' v) w := by
        intro w hrd
        refine r_ldcells (ρ := a.eval) (m := m) (cs := encL g' seg) hx ?_ ?_
        · intro j y hu
          have hj : j < m := by have := (List.getElem?_eq_some_iff.1 hu).1; omega
          rw [← hseg', List.getElem?_take, if_pos hj, List.getElem?_drop, List.getElem?_take] at hu
          split at hu
          · rw [List.getElem?_drop] at hu
            have hc := rds_cell hrd hu
            obtain ⟨_, ao, c, hv', _, _, _, h2⟩ := hrd
            obtain ⟨ad, rfl, _⟩ := h2 _ y hu
            rw [hv'] at hc ⊢
            simp only [elemA, add_add] at hc ⊢
            rw [show i.toNat * u.sz + off + j = i.toNat * u.sz + (off + j) by omega]
            exact hc
          · cases hu
        · rcases ofLeafs_spec hof hm s2 with ⟨hs, y, hy, hc, rfl⟩ | ⟨hs, he⟩
          · refine .inl ⟨hs, ?_⟩
            rw [hy]
            have h1 := oneA_enc g' hc
            show encL g' [y] = [val1 g' y]
            simp [encL, h1]
          · exact .inr ⟨hs, hlen, he g'⟩
      by_cases hemp : (refS v).isEmpty = true
      · have hnil : refS v = [] := by simpa using hemp
        refine ⟨g, ?_⟩
        rw [if_pos hemp]
        refine looks0 F (hrf.2 S) (fun o ho => by rw [hnil] at ho; cases ho) (fun w0 D A w C => ?_)
        have := hrun w (row_rds C ho)
        rwa [encS_ext (g := g) v (fun o ho => by rw [hnil] at ho; cases ho)] at this
      · refine ⟨g', ?_⟩
        rw [if_neg hemp]
        have hext : Ext g g' S.obs.length := fun i hi => hx' i (.inl hi)
        refine ⟨hext, fit_add F hext (fun j ob hj => (hnew j ob hj).1) (fun j T ls hj => ?_), hrf.2 _, ?_, fun w0 D A w C => ⟨?_, hrun w (row_rds C ho)⟩⟩
        · obtain ⟨_, _, _, _, he, _⟩ := hnew j _ hj
          cases he
        · intro o ho
          rw [hrf.1] at ho
          have := href o (by rw [es]; simp only [List.flatMap_append, List.mem_append]; exact .inr (.inl ho))
          simp only [St.add, List.length_append]
          omega
        · intro j ob hj
          obtain ⟨_, e', u', ys, rfl, hfs⟩ := hnew j ob hj
          have hR := C.okR o
          simp only [ho] at hR
          have hin : ∀ f ∈ (⟨(g' (S.obs.length + j)).v, ys.length, u'.sz, (g' (S.obs.length + j)).cs⟩ :: (g' (S.obs.length + j)).fs : List Fact), f ∈ (g o).fs := fun f hf => hsub f (hfs f hf)
          cases md with
          | own => exact ⟨fun b h => h.elim, trivial, .inr ⟨o, ⟨fun h f hf => (by rw [ho] at h; exact h f (hin f hf)), fun b ⟨f, hf, hb⟩ => by rw [ho]; exact ⟨f, hin f hf, hb⟩⟩, fun _ => by rw [ho]; rfl⟩⟩
          | rd => exact ⟨fun b h => h.elim, trivial, .inr ⟨o, ⟨fun h f hf => (by rw [ho] at h; exact h f (List.mem_cons_of_mem _ (hin f hf))), fun b ⟨f, hf, hb⟩ => by rw [ho]; exact ⟨f, List.mem_cons_of_mem _ (hin f hf), hb⟩⟩, fun _ => by rw [ho]; rfl⟩⟩
          | lent => exact ⟨fun b h => h.elim, trivial, .inr ⟨o, ⟨fun h f hf => (by rw [ho] at h; exact h f (List.mem_cons_of_mem _ (hin f hf))), fun b ⟨f, hf, hb⟩ => by rw [ho]; exact ⟨f, List.mem_cons_of_mem _ (hin f hf), hb⟩⟩, fun h => by cases h⟩⟩
    · cases h
  · rename_i b off u m i
    split at h
    · rename_i T ls hb
      split at h
      · rename_i m' u' vec rest hs
        split at h
        · rename_i ht
          cases h
          obtain ⟨rfl, rfl, h3, h4⟩ := ht
          obtain ⟨pre, e, hps⟩ := skipL_spec _ _ _ hs
          refine ⟨g, looks0 F trivial (fun o ho => by cases ho) (fun w0 D A w C => ?_)⟩
          have hbx := box_ok C hb
          have Cc : Ctx w _ nob [boxE false (g b).b T (encL g ls)] [] w := ctx1 (E := boxE false (g b).b T (encL g ls)) hbx
          have hok' : 0 ≤ i ∧ i < m' := hok
          refine r_lda (F := flatT u') (n := m') (li := 0) (vec := vec) Cc rfl (off := off) ?_ (by rw [flatT_sz]; exact hx) hok'.1 hok'.2 (by rw [flatT_dflt]; exact sc1_one h3 _) h4
          have := seg_cells g (pre := pre) (seg := [.fl (.arr m' u') vec]) (post := rest) (n := m' * (flatT u').sz) hps (by simp [sizeL, At.sz, Ty.sz, flatT_sz])
          rw [e]
          simpa [encL, encA, flatT] using this
        · cases h
      · cases h
    · cases h
  · cases h
end
end Go.Proofs.YthdgllldpfeelaaGreatDoor
/- Operations that only look: cuts, conversions, what is built; all of them. No condition. -/
set_option linter.unusedVariables false
set_option linter.unusedSimpArgs false
namespace Go.Proofs.YthdgllldpfeelaaGreatDoor
open Go
section
variable {P : Program} {g : Env} {γ : Ghost} {S : St} {n : Nat} {a : Act} {w0 w : World} {D A : Nat → Prop} {ρ : Operand → Value}
theorem numO_spec {x : Option SV} {r : Option Int} (h : numO x = some r) : x.map (encS g) = none ∧ r = none ∨ ∃ k i, x.map (encS g) = some (.int k i) ∧ r = some i := by
  unfold numO at h
  split at h
  · cases h; exact .inl ⟨rfl, rfl⟩
  · cases h; exact .inr ⟨_, _, rfl, rfl⟩
  · cases h
theorem numO_hi {x : Option SV} {r : Option Int} {N : Nat} (h : numO x = some r) (h0 : 0 ≤ r.getD N) (h1 : r.getD N ≤ N) : hiOf (x.map (encS g)) N = some (r.getD N).toNat := by
  rcases numO_spec (g := g) h with ⟨e, rfl⟩ | ⟨k, i, e, rfl⟩ <;> rw [e]
  · simp [hiOf]
  · simp only [Option.getD_some] at h0 h1 ⊢; exact hi_ok k i h0 h1
theorem numO_lo {x : Option SV} {r : Option Int} {N : Nat} (h : numO x = some r) (h0 : 0 ≤ r.getD 0) (h1 : r.getD 0 ≤ N) : loOf (x.map (encS g)) N = some (r.getD 0).toNat := by
  rcases numO_spec (g := g) h with ⟨e, rfl⟩ | ⟨k, i, e, rfl⟩ <;> rw [e]
  · simp [loOf]
  · simp only [Option.getD_some] at h0 h1 ⊢; exact lo_ok k i h0 h1
theorem opO_spec (F : Fit g γ S n a) {x : Option Operand} {r : Option SV} (h : opO S x = some r) : x.map a.eval = r.map (encS g) := by
  cases x with
  | none => simp only [opO, Option.some.injEq] at h; subst h; rfl
  | some x =>
    obtain ⟨v, hv, rfl⟩ := Option.map_eq_some_iff.1 h
    simp [(opA_spec F hv).1]
theorem takeO_eq {α : Type} (h : Option Int) (xs : List α) : takeO h xs = xs.take (h.getD xs.length).toNat := by
  cases h <;> simp [takeO]
theorem dropO_eq {α : Type} (l : Option Int) (xs : List α) : dropO l xs = xs.drop (l.getD 0).toNat := by
  cases l <;> simp [dropO]
theorem cutV_one (v : Value) (l h sz : Nat) (hs : ∃ ao n c, v = .slice ao n c) : (cutV v l h sz).oneCell' = true ∧ (cutV3 v l h sz).oneCell' = true := by
  obtain ⟨ao, n, c, rfl⟩ := hs
  exact ⟨rfl, rfl⟩
/-- A cut of a row that is read. -/
theorem cut_row (F : Fit g γ S n a) {t : TypeId} {X : Operand} {Lo Hi Mx : Option Operand} {o e : Nat} {u : Ty} {xs : List u.den} {md : Md} {fu : Bool} {lo hi mx : Option SV} {l h m : Option Int}
    (ho : S.ob o = .row e u xs md fu) (hmd : md ≠ .own) (hx : a.eval X = (g o).v) (hl : opO S Lo = some lo) (hh : opO S Hi = some hi) (hm : opO S Mx = some mx)
    (nl : numO lo = some l) (nh : numO hi = some h) (nm : numO mx = some m) (he : elemSz P t = some u.sz) (hmh : m.isSome = true → h.isSome = true ∧ kindO hi = kindO mx)
    (hp : 0 ≤ l.getD 0 ∧ l.getD 0 ≤ h.getD (xs.length : Int) ∧ h.getD (xs.length : Int) ≤ (xs.length : Int) ∧ m.getD (h.getD (xs.length : Int)) = h.getD (xs.length : Int)) {p : Prop} {dp : Decidable p} :
    ∃ g', Looks P g γ S n a (.slice t X Lo Hi Mx) ⟨p, dp, [.row e u (dropO l (takeO h xs)) md m.isSome], .v (.a (.sl S.obs.length))⟩ g' := by
  obtain ⟨p0, p1, p2, p3⟩ := hp
  have hob := F.ob o
  rw [ho] at hob
  obtain ⟨hrep, ⟨ao, c, hv, hnil⟩, _⟩ := hob
  obtain ⟨H, hH⟩ : ∃ H : Nat, H = (h.getD (xs.length : Int)).toNat := ⟨_, rfl⟩
  obtain ⟨L, hL⟩ : ∃ L : Nat, L = (l.getD 0).toNat := ⟨_, rfl⟩
  have hLH : L ≤ H := by omega
  have hHn : H ≤ xs.length := by omega
  have hys : dropO l (takeO h xs) = (xs.take H).drop L := by rw [takeO_eq, dropO_eq, hH, hL]
  have hyl : ((xs.take H).drop L).length = H - L := by simp; omega
  rw [hys]
  have hlen := fun x c F h => RepP_len u x c F h
  obtain ⟨F1, F2, ef, k1, k2⟩ := RepL_split hlen H xs _ _ hrep
  obtain ⟨F3, F4, ef', k3, k4⟩ := RepL_split hlen L _ _ _ k1
  have hsub : ∀ f ∈ F4, f ∈ (g o).fs := fun f hf => by rw [ef, ef']; simp [hf]
  obtain ⟨V, hV⟩ : ∃ V, V = if m.isSome = true then cutV3 (g o).v L H u.sz else cutV (g o).v L H u.sz := ⟨_, rfl⟩
  have hsl : SlV V (H - L) := by
    rw [hV, hv]; split
    · refine ⟨_, _, rfl, fun he => ?_⟩
      split at he
      · omega
      · have := hnil (by simpa using he); omega
    · refine ⟨_, _, rfl, fun he => ?_⟩
      split at he
      · have := hnil he; omega
      · have := hnil (by simpa using he); omega
  have hone : V.oneCell' = true := hsl.one
  obtain ⟨g', hg'⟩ : ∃ g' : Env, g' = fun i => if i < S.obs.length then g i else ⟨V, hone, 0, ((g o).cs.take (H * u.sz)).drop (L * u.sz), F4⟩ := ⟨_, rfl⟩
  have hext : Ext g g' S.obs.length := fun i hi => by simp [hg', hi]
  have hnew : g' S.obs.length = ⟨V, hone, 0, ((g o).cs.take (H * u.sz)).drop (L * u.sz), F4⟩ := by simp [hg']
  have hh' : hiOf (Hi.map a.eval) xs.length = some H := by rw [opO_spec F hh, hH]; exact numO_hi nh (by omega) (by omega)
  have hl' : loOf (Lo.map a.eval) H = some L := by rw [opO_spec F hl, hL]; exact numO_lo nl (by omega) (by omega)
  refine ⟨g', hext, ?_, trivial, ?_, fun w0 D A w C => ⟨?_, ?_⟩⟩
  · refine fit_add F hext (fun j ob hj => ?_) (fun j T ls hj => ?_)
    · match j with
      | 0 =>
        simp only [List.getElem?_cons_zero, Option.some.injEq] at hj
        subst hj
        refine ⟨by rw [Nat.add_zero, hnew]; exact k4, by rw [Nat.add_zero, hnew, hyl]; exact hsl, fun hf => ?_⟩
        rw [Nat.add_zero, hnew, hyl]
        simp only [hV, if_pos hf, hv, cutV3]
        refine ⟨_, rfl, fun he => ?_⟩
        split at he
        · omega
        · have := hnil (by simpa using he); omega
      | j + 1 => simp at hj
    · match j with
      | 0 => simp at hj
      | j + 1 => simp at hj
  · intro o' ho'
    simp only [refS, refV, refA, List.mem_singleton] at ho'
    simp [St.add, ho']
  · intro j ob hj
    match j with
    | 0 =>
      simp only [List.getElem?_cons_zero, Option.some.injEq] at hj
      subst hj
      have hrd := row_rds C ho
      have hrd' : Rds V (H - L) u.sz (((g o).cs.take (H * u.sz)).drop (L * u.sz)) w := by
        rw [hV]; split
        · exact cut3_rds hrd hLH hHn
        · exact cut_rds hrd hLH hHn
      have hadr : ∀ b, addrOf V = some b → addrOf (g o).v = some b := by
        rw [hV]; split
        · exact cut3_addr _ _ _ _
        · exact cut_addr _ _ _ _
      have hnn : ((g o).cs.take (H * u.sz)).drop (L * u.sz) ≠ [] → (g o).cs ≠ [] := fun h0 h1 => h0 (by simp [h1])
      have hR := C.okR o
      simp only [ho] at hR
      have main : ∀ q r : Bool, ((factsE q (⟨V, H - L, u.sz, ((g o).cs.take (H * u.sz)).drop (L * u.sz)⟩ :: F4)).ok w) ∧
          ∀ b, (factsE q (⟨V, H - L, u.sz, ((g o).cs.take (H * u.sz)).drop (L * u.sz)⟩ :: F4)).dom b → (factsE r (⟨(g o).v, xs.length, u.sz, (g o).cs⟩ :: (g o).fs)).dom b := by
        intro q r
        have hfs : ∀ f ∈ (g o).fs, Rds f.v f.n f.sz f.cs w := by
          cases md with
          | own => exact absurd rfl hmd
          | rd => exact fun f hf => hR f (List.mem_cons_of_mem _ hf)
          | lent => exact fun f hf => hR f (List.mem_cons_of_mem _ hf)
        refine ⟨fun f hf => ?_, fun b ⟨f, hf, h1, h2⟩ => ?_⟩
        · rcases List.mem_cons.1 hf with rfl | hf
          · exact hrd'
          · exact hfs f (hsub f hf)
        · rcases List.mem_cons.1 hf with rfl | hf
          · exact ⟨_, List.mem_cons_self .., hnn h1, hadr b h2⟩
          · exact ⟨f, List.mem_cons_of_mem _ (hsub f hf), h1, h2⟩
      cases md with
      | own => exact absurd rfl hmd
      | rd => exact ⟨fun b h => h.elim, trivial, .inr ⟨o, ⟨fun _ => by simp only [entR, Nat.add_zero, hnew, hyl]; exact (main false false).1, fun b hb => by simp only [entR, Nat.add_zero, hnew, hyl] at hb; rw [ho]; exact (main false false).2 b hb⟩, fun _ => by rw [ho]; rfl⟩⟩
      | lent => exact ⟨fun b h => h.elim, trivial, .inr ⟨o, ⟨fun _ => by simp only [entR, Nat.add_zero, hnew, hyl]; exact (main true true).1, fun b hb => by simp only [entR, Nat.add_zero, hnew, hyl] at hb; rw [ho]; exact (main true true).2 b hb⟩, fun h => by cases h⟩⟩
    | j + 1 => simp at hj
  · have hrd := row_rds C ho
    have hres : encS g' (.v (.a (.sl S.obs.length))) = V := by simp only [encS, encV, val1, hnew]
    rw [hres, hV]
    split
    · rename_i hms
      obtain ⟨hhs, hk⟩ := hmh hms
      refine r_cut3 (rds_shp hrd) hx he hh' hl' ?_
      rw [opO_spec F hh, opO_spec F hm]
      cases h with
      | none => simp at hhs
      | some h => cases m with
        | none => simp at hms
        | some m =>
          unfold numO at nh nm
          split at nh <;> simp only [Option.some.injEq, reduceCtorEq] at nh
          split at nm <;> simp only [Option.some.injEq, reduceCtorEq] at nm
          subst nh nm
          simp only [kindO, Option.some.injEq] at hk
          simp only [Option.getD_some] at p3
          subst hk
          have hHi : Hi.isSome = true := by
            cases Hi with
            | none => simp [opO] at hh
            | some _ => rfl
          rw [hHi]
          simp [encS, encV, val1, p3]
    · rename_i hms
      have : m = none := by cases m <;> simp_all
      subst this
      have hMx : Mx = none := by
        cases Mx with
        | none => rfl
        | some _ =>
          simp only [opO, Option.map_eq_some_iff] at hm
          obtain ⟨v, _, rfl⟩ := hm
          unfold numO at nm
          split at nm <;> simp at nm
          rename_i he
          cases he
      subst hMx
      exact r_cut (rds_shp hrd) hx he hh' hl'
end
end Go.Proofs.YthdgllldpfeelaaGreatDoor
/- What fills places. No condition. -/
set_option linter.unusedVariables false
set_option linter.unusedSimpArgs false
namespace Go.Proofs.YthdgllldpfeelaaGreatDoor
open Go
/-! ### what fills places -/
theorem set_fold : ∀ (us : List Value) (cs : List Value) (off k : Nat), k ≤ off → off + us.length ≤ cs.length →
    ((us.zipIdx k).foldl (fun (cs : Array Value) (p : Value × Nat) => cs.setIfInBounds (off - k + p.2) p.1) cs.toArray).toList = cs.take off ++ us ++ cs.drop (off + us.length)
  | [], cs, off, k, _, _ => by simp
  | u :: us, cs, off, k, hk, h => by
    simp only [List.length_cons] at h
    rw [List.zipIdx_cons, List.foldl_cons]
    have e : off - k + k = off := by omega
    have e2 : (cs.toArray.setIfInBounds (off - k + k) u) = (cs.set off u).toArray := by rw [e]; simp
    simp only [e2]
    have ih := set_fold us (cs.set off u) (off + 1) (k + 1) (by omega) (by simp; omega)
    rw [show off + 1 - (k + 1) = off - k by omega] at ih
    rw [ih]
    have hlt : off < cs.length := by omega
    rw [List.take_set, List.drop_set_of_lt (by omega)]
    have : (cs.take (off + 1)).set off u = cs.take off ++ [u] := by
      rw [List.take_add_one, List.getElem?_eq_getElem hlt]
      simp only [Option.toList_some]
      rw [List.set_append_right _ _ (by simp; omega)]
      simp [Nat.min_eq_left (Nat.le_of_lt hlt)]
    rw [this]
    simp [Nat.add_assoc, Nat.add_comm 1]
theorem fill_cons {place : Nat → Option (Nat × Nat)} {cs : List Value} {j off : Nat} {v : Value} {us : List Value} {rest : List (Nat × Value)} (hp : place j = some (off, us.length)) (hv : v.cells.toList = us) (h : off + us.length ≤ cs.length) :
    Instr.fill place cs.toArray ((j, v) :: rest) = Instr.fill place (cs.take off ++ us ++ cs.drop (off + us.length)).toArray rest := by
  have hsz : v.cells.size = us.length := by rw [← hv]; simp
  have h1 : ¬ (v.cells.size ≠ us.length || decide (off + v.cells.size > cs.toArray.size)) = true := by
    simp [hsz]; omega
  simp only [Instr.fill, hp]
  rw [if_neg (by simpa using h1)]
  congr 1
  have := set_fold us cs off 0 (Nat.zero_le _) h
  simp only [Nat.sub_zero] at this
  apply Array.toList_inj.1
  rw [List.toList_toArray, ← this]
  have hz : v.cells.zipIdx = (us.zipIdx 0).toArray := by
    apply Array.toList_inj.1
    simp [← hv]
  rw [hz]
  simp
end Go.Proofs.YthdgllldpfeelaaGreatDoor
/- Zero values, leaves, parts. No condition. -/
set_option linter.unusedVariables false
set_option linter.unusedSimpArgs false
namespace Go.Proofs.YthdgllldpfeelaaGreatDoor
open Go
theorem sameV_spec {x y : Value} (h : sameV x y = true) : x = y := by
  unfold sameV at h
  split at h <;> first
    | (cases h; done)
    | rfl
    | (simp only [decide_eq_true_eq] at h; obtain ⟨rfl, rfl⟩ := h; rfl)
    | (simp only [decide_eq_true_eq] at h; subst h; rfl)
    | (simp only [decide_eq_true_eq] at h
       rename_i a b
       obtain ⟨⟨a⟩⟩ := a
       obtain ⟨⟨b⟩⟩ := b
       simp only at h
       subst h
       rfl)
theorem sameVs_spec : ∀ {xs ys : List Value}, sameVs xs ys = true → xs = ys
  | [], [], _ => rfl
  | [], _ :: _, h => by simp [sameVs] at h
  | _ :: _, [], h => by simp [sameVs] at h
  | x :: xs, y :: ys, h => by
    simp only [sameVs, Bool.and_eq_true] at h
    rw [sameV_spec h.1, sameVs_spec h.2]
theorem zeroK_spec {P : Program} {t : TypeId} {ls : List At} (h : zeroK P t = some ls) (g : Env) : zeroC P t = some (encL g ls) ∧ ls.all stor = true ∧ ls.flatMap refA = [] := by
  unfold zeroK at h
  split at h
  · rename_i ls' cs h1 h2
    split at h
    · rename_i hc
      cases h
      simp only [Bool.and_eq_true] at hc
      have hr : ls.flatMap refA = [] := by simpa using hc.2
      refine ⟨?_, hc.1.2, hr⟩
      rw [h2, sameVs_spec hc.1.1, encL_ext (g := env0) (g' := g) ls (fun o ho => by rw [hr] at ho; cases ho)]
    · cases h
  · cases h
section
variable {P : Program} {g g' : Env} {γ : Ghost} {S : St} {n : Nat} {a : Act} {w0 w w' : World} {D A : Nat → Prop}
theorem leafs_spec {v : SV} {ls : List At} (h : leafs v = some ls) : (∀ g, (encS g v).cells.toList = encL g ls) ∧ ls.all stor = true ∧ ls.flatMap refA = refS v := by
  unfold leafs at h
  split at h
  · rename_i x
    split at h
    · rename_i hs
      cases h
      exact ⟨fun g => by show (val1 g x).cells.toList = _; rw [val1_cells g x hs]; simp [encL], by simp [hs], by simp [refS, refV]⟩
    · cases h
  · rename_i ls'
    split at h
    · rename_i hs
      cases h
      exact ⟨fun g => by simp [encS, encV, Value.cells], hs, rfl⟩
    · cases h
  · cases h
theorem leafsT_spec {t : TypeId} {v : SV} {ls : List At} (h : leafs (typedV P t v) = some ls) : (∀ g, (encS g v).cells.toList = encL g ls) ∧ ls.all stor = true ∧ ls.flatMap refA = refS v := by
  obtain ⟨h1, h2, h3⟩ := leafs_spec h
  exact ⟨fun g => by rw [← (typedV_enc (P := P) (g := g) (S := ⟨[], [], [], .nil⟩) t v).1]; exact h1 g, h2, by rw [h3]; exact (typedV_enc (P := P) (g := env0) (S := ⟨[], [], [], .nil⟩) t v).2.1⟩
theorem splL_spec {ls us ls' : List At} {off : Nat} (h : splL ls off us = some ls') : ∃ pre old post, ls = pre ++ (old ++ post) ∧ sizeL pre = off ∧ sizeL old = sizeL us ∧ ls' = pre ++ us ++ post := by
  simp only [splL, Option.bind_eq_some_iff, Option.map_eq_some_iff] at h
  obtain ⟨pre, h1, r, h2, old, h3, post, h4, rfl⟩ := h
  obtain ⟨q1, e1, s1⟩ := takeL_spec _ _ _ h1
  obtain ⟨p2, e2, s2⟩ := skipL_spec _ _ _ h2
  obtain ⟨q3, e3, s3⟩ := takeL_spec _ _ _ h3
  obtain ⟨p4, e4, s4⟩ := skipL_spec _ _ _ h4
  have inj : ∀ (a b c d : List At) (k : Nat), a ++ b = c ++ d → takeL (a ++ b) k = some a → skipL (c ++ d) k = some d → a = c := by
    intro a
    induction a with
    | nil =>
      intro b c d k e ht hs
      obtain ⟨_, _, s⟩ := takeL_spec _ _ _ ht
      have hk : k = 0 := by simpa [sizeL] using s.symm
      subst hk
      cases c with
      | nil => rfl
      | cons y c =>
        exfalso
        simp only [skipL, List.cons_append, Option.some.injEq] at hs
        have := congrArg List.length hs
        simp only [List.length_cons, List.length_append] at this
        omega
    | cons x a ih =>
      intro b c d k e ht hs
      cases k with
      | zero => simp [takeL] at ht
      | succ k =>
        cases c with
        | nil =>
          exfalso
          simp only [List.nil_append] at e hs
          rw [← e] at hs
          simp only [List.cons_append, skipL] at hs
          split at hs
          · obtain ⟨p, e', _⟩ := skipL_spec _ _ _ hs
            have := congrArg List.length e'
            simp at this
            omega
          · cases hs
        | cons y c =>
          simp only [List.cons_append, List.cons.injEq] at e
          obtain ⟨rfl, e⟩ := e
          simp only [List.cons_append, takeL, skipL] at ht hs
          split at ht
          · rename_i hsz
            rw [if_pos hsz] at hs
            obtain ⟨a', ha', he⟩ := Option.map_eq_some_iff.1 ht
            simp only [List.cons.injEq, true_and] at he
            subst he
            rw [ih b c d _ e ha' hs]
          · cases ht
  have hpre : pre = p2 := inj pre q1 p2 r off (by rw [← e1, ← e2]) (by rw [← e1]; exact h1) (by rw [← e2]; exact h2)
  have hold : old = p4 := inj old q3 p4 post (sizeL us) (by rw [← e3, ← e4]) (by rw [← e3]; exact h3) (by rw [← e4]; exact h4)
  subst hpre hold
  exact ⟨pre, old, post, by rw [e2, e4], s1, s3, rfl⟩
theorem spl_cells (g : Env) {pre old post us : List At} {off : Nat} (h1 : sizeL pre = off) (h2 : sizeL old = sizeL us) : splice (encL g (pre ++ (old ++ post))) off (encL g us) = encL g (pre ++ us ++ post) ∧ off + (encL g us).length ≤ (encL g (pre ++ (old ++ post))).length := by
  constructor
  · simp only [splice, encL_app]
    rw [← h1, ← encL_len g pre, List.take_left]
    have : (encL g pre).length + (encL g us).length = (encL g pre ++ encL g old).length := by rw [List.length_append, encL_len g old, encL_len g us, h2]
    rw [this, ← List.append_assoc (encL g pre) (encL g old), List.drop_left]
  · simp only [encL_app, List.length_append, encL_len, h1, h2]
    omega
theorem parts_spec (F : Fit g γ S n a) : ∀ {ps : List (Nat × Operand)} {vs : List (Nat × SV)}, parts S ps = some vs → ps.map (fun p => (p.1, a.eval p.2)) = vs.map (fun p => (p.1, encS g p.2)) ∧ ∀ p ∈ vs, okS S p.2 ∧ ∀ o ∈ refS p.2, o < S.obs.length
  | [], vs, h => by simp [parts] at h; subst h; exact ⟨rfl, by simp⟩
  | (j, x) :: ps, vs, h => by
    simp only [parts] at h
    split at h
    · rename_i v vs' hv hvs
      cases h
      obtain ⟨e1, e2, e3⟩ := opA_spec F hv
      obtain ⟨h1, h2⟩ := parts_spec F hvs
      refine ⟨by simp [e1, h1], fun p hp => ?_⟩
      rcases List.mem_cons.1 hp with rfl | hp
      · exact ⟨e2, e3⟩
      · exact h2 p hp
    · cases h
end
end Go.Proofs.YthdgllldpfeelaaGreatDoor
