/- Slots of a frame, and the rules by which code is walked: sequences, tests, blocks, loops, returns. No condition. -/
import Derived.Test.YtmpnlafggebaiaaLA
set_option linter.unusedVariables false
set_option linter.unusedSimpArgs false
namespace Go.Proofs.Ytmpnlafggebaiaa
open Go

/-! ### slots -/
def look : List (Nat × Value) → Nat → Option Value
  | [], _ => none
  | (i, v) :: m, t => if i == t then some v else look m t
def ev (m : List (Nat × Value)) : Operand → Value
  | .tmp t => (look m t).getD undef
  | .const v => v
  | .global g => .pointer (some ⟨g, 0, none⟩)
  | .func f => .func (.func f) #[] #[]
def known (m : List (Nat × Value)) : Operand → Bool
  | .tmp t => (look m t).isSome
  | _ => true
def del : List (Nat × Value) → Nat → List (Nat × Value)
  | [], _ => []
  | (i, v) :: m, t => if i == t then del m t else (i, v) :: del m t
def putM (m : List (Nat × Value)) : Option Nat → Value → List (Nat × Value)
  | none, _ => m
  | some d, v => (d, v) :: del m d
def keep (m : List (Nat × Value)) : List Nat → List (Nat × Value)
  | [] => []
  | k :: ks => match look m k with
    | some v => (k, v) :: keep m ks
    | none => keep m ks
structure Sl (n : Nat) (m : List (Nat × Value)) (a : Act) : Prop where
  size : a.tmps.size = n
  defers : a.defers = []
  slots : ∀ t v, look m t = some v → a.tmps[t]? = some v
theorem look_del (m : List (Nat × Value)) (d t : Nat) (h : d ≠ t) : look (del m d) t = look m t := by
  induction m with
  | nil => rfl
  | cons p m ih =>
    obtain ⟨i, v⟩ := p
    simp only [del, look]
    by_cases e : i = d
    · subst e; rw [if_pos (by simp), ih, if_neg (by simpa using h)]
    · rw [if_neg (by simpa using e)]; simp only [look, ih]
theorem look_del_self (m : List (Nat × Value)) (d : Nat) : look (del m d) d = none := by
  induction m with
  | nil => rfl
  | cons p m ih =>
    obtain ⟨i, v⟩ := p
    simp only [del]
    by_cases e : i = d
    · subst e; rw [if_pos (by simp), ih]
    · rw [if_neg (by simpa using e)]; simp only [look]; rw [if_neg (by simpa using e), ih]
def wid (n : Nat) : Option Nat → Bool
  | none => true
  | some d => decide (d < n)
theorem Sl.put {n : Nat} {m : List (Nat × Value)} {a : Act} (h : Sl n m a) (d : Option Nat) (v : Value) (hd : wid n d = true) : Sl n (putM m d v) (a.put d v) := by
  cases d with
  | none => exact h
  | some d =>
    have hd' : d < a.tmps.size := by rw [h.size]; simpa [wid] using hd
    refine ⟨by simpa [Act.put] using h.size, h.defers, fun t u hu => ?_⟩
    simp only [putM, look] at hu
    by_cases e : d = t
    · subst e
      rw [if_pos (by simp)] at hu
      cases hu
      simp [Act.put, hd']
    · rw [if_neg (by simpa using e), look_del _ _ _ e] at hu
      simp only [Act.put]
      rw [Array.getElem?_setIfInBounds_ne e]
      exact h.slots t u hu
theorem look_keep {m : List (Nat × Value)} : ∀ {ks : List Nat} {t : Nat} {v : Value}, look (keep m ks) t = some v → look m t = some v
  | [], _, _, h => by simp [keep, look] at h
  | k :: ks, t, v, h => by
    simp only [keep] at h
    cases hk : look m k with
    | none => rw [hk] at h; exact look_keep h
    | some u =>
      rw [hk] at h
      simp only [look] at h
      by_cases e : k = t
      · subst e; rw [if_pos (by simp)] at h; rw [hk]; exact h
      · rw [if_neg (by simpa using e)] at h; exact look_keep h
theorem Sl.keep {n : Nat} {m m' : List (Nat × Value)} {a : Act} (h : Sl n m a) (ks : List Nat) (e : keep m ks = m') : Sl n m' a := by
  subst e
  exact ⟨h.size, h.defers, fun t v hv => h.slots t v (look_keep hv)⟩
theorem Sl.ev {n : Nat} {m : List (Nat × Value)} {a : Act} (h : Sl n m a) {x : Operand} (hk : known m x = true) : a.eval x = ev m x := by
  cases x with
  | tmp t =>
    simp only [known] at hk
    obtain ⟨v, hv⟩ := Option.isSome_iff_exists.1 hk
    simp [Act.eval, Go.Proofs.Ytmpnlafggebaiaa.ev, hv, h.slots t v hv]
  | _ => rfl
theorem Sl.start (args : List Value) (k : Nat) (m : List (Nat × Value)) (hm : ∀ t v, look m t = some v → args[t]? = some v) :
    Sl (args.length + k) m { tmps := args.toArray ++ Array.replicate k undef, defers := [] } :=
  ⟨by simp, rfl, fun t v hv => by
    have h1 := hm t v hv
    have hlt := (List.getElem?_eq_some_iff.1 h1).1
    rw [Array.getElem?_append_left (by simpa using hlt)]
    simpa using h1⟩
def args0 : Nat → List Value → List (Nat × Value)
  | _, [] => []
  | i, v :: vs => (i, v) :: args0 (i + 1) vs
theorem look_args0 : ∀ (vs : List Value) (i t : Nat) (v : Value), look (args0 i vs) t = some v → i ≤ t ∧ vs[t - i]? = some v
  | [], _, _, _, h => by simp [args0, look] at h
  | u :: vs, i, t, v, h => by
    simp only [args0, look] at h
    by_cases e : i = t
    · subst e; rw [if_pos (by simp)] at h; exact ⟨Nat.le_refl _, by simpa using h⟩
    · rw [if_neg (by simpa using e)] at h
      obtain ⟨h1, h2⟩ := look_args0 vs (i + 1) t v h
      refine ⟨by omega, ?_⟩
      rw [show t - i = (t - (i + 1)) + 1 by omega]
      simpa using h2

/-! ### code -/
end Go.Proofs.Ytmpnlafggebaiaa
namespace Go
def Code.fst : Code → Code
  | .seq a _ => a
  | .cond _ t _ => t
  | .block _ b => b
  | .loop b => b
  | .scope b => b
  | c => c
def Code.snd : Code → Code
  | .seq _ b => b
  | .cond _ _ e => e
  | c => c
def Code.ops : Code → Array Oper
  | .region _ o _ => o
  | _ => #[]
def Code.test : Code → Operand
  | .cond c _ _ => c
  | _ => .const undef
/-- Which kind of code: 1 a sequence, 2 a region, 3 one that draws its order, 4 a test, 5 a block, 6 a loop, 7 an exit, 8 a return, 9 skip, 10 a label. -/
def Code.kind : Code → Nat × Nat
  | .seq _ _ => (1, 0)
  | .region i _ false => (2, i)
  | .region i _ true => (3, i)
  | .cond _ _ _ => (4, 0)
  | .block i _ => (5, i)
  | .loop _ => (6, 0)
  | .exit i => (7, i)
  | .ret => (8, 0)
  | .skip => (9, 0)
  | .label _ => (10, 0)
  | .scope _ => (11, 0)
  | _ => (0, 0)
end Go
namespace Go.Proofs.Ytmpnlafggebaiaa
open Go
section code
variable {P : Program} {Q : Exit → Act → World → Prop} {a : Act} {w : World} {c : Code}
theorem c_seq (h : c.kind = (1, 0)) (hx : c.fst.wp P (Exit.then (fun a w => c.snd.wp P Q a w) Q) a w) : c.wp P Q a w := by
  cases c <;> simp [Code.kind] at h
  case seq x y => exact wp_seq hx
  case region i o d => cases d <;> simp at h
theorem c_join (h : c.kind = (1, 0)) (I : Act → World → Prop) (hy : ∀ a w, I a w → c.snd.wp P Q a w) (hx : c.fst.wp P (Exit.then I Q) a w) : c.wp P Q a w :=
  c_seq h (wp_mono hx fun e a w q => by cases e <;> first | exact hy a w q | exact q)
theorem c_cond (h : c.kind = (4, 0)) {t : Bool} (hc : a.eval c.test = .bool t) (h1 : t = true → c.fst.wp P Q a w) (h2 : t = false → c.snd.wp P Q a w) : c.wp P Q a w := by
  cases c <;> simp [Code.kind] at h
  case cond x y z => exact wp_cond_split hc h1 h2
  case region i o d => cases d <;> simp at h
theorem c_block {i : Nat} (h : c.kind = (5, i)) (hx : c.fst.wp P (Exit.inBlock i Q) a w) : c.wp P Q a w := by
  cases c <;> simp [Code.kind] at h
  case block j b => subst h; exact wp_block hx
  case region i o d => cases d <;> simp at h
theorem c_loop (h : c.kind = (6, 0)) (I : Nat → Act → World → Prop) (k : Nat) (h0 : I k a w)
    (hr : ∀ k a w, I k a w → c.fst.wp P (Exit.then (fun a' w' => ∃ j, j < k ∧ I j a' w') Q) a w) : c.wp P Q a w := by
  cases c <;> simp [Code.kind] at h
  case loop b =>
    intro bf kk cs
    have key : ∀ n a w, I n a w → ∃ e a' w', Q e a' w' ∧ Arrives P (lone (bf.at a (.code b :: .inLoop b :: kk)) cs w) bf kk cs e a' w' := by
      intro n
      induction n using Nat.strongRecOn with
      | _ n ih =>
        intro a w hI
        obtain ⟨e, a₁, w₁, hq, harr⟩ := hr n a w hI bf (.inLoop b :: kk) cs
        cases e with
        | normal =>
          obtain ⟨j, hj, hI₁⟩ := hq
          obtain ⟨e₂, a₂, w₂, hq₂, harr₂⟩ := ih j hj a₁ w₁ hI₁
          exact ⟨e₂, a₂, w₂, hq₂, .of_steps (Steps.trans harr (.one step_inLoop)) harr₂⟩
        | exit id => exact ⟨_, a₁, w₁, hq, .pass (x := .inLoop b) rfl (fun _ _ => .inl (by simp)) harr⟩
        | goto l => exact ⟨_, a₁, w₁, hq, .pass (x := .inLoop b) rfl (fun _ _ => .inl (by simp)) harr⟩
        | ret => exact ⟨_, a₁, w₁, hq, .pass (x := .inLoop b) rfl (fun _ _ => .inl (by simp)) harr⟩
        | panic ch => exact ⟨_, a₁, w₁, hq, .pass (x := .inLoop b) rfl (fun _ _ => .inl (by simp)) harr⟩
        | outgrown => exact ⟨_, a₁, w₁, hq, .pass (x := .inLoop b) rfl (fun _ _ => .inl (by simp)) harr⟩
    obtain ⟨e, a', w', hq, harr⟩ := key k a w h0
    exact ⟨e, a', w', hq, .of_steps (.one step_loop) harr⟩
  case region i o d => cases d <;> simp at h
theorem c_exit {i : Nat} (h : c.kind = (7, i)) (hq : Q (.exit i) a w) : c.wp P Q a w := by
  cases c <;> simp [Code.kind] at h
  case exit j => subst h; exact wp_exit hq
  case region i o d => cases d <;> simp at h
theorem c_ret (h : c.kind = (8, 0)) (hq : Q .ret a w) : c.wp P Q a w := by
  cases c <;> simp [Code.kind] at h
  case ret => exact wp_ret hq
  case region i o d => cases d <;> simp at h
theorem c_skip (h : c.kind = (9, 0)) (hq : Q .normal a w) : c.wp P Q a w := by
  cases c <;> simp [Code.kind] at h
  case skip => exact wp_skip hq
  case region i o d => cases d <;> simp at h
theorem c_label (h : c.kind = (10, 0)) (hq : Q .normal a w) : c.wp P Q a w := by
  cases c <;> simp [Code.kind] at h
  case label => exact wp_label hq
  case region i o d => cases d <;> simp at h
theorem wp_scope' {x : Code} (h : x.wp P Q a w) (hg : ∀ l a w, ¬ Q (.goto l) a w) : (Code.scope x).wp P Q a w := by
  intro b k cs
  have hs : step P (lone (b.at a (.code (.scope x) :: k)) cs w) = .next (lone (b.at a (.code x :: .inScope x :: k)) cs w) :=
    step_lone_go (by simp [stepG, stepG.exec, Frame.at])
  have hi : ∀ a w, step P (lone (b.at a (.inScope x :: k)) cs w) = .next (lone (b.at a k) cs w) := fun a w =>
    step_lone_go (by simp [stepG, stepG.exec, Frame.at])
  obtain ⟨e, a₁, w₁, hq, harr⟩ := h b (.inScope x :: k) cs
  cases e with
  | normal => exact ⟨.normal, a₁, w₁, hq, .head hs (Steps.trans harr (.one (hi _ _)))⟩
  | exit id => exact ⟨_, a₁, w₁, hq, fun k' hk => .head hs (harr k' (by simpa [exitTo] using hk))⟩
  | goto l => exact absurd hq (hg l a₁ w₁)
  | ret => exact ⟨_, a₁, w₁, hq, .of_steps (.one hs) harr⟩
  | panic ch => exact ⟨_, a₁, w₁, hq, .of_steps (.one hs) harr⟩
  | outgrown => exact ⟨_, a₁, w₁, hq, .of_steps (b := b) (k := k) (cs := cs) (e := .outgrown) (.one hs) harr⟩
/-- A post that no goto meets. -/
def noGoto (Q : Exit → Act → World → Prop) : Exit → Act → World → Prop
  | .goto _, _, _ => False
  | e, a, w => Q e a w
theorem c_scope (h : c.kind = (11, 0)) (hx : c.fst.wp P (noGoto Q) a w) : c.wp P Q a w := by
  cases c <;> simp [Code.kind] at h
  case scope x => exact wp_mono (wp_scope' hx (fun _ _ _ h => h)) (fun e a w q => by cases e <;> first | exact q | exact q.elim)
  case region i o d => cases d <;> simp at h
theorem q_sc (h : Q .normal a w) : noGoto Q .normal a w := h
theorem q_scr (h : Q .ret a w) : noGoto Q .ret a w := h
theorem q_scx {i : Nat} (h : Q (.exit i) a w) : noGoto Q (.exit i) a w := h
theorem q_then {K : Act → World → Prop} (h : K a w) : Exit.then K Q .normal a w := h
theorem q_thenx {K : Act → World → Prop} {i : Nat} (h : Q (.exit i) a w) : Exit.then K Q (.exit i) a w := h
theorem q_thenr {K : Act → World → Prop} (h : Q .ret a w) : Exit.then K Q .ret a w := h
theorem q_in {i : Nat} (h : Q .normal a w) : Exit.inBlock i Q .normal a w := h
theorem q_inr {i : Nat} (h : Q .ret a w) : Exit.inBlock i Q .ret a w := h
theorem q_inx {i : Nat} (h : Q .normal a w) : Exit.inBlock i Q (.exit i) a w := by simpa [Exit.inBlock] using h
theorem q_iny {i j : Nat} (hne : j ≠ i) (h : Q (.exit j) a w) : Exit.inBlock i Q (.exit j) a w := by simp only [Exit.inBlock, if_neg hne]; exact h
/-- A post from which nothing panics. -/
def calmQ (Q : Exit → Act → World → Prop) : Exit → Act → World → Prop
  | .panic _, _, _ => False
  | e, a, w => Q e a w
theorem c_calm (h : c.wp P (calmQ Q) a w) : c.wp P Q a w := wp_mono h fun e a w q => by cases e <;> first | exact q | exact q.elim
/-- The end of a function. -/
def resM (m : List (Nat × Value)) : List ResultVar → Option (List Value)
  | [] => some []
  | .tmp t :: rs => match look m t, resM m rs with
    | some v, some vs => some (v :: vs)
    | _, _ => none
  | _ :: _ => none
def one1 : List Value → Value
  | [v] => v
  | vs => .tuple vs.toArray
theorem run_results {P : Program} {m : List (Nat × Value)} (g : ResultVar → Sem Value) (w : World) (hg : ∀ t v, look m t = some v → (g (.tmp t)).run P w = .ok v w) : ∀ (rs : List ResultVar) (vs : List Value), resM m rs = some vs →
    (rs.mapM g).run P w = .ok vs w
  | [], vs, h => by simp [resM] at h; subst h; simp
  | .tmp t :: rs, vs, h => by
    simp only [resM] at h
    cases ht : look m t with
    | none => simp [ht] at h
    | some v =>
      cases hr : resM m rs with
      | none => simp [ht, hr] at h
      | some us =>
        simp [ht, hr] at h
        subst h
        simp [List.mapM_cons, run_results g w hg rs us hr, hg t v ht]
  | .cell _ _ :: _, _, h => by simp [resM] at h
theorem q_ret {n : Nat} {m : List (Nat × Value)} {fn : Func} {R : Ending → World → Prop} {vs : List Value} (hS : Sl n m a) (hr : resM m fn.results.toList = some vs) (hR : R (.returned (one1 vs)) w) :
    bodyPost P fn R .ret a w := by
  refine ⟨hS.defers, one1 vs, ?_, hR⟩
  have e : fn.results = fn.results.toList.toArray := by simp
  unfold results
  rw [e]
  simp only [List.mapM_toArray, Sem.run_bind, Sem.run_map]
  rw [run_results (m := m) _ w (fun t v ht => by simp [hS.slots t v ht]) fn.results.toList vs hr]
  simp only [Result.andThen_ok, Sem.run_pure]
  match vs with
  | [] => rfl
  | [v] => rfl
  | _ :: _ :: _ => simp [one1]
theorem q_end {n : Nat} {m : List (Nat × Value)} {fn : Func} {R : Ending → World → Prop} {vs : List Value} (hS : Sl n m a) (hr : resM m fn.results.toList = some vs) (hR : R (.returned (one1 vs)) w) :
    bodyPost P fn R .normal a w := q_ret (P := P) (fn := fn) (R := R) hS hr hR
def bd (fn : Func) : Code := fn.body.getD .skip
theorem f_enter {f : FuncId} {fn : Func} {args : List Value} {k : Nat} {R : Ending → World → Prop} (hf : P.funcs[f]? = some fn) (hb : fn.body.isSome = true) (hk : fn.ntmps - args.length = k)
    (h : ∀ a, Sl (args.length + k) (args0 0 args) a → (bd fn).wp P (bodyPost P fn R) a w) : Calls P f args.toArray w R := by
  obtain ⟨c, hc⟩ := Option.isSome_iff_exists.1 hb
  refine calls_of_wp hf hc ?_
  have := h _ (Sl.start args k (args0 0 args) (fun t v hv => by have := (look_args0 args 0 t v hv).2; simpa using this))
  simp only [bd, hc, Option.getD_some] at this
  simpa [hk] using this
end code
end Go.Proofs.Ytmpnlafggebaiaa
