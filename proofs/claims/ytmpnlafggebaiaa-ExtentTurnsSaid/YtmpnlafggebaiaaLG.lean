/- Small words of the printed functions and walks. No condition. -/
import Derived.Test.YtmpnlafggebaiaaLF
set_option linter.unusedVariables false
set_option linter.unusedSimpArgs false
namespace Go.Proofs.Ytmpnlafggebaiaa
open Go
def FK (k : IntKind) : Flat Int := ⟨1, fun x => [.int k x], 0, fun _ => rfl, fun x v h => by simp at h; subst h; rfl⟩
def Flat.at_ {α : Type} (F : Flat α) (l : List α) (i : Int) : α := l.getD i.toNat F.dflt
def W64 (x : Int) : Int := IntKind.wrap .i64 x
def WK (k : IntKind) (x : Int) : Int := k.wrap x
def andK (k : IntKind) (a b : Int) : Int := k.wrap (BitVec.ofInt k.bits a &&& BitVec.ofInt k.bits b).toNat
def orK (k : IntKind) (a b : Int) : Int := k.wrap (BitVec.ofInt k.bits a ||| BitVec.ofInt k.bits b).toNat
def xorK (k : IntKind) (a b : Int) : Int := k.wrap (BitVec.ofInt k.bits a ^^^ BitVec.ofInt k.bits b).toNat
def shlK (k : IntKind) (a b : Int) : Int := k.wrap (a * 2 ^ (min b.toNat k.bits))
def shrK (k : IntKind) (a b : Int) : Int := a.fdiv (2 ^ (min b.toNat k.bits))
def mnI (a b : Int) : Int := if b < a then b else a
def mxI (a b : Int) : Int := if b > a then b else a
theorem no_none {α : Type} {r : α} {G : Prop} (h : (none : Option α) = some r) : G := by cases h
theorem opt_t {α : Type} {b : Bool} {X Y : Option α} {r : α} (hb : b = true) (h : (if b = true then X else Y) = some r) : X = some r := by rwa [if_pos hb] at h
theorem opt_f {α : Type} {b : Bool} {X Y : Option α} {r : α} (hb : b = false) (h : (if b = true then X else Y) = some r) : Y = some r := by rwa [if_neg (by rw [hb]; exact Bool.false_ne_true)] at h
theorem ite_some {α : Type} {c : Prop} [Decidable c] {X : Option α} {r : α} (h : (if c then X else none) = some r) : c ∧ X = some r := by
  by_cases hc : c
  · rw [if_pos hc] at h; exact ⟨hc, h⟩
  · rw [if_neg hc] at h; cases h
theorem bind_some {α β : Type} {o : Option α} {f : α → Option β} {r : β} (h : o.bind f = some r) : ∃ t, o = some t ∧ f t = some r := Option.bind_eq_some_iff.1 h
def condV (m : List (Nat × Value)) : Operand → Option Bool
  | .tmp t => match look m t with
    | some (.bool b) => some b
    | _ => none
  | _ => none
section
variable {P : Program} {Q : Exit → Act → World → Prop} {a : Act} {w : World} {c : Code} {n : Nat} {m : List (Nat × Value)}
theorem c_if {b : Bool} (hS : Sl n m a) (h : c.kind.1 = 4) (hc : condV m c.test = some b) (h1 : b = true → c.fst.wp P Q a w) (h2 : b = false → c.snd.wp P Q a w) : c.wp P Q a w := by
  have hk : c.kind = (4, 0) := by
    cases c <;> simp [Code.kind] at h ⊢
    case region i o d => cases d <;> simp at h
  refine c_cond hk (t := b) ?_ h1 h2
  unfold condV at hc
  split at hc
  · rename_i t ht
    split at hc
    · rename_i b' hb'
      cases hc
      rw [ht]
      simp [Act.eval, hS.slots t _ hb']
    · cases hc
  · cases hc
variable {ρ : Operand → Value} {w0 : World} {D A : Nat → Prop} {L R : List Ent}
theorem start1 {E : Ent} (h : E.ok w) : ∀ (i : Nat) (F : Ent), [E][i]? = some F → F.ok w := fun i F hi => by
  match i with
  | 0 => simp at hi; subst hi; exact h
  | i + 1 => simp at hi
theorem r_div {op : BinOp} {t t' : TypeId} {x y : Operand} {k : IntKind} {p q : Int} {v : Value} (hx : ρ x = .int k p) (hy : ρ y = .int k q) (hq : q ≠ 0)
    (hv : (match op with | .quo => some (Value.int k (k.wrap (p.tdiv q))) | .rem => some (Value.int k (p.tmod q)) | _ => none) = some v) : Runs P ρ (.binOp op t x y t') w v w := by
  intro o ho
  cases op <;> simp only at hv <;> (try (cases hv; done)) <;> cases hv <;> simp [execOp, ho, hx, hy, run_eqGuard_int, binOp, Op.intDiv, hq]
theorem r_cat {t t' : TypeId} {x y : Operand} {p q : ByteArray} (hx : ρ x = .string p) (hy : ρ y = .string q) (hq : p.size + q.size ≤ 9223372036854775807) :
    Runs P ρ (.binOp .add t x y t') w (.string (p ++ q)) w := by
  intro o ho
  have h : ¬ ((p.size + q.size : Nat) : Int) > IntKind.i64.max := by
    have : IntKind.i64.max = 9223372036854775807 := by decide
    omega
  have h' : ¬ (p.size : Int) + (q.size : Int) > IntKind.i64.max := by omega
  simp [execOp, ho, hx, hy, run_eqGuard_str, binOp, Op.stringOp]
  omega
theorem ctx_nilrd (sz : Nat) (C : Ctx w0 D A L R w) : Ctx w0 D A L (R ++ [rdE (.slice none 0 0) 0 sz []]) w :=
  ctx_rdnew C (Fr.refl _ _) ⟨by simp, none, 0, rfl, Nat.le_refl _, by omega, fun _ => rfl, by simp⟩ (fun b h => (h.1 rfl).elim)
/-- What a function hands back: a list of its own. -/
def Own (w : World) {α : Type} (F : Flat α) (e : Nat) (v : Value) (l : List α) (w' : World) : Prop :=
  w'.ownsRow 0 e F.sz v l.length (l.flatMap F.cells) ∧ ∀ b, v.ownBlock = some b → w.heap.size ≤ b
/-- A list that lies in what was handed in, or is new. -/
def Lies (w : World) (A : Nat → Prop) {α : Type} (F : Flat α) (v : Value) (l : List α) (w' : World) : Prop :=
  Rds v l.length F.sz (l.flatMap F.cells) w' ∧ ∀ b, (l.flatMap F.cells ≠ [] ∧ addrOf v = some b) → A b ∨ w.heap.size ≤ b
theorem own_lies {α : Type} {F : Flat α} {e : Nat} {v : Value} {l : List α} {w' : World} {A : Nat → Prop} (h : Own w F e v l w') : Lies w A F v l w' := by
  refine ⟨rds_of_row h.1, fun b hb => .inr ?_⟩
  rcases h.1.2 with ⟨rfl, _⟩ | ⟨g, cap, cur, rfl, _⟩
  · simp [addrOf] at hb
  · exact h.2 b (by simpa [addrOf, Value.ownBlock] using hb.2)
theorem ret_own {α : Type} {F : Flat α} {e li n : Nat} {v : Value} {l : List α} (C : Ctx w0 nob A L R w) (hL : L[li]? = some (rowE v e F.sz n (l.flatMap F.cells))) (hn : n = l.length) : Own w0 F e v l w := by
  subst hn
  exact ⟨C.okL li _ hL, fun b hb => (C.mine li _ hL b hb).elim (fun h => h.elim) id⟩
theorem ret_nil {α : Type} {F : Flat α} {e : Nat} (w0 w : World) : Own w0 F e (.slice none 0 0) ([] : List α) w :=
  ⟨World.ownsRow_nil w 0 e F.sz, fun b hb => by simp [Value.ownBlock] at hb⟩
theorem ret_lies {α : Type} {F : Flat α} {ri n : Nat} {v : Value} {l : List α} (C : Ctx w0 nob A L R w) (hR : R[ri]? = some (rdE v n F.sz (l.flatMap F.cells))) (hn : n = l.length) : Lies w0 A F v l w := by
  subst hn
  exact ⟨C.okR ri _ hR, fun b hb => by
    rcases C.src ri _ hR b hb with h | h | h
    · exact .inl h
    · exact h.elim
    · exact .inr h⟩
theorem got_own {α : Type} {F : Flat α} {e : Nat} {v : Value} {l : List α} {w' : World} (C : Ctx w0 D A L R w) (f : Fr nob w w') (h : Own w F e v l w') :
    Ctx w0 D A (L ++ [rowE v e F.sz l.length (l.flatMap F.cells)]) R w' := ctx_new C f h.1 h.2
theorem got_lies {α : Type} {F : Flat α} {v : Value} {l : List α} {w' : World} {B : Nat → Prop} (C : Ctx w0 D A L R w) (f : Fr nob w w') (h : Lies w B F v l w') (hB : ∀ b, B b → allDom R b) :
    Ctx w0 D A L (R ++ [rdE v l.length F.sz (l.flatMap F.cells)]) w' :=
  ctx_rdnew C f h.1 (fun b hb => (h.2 b hb).imp (hB b) id)
theorem ctx_rdmore {F : Ent} {R1 : List Ent} {w' : World} (C : Ctx w0 D A L R w) (C1 : Ctx w0 D A L R1 w') (ok : F.ok w') (hs : ∀ b, F.dom b → (∃ j : Nat, ∃ G : Ent, R[j]? = some G ∧ G.dom b) ∨ w.heap.size ≤ b) : Ctx w0 D A L (R1 ++ [F]) w' :=
  ctx_rd C1 ok (fun i E hi b hb hF => by
    rcases hs b hF with ⟨j, G, hj, hG⟩ | h1
    · exact C.sepR i j E G hi hj b hb hG
    · have := E.lt w (C.okL i E hi) b hb; omega) (fun b hb => by
    rcases hs b hb with ⟨j, G, hj, hG⟩ | h1
    · exact C.src j G hj b hG
    · exact .inr (.inr (Nat.le_trans C.fr.size h1)))
theorem got_more {α : Type} {F : Flat α} {v : Value} {l : List α} {R1 : List Ent} {w' : World} {B : Nat → Prop} (C : Ctx w0 D A L R w) (C1 : Ctx w0 D A L R1 w') (f : Fr nob w w') (h : Lies w B F v l w') (hB : ∀ b, B b → allDom R b) :
    Ctx w0 D A L (R1 ++ [rdE v l.length F.sz (l.flatMap F.cells)]) w' :=
  ctx_rdmore C C1 h.1 (fun b hb => (h.2 b hb).imp (hB b) id)
theorem got_full {α : Type} {F : Flat α} {l l' : List α} {ri k n : Nat} {v v' : Value} {w' : World} {news : List Value} (C : Ctx w0 D A L R w) (hR : R[ri]? = some (rdE v k F.sz (l.flatMap F.cells))) (f : Fr nob w w')
    (hr : Rds v' n F.sz (l.flatMap F.cells ++ news) w') (hd : ∀ b, addrOf v' = some b → (news = [] ∧ addrOf v = some b) ∨ w.heap.size ≤ b) (hn : n = l.length + l'.length) (hx : news = l'.flatMap F.cells) :
    Ctx w0 D A L (R ++ [rdE v' (l ++ l').length F.sz ((l ++ l').flatMap F.cells)]) w' := by
  subst hn hx
  rw [← List.flatMap_append, ← List.length_append] at hr
  refine ctx_rdnew C f hr (fun b hb => ?_)
  rcases hd b hb.2 with ⟨h1, h2⟩ | h1
  · refine .inl ⟨ri, _, hR, ?_, h2⟩
    intro e
    apply hb.1
    rw [List.flatMap_append, e, h1]
    rfl
  · exact .inr h1
theorem dom_sub {R' : List Ent} (h : ∀ (i : Nat) (E : Ent), R'[i]? = some E → ∃ j : Nat, R[j]? = some E) : ∀ b, allDom R' b → allDom R b := by
  rintro b ⟨i, E, hi, hb⟩
  obtain ⟨j, hj⟩ := h i E hi
  exact ⟨j, E, hj, hb⟩
theorem dom_nil : ∀ b, allDom [] b → allDom R b := dom_sub (by simp)
theorem dom_one {E : Ent} {j : Nat} (h : R[j]? = some E) : ∀ b, allDom [E] b → allDom R b := dom_sub (fun i F hi => by
  match i with
  | 0 => simp at hi; subst hi; exact ⟨j, h⟩
  | i + 1 => simp at hi)
theorem dom_two {E F : Ent} {j k : Nat} (h : R[j]? = some E) (h' : R[k]? = some F) : ∀ b, allDom [E, F] b → allDom R b := dom_sub (fun i G hi => by
  match i with
  | 0 => simp at hi; subst hi; exact ⟨j, h⟩
  | 1 => simp at hi; subst hi; exact ⟨k, h'⟩
  | i + 2 => simp at hi)
theorem start2 {E F : Ent} (h : E.ok w) (h' : F.ok w) : ∀ (i : Nat) (G : Ent), [E, F][i]? = some G → G.ok w := fun i G hi => by
  match i with
  | 0 => simp at hi; subst hi; exact h
  | 1 => simp at hi; subst hi; exact h'
  | i + 2 => simp at hi
theorem start3 {E F H : Ent} (h : E.ok w) (h' : F.ok w) (h'' : H.ok w) : ∀ (i : Nat) (G : Ent), [E, F, H][i]? = some G → G.ok w := fun i G hi => by
  match i with
  | 0 => simp at hi; subst hi; exact h
  | 1 => simp at hi; subst hi; exact h'
  | 2 => simp at hi; subst hi; exact h''
  | i + 3 => simp at hi
theorem wl_val {ops : Array Oper} {i : Nat} {d : Option Tmp} {op : Op} {g : Option (Nat × Bool)} {v : Value} (hS : Sl n m a) (hs : sig ops i = some (d, op, g))
    (hw : (wantM ops m g == some true && wid n d && opKnown m op) = true) (hr : Runs P (ev m) op w v w)
    (k : ∀ a', Sl n (putM m d v) a' → wl P ops Q (i + 1) a' w) : wl P ops Q i a w :=
  wl_eff hS hs hw (eff_runs (K := fun v' w' => v' = v ∧ w' = w) hr ⟨rfl, rfl⟩) (by rintro _ _ ⟨rfl, rfl⟩; exact k)
theorem r_ldRb {li b off : Nat} {T t : TypeId} {cs : List Value} {x : Operand} {u : Value} (C : Ctx w0 D A L R w) (hL : R[li]? = some (boxE b T cs)) (hx : ρ x = .pointer (some ⟨b, off, none⟩))
    (hc : cs[off]? = some u) (ht : scal P t = true) : Runs P ρ (.load t x) w u w :=
  r_cell hx ((cell_of_row w b off cs.toArray T (0, 0) (C.okR li _ hL)).trans (by simpa using hc)) ht
theorem r_ldRbs {li b off : Nat} {T t : TypeId} {cs : List Value} {x : Operand} {seg : List Value} (C : Ctx w0 D A L R w) (hL : R[li]? = some (boxE b T cs)) (hx : ρ x = .pointer (some ⟨b, off, none⟩))
    (hc : (cs.drop off).take seg.length = seg) (ht : rowT P t seg.length = true) : Runs P ρ (.load t x) w (.agg seg.toArray) w :=
  r_ldbs (w0 := w) (D := fun _ => True) (A := nob) (L := [boxE b T cs]) (R := []) (li := 0) ⟨Fr.refl _ _, start1 (C.okR li _ hL), by simp, fun _ _ _ _ _ => .inl trivial,
    fun i j E F hij hi hj => (by
      match i, j with
      | 0, 0 => exact absurd rfl hij
      | i + 1, _ => simp at hi
      | 0, j + 1 => simp at hj), by simp, by simp⟩ rfl hx hc ht
theorem r_len {v : Value} {n : Nat} {x : Operand} {t : TypeId} (hr : Shp v n) (hx : ρ x = v) (ht : (isTy P t == 4) = true) :
    Runs P ρ (.call { callee := .builtin .len, args := #[x], argTypes := #[t] }) w (.int .i64 (n : Int)) w := by
  obtain ⟨ao, c, rfl, _⟩ := hr
  exact runs_pure (by have h4 : isTy P t = 4 := by simpa using ht
                      simp [pureV, callV, h4, hx]) w
theorem rds_nil (sz : Nat) (w : World) : Rds (.slice none 0 0) 0 sz [] w := ⟨by simp, none, 0, rfl, Nat.le_refl _, by omega, fun _ => rfl, by simp⟩
theorem ctx_relist {α : Type} {F : Flat α} {l : List α} {li e n : Nat} {v : Value} {xs : List Value} (C : Ctx w0 D A L R w) (hL : L[li]? = some (rowE v e F.sz n xs)) (hn : n = l.length) (hx : xs = l.flatMap F.cells) :
    Ctx w0 D A (L.set li (rowE v e F.sz l.length (l.flatMap F.cells))) R w := by
  subst hn hx
  exact ctx_set C hL (Fr.refl _ _) (C.okL li _ hL) (fun b h => .inl h)
theorem flat_take {α : Type} (F : Flat α) (l : List α) (h : Nat) : (l.flatMap F.cells).take (h * F.sz) = (l.take h).flatMap F.cells := by
  induction l generalizing h with
  | nil => simp
  | cons x xs ih =>
    cases h with
    | zero => simp
    | succ h =>
      have hl := F.len x
      rw [List.flatMap_cons, List.take_succ_cons, List.flatMap_cons, ← ih h, List.take_append, List.take_of_length_le (by rw [hl, Nat.add_mul]; omega)]
      congr 2
      rw [hl, Nat.add_mul]
      omega
theorem flat_drop {α : Type} (F : Flat α) (l : List α) (h : Nat) : (l.flatMap F.cells).drop (h * F.sz) = (l.drop h).flatMap F.cells := by
  induction l generalizing h with
  | nil => simp
  | cons x xs ih =>
    cases h with
    | zero => simp
    | succ h =>
      have hl := F.len x
      rw [List.flatMap_cons, List.drop_succ_cons, ← ih h, List.drop_append, List.drop_of_length_le (by rw [hl, Nat.add_mul]; omega), List.nil_append]
      congr 1
      rw [hl, Nat.add_mul]
      omega
theorem got_cut {α : Type} {F : Flat α} {l l' : List α} {ri k h lo : Nat} {v v' : Value} (C : Ctx w0 D A L R w) (hR : R[ri]? = some (rdE v k F.sz (l.flatMap F.cells)))
    (hr : Rds v' (h - lo) F.sz (((l.flatMap F.cells).take (h * F.sz)).drop (lo * F.sz)) w) (hd : ∀ b, addrOf v' = some b → addrOf v = some b) (hh : h ≤ l.length) (hl : (l.take h).drop lo = l') :
    Ctx w0 D A L (R ++ [rdE v' l'.length F.sz (l'.flatMap F.cells)]) w := by
  subst hl
  rw [flat_take, flat_drop] at hr
  have e : ((l.take h).drop lo).length = h - lo := by simp; omega
  refine ctx_rdnew C (Fr.refl _ _) (by rw [← e] at hr; exact hr) (fun b hb => .inl ⟨ri, _, hR, ?_, hd b hb.2⟩)
  intro e'
  apply hb.1
  rw [← flat_drop, ← flat_take, e']
  simp
theorem hi_ok (k : IntKind) (i : Int) {n : Nat} (h0 : 0 ≤ i) (h1 : i ≤ n) : hiOf (some (.int k i)) n = some i.toNat := by simp [hiOf, h0, h1]
theorem lo_ok (k : IntKind) (i : Int) {n : Nat} (h0 : 0 ≤ i) (h1 : i ≤ n) : loOf (some (.int k i)) n = some i.toNat := by simp [loOf, h0, h1]
end
def placesV (P : Program) : List Field → Option (List (Nat × Nat))
  | [] => some []
  | f :: fs => match P.info? f.type, placesV P fs with
    | some i, some ps => some ((f.offset, i.size) :: ps)
    | _, _ => none
def builtV (P : Program) (t : TypeId) (parts : List (Nat × Value)) : Option Value :=
  match P.info? t, P.underlying t with
  | some i, some (.struct fs) => match i.zero, placesV P fs.toList with
    | some z, some ps => (Instr.fill (fun j => ps.toArray[j]?) z.cells parts).map .agg
    | _, _ => none
  | some i, some (.array _ e) => match i.zero, P.info? e with
    | some z, some q => (Instr.fill (fun j => some (j * q.size, q.size)) z.cells parts).map .agg
    | _, _ => none
  | _, _ => none
def placeF (f : Field) : Sem (Nat × Nat) := do pure (f.offset, ← sizeOf f.type)
theorem run_placeF {P : Program} {w : World} {f : Field} {i : TypeInfo} (hi : P.info? f.type = some i) : (placeF f).run P w = .ok (f.offset, i.size) w := by
  simp [placeF, sizeOf, typeInfo, hi]
theorem run_places {P : Program} {w : World} : ∀ (fs : List Field) (ps : List (Nat × Nat)), placesV P fs = some ps → (fs.mapM placeF).run P w = .ok ps w
  | [], ps, h => by simp [placesV] at h; subst h; simp
  | f :: fs, ps, h => by
    simp only [placesV] at h
    split at h
    · rename_i i qs hi hq
      cases h
      simp only [List.mapM_cons, Sem.run_bind, run_placeF hi, Result.andThen_ok, run_places (P := P) (w := w) fs qs hq, Sem.run_pure]
    · cases h
theorem r_build {P : Program} {ρ : Operand → Value} {w : World} {t : TypeId} {parts : Array (Nat × Operand)} {v : Value} (h : builtV P t (parts.map fun (i, x) => (i, ρ x)).toList = some v) : Runs P ρ (.build t parts) w v w := by
  intro o ho
  unfold builtV at h
  split at h
  · rename_i i fs hi hu
    split at h
    · rename_i z ps hz hps
      obtain ⟨cs, hf, rfl⟩ := Option.map_eq_some_iff.1 h
      have hp := run_places (P := P) (w := w) fs.toList ps hps
      have hp' : (fs.mapM placeF).run P w = .ok ps.toArray w := by
        have e : fs = fs.toList.toArray := by simp
        rw [e, List.mapM_toArray]
        simp only [Sem.run_map, hp, Result.andThen_ok]
      have hp2 : (fs.mapM fun (f : Field) => do pure (f.offset, ← sizeOf f.type)).run P w = .ok ps.toArray w := hp'
      simp only [execOp, ho, Instr.build, Sem.run_bind, zeroValue, typeInfo, run_program, hi, hz, Sem.run_pure, Result.andThen_ok, run_underlying hu, hp2, hf]
    · cases h
  · rename_i i len e hi hu
    split at h
    · rename_i z q hz hq
      obtain ⟨cs, hf, rfl⟩ := Option.map_eq_some_iff.1 h
      simp only [execOp, ho, Instr.build, Sem.run_bind, zeroValue, typeInfo, run_program, hi, hz, hq, sizeOf, Sem.run_pure, Result.andThen_ok, run_underlying hu, hf]
    · cases h
  · cases h
section
variable {P : Program} {Q : Exit → Act → World → Prop} {a : Act} {w w0 : World} {c : Code} {n : Nat} {m : List (Nat × Value)} {D A : Nat → Prop} {L R : List Ent}
theorem c_drawsC {N : Nat} (is js : List Nat) (q : Nat) (C : Ctx w0 D A L R w) (hn : nodupN is = true) (h : c.kind.1 = 3) (hm : P.follows .mixedOrders = true) (hN : c.ops.size = N) (hl : (lastB c.ops q && Region.noSelect c.ops) = true)
    (hd : ∀ w', Ctx w0 D A L R w' → dr P c.ops Q (Ctx w0 D A (pick is L) (pick js R)) q N [] a w') : c.wp P Q a w :=
  c_draws q h hm _ hN hl (fun w' hf => hd w' (ctx_still C hf))
end
end Go.Proofs.Ytmpnlafggebaiaa
