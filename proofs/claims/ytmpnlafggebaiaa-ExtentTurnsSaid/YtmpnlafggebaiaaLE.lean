/- Memory: what is loaded, stored, made, cut and appended. No condition. -/
import Derived.Test.YtmpnlafggebaiaaLD
set_option linter.unusedVariables false
set_option linter.unusedSimpArgs false
namespace Go.Proofs.Ytmpnlafggebaiaa
open Go

structure Flat (α : Type) where
  sz : Nat
  cells : α → List Value
  dflt : α
  len : ∀ x, (cells x).length = sz
  one : ∀ x, ∀ v ∈ cells x, v.oneCell' = true
def FI : Flat Int := ⟨1, fun x => [.int .i64 x], 0, fun _ => rfl, fun x v h => by simp at h; subst h; rfl⟩
def FU8 : Flat Int := ⟨1, fun x => [.int .u8 x], 0, fun _ => rfl, fun x v h => by simp at h; subst h; rfl⟩
def FB : Flat Bool := ⟨1, fun x => [.bool x], false, fun _ => rfl, fun x v h => by simp at h; subst h; rfl⟩
def FS : Flat ByteArray := ⟨1, fun x => [.string x], ⟨#[]⟩, fun _ => rfl, fun x v h => by simp at h; subst h; rfl⟩
def elemA : Value → Nat → Addr
  | .slice (some ad) _ _, k => ad.add k
  | _, _ => default
def scal (P : Program) (t : TypeId) : Bool := let n := isTy P t; !(n == 0 || n == 5 || n == 6)
def rowT (P : Program) (t : TypeId) (n : Nat) : Bool := (isTy P t == 5 || isTy P t == 6) && ((P.info? t).map (·.size) == some n)
def elemSz (P : Program) (t : TypeId) : Option Nat :=
  match P.underlying t with
  | some (.slice e) => (P.info? e).map (·.size)
  | _ => none
/-- The element type, its size in cells, in bytes, and its zero value. -/
def elemInfo (P : Program) (t : TypeId) : Option (TypeId × Nat × Nat × Option Value) :=
  match P.underlying t with
  | some (.slice e) => (P.info? e).map fun i => (e, i.size, i.bytes, i.zero)
  | _ => none
theorem add_add (ad : Addr) (k off : Nat) : (ad.add k).add off = ad.add (k + off) := by
  unfold Addr.add
  by_cases h1 : k = 0
  · subst h1; simp
  · by_cases h2 : off = 0
    · subst h2; simp [h1]
    · simp [h1, h2, Nat.add_assoc]
theorem add_plain (b off k : Nat) : (⟨b, off, none⟩ : Addr).add k = ⟨b, off + k, none⟩ := Addr.add_mid b off k
section
variable {P : Program} {ρ : Operand → Value} {w0 w : World} {D A : Nat → Prop} {L R : List Ent}
theorem agg_no {t : TypeId} (h : scal P t = true) (w : World) : (isAgg t).run P w = .ok false w := by
  unfold scal isTy at h
  unfold isAgg
  cases hu : P.underlying t with
  | none => simp [hu] at h
  | some d => rw [Sem.run_bind, run_underlying hu w]; cases d <;> simp_all
theorem row_yes {t : TypeId} {n : Nat} (h : rowT P t n = true) : ∃ d, P.underlying t = some d ∧ d.isRow = true ∧ (P.info? t).map (·.size) = some n := by
  unfold rowT isTy at h
  simp only [Bool.and_eq_true, Bool.or_eq_true, beq_iff_eq] at h
  cases hu : P.underlying t with
  | none => simp [hu] at h
  | some d => refine ⟨d, rfl, ?_, h.2⟩; cases d <;> simp_all
/-- A scalar out of a cell that is known. -/
theorem r_cell {t : TypeId} {x : Operand} {ad : Addr} {u : Value} (hx : ρ x = .pointer (some ad)) (hc : w.cell? ad = some u) (ht : scal P t = true) : Runs P ρ (.load t x) w u w := by
  intro o ho
  simp [execOp, ho, Instr.loadAt, hx, Instr.sureAddr, loadVar, agg_no ht, hc]
theorem r_ldb {li b off : Nat} {T t : TypeId} {cs : List Value} {x : Operand} {u : Value} (C : Ctx w0 D A L R w) (hL : L[li]? = some (boxE b T cs)) (hx : ρ x = .pointer (some ⟨b, off, none⟩))
    (hc : cs[off]? = some u) (ht : scal P t = true) : Runs P ρ (.load t x) w u w :=
  r_cell hx ((cell_of_row w b off cs.toArray T (0, 0) (C.okL li _ hL)).trans (by simpa using hc)) ht
theorem r_ldbs {li b off : Nat} {T t : TypeId} {cs : List Value} {x : Operand} {seg : List Value} (C : Ctx w0 D A L R w) (hL : L[li]? = some (boxE b T cs)) (hx : ρ x = .pointer (some ⟨b, off, none⟩))
    (hc : (cs.drop off).take seg.length = seg) (ht : rowT P t seg.length = true) : Runs P ρ (.load t x) w (.agg seg.toArray) w := by
  intro o ho
  obtain ⟨d, h1, h2, h3⟩ := row_yes ht
  have hr : w.rangeAt b off seg := fun j v hv => by
    rw [cell_of_row w b (off + j) cs.toArray T (0, 0) (C.okL li _ hL)]
    rw [← hc, List.getElem?_take] at hv
    split at hv
    · rw [List.getElem?_drop] at hv; simpa using hv
    · cases hv
  have := run_loadAt_mid (P := P) w b off t seg d hr h1 h2 h3
  simp only [execOp, ho, hx]
  simp only [Sem.run_bind, this, Result.andThen_ok, Sem.run_pure]
theorem flat_get {α : Type} (F : Flat α) (l : List α) (i off : Nat) (h1 : i < l.length) (h2 : off < F.sz) : (l.flatMap F.cells)[i * F.sz + off]? = (F.cells (l.getD i F.dflt))[off]? := by
  induction l generalizing i with
  | nil => simp at h1
  | cons x xs ih =>
    rw [List.flatMap_cons]
    cases i with
    | zero =>
      have hl := F.len x
      simp only [Nat.zero_mul, Nat.zero_add]
      rw [List.getElem?_append_left (by omega)]
      rfl
    | succ i =>
      have hl := F.len x
      have e : (i + 1) * F.sz + off = (F.cells x).length + (i * F.sz + off) := by rw [hl, Nat.add_mul]; omega
      rw [e, List.getElem?_append_right (by omega), Nat.add_sub_cancel_left, ih i (by simpa using h1)]
      simp [List.getD]
theorem flat_len {α : Type} (F : Flat α) (l : List α) : (l.flatMap F.cells).length = l.length * F.sz := by
  induction l with
  | nil => simp
  | cons x xs ih => rw [List.flatMap_cons, List.length_append, ih, F.len, List.length_cons, Nat.add_mul]; omega
theorem flat_one {α : Type} (F : Flat α) (l : List α) : ∀ v ∈ l.flatMap F.cells, v.oneCell' = true := by
  intro v hv
  obtain ⟨x, _, h⟩ := List.mem_flatMap.1 hv
  exact F.one x v h
theorem rds_cell {v : Value} {n sz : Nat} {cs : List Value} (h : Rds v n sz cs w) {j : Nat} {u : Value} (hu : cs[j]? = some u) : w.cell? (elemA v j) = some u := by
  obtain ⟨_, ao, c, rfl, _, _, _, h2⟩ := h
  obtain ⟨ad, rfl, hc⟩ := h2 j u hu
  exact hc
/-- A part of an element. -/
theorem r_ldF {α : Type} (F : Flat α) {l : List α} {v : Value} {n : Nat} {i : Int} {off : Nat} {t : TypeId} {x : Operand} {u : Value} (hr : Rds v n F.sz (l.flatMap F.cells) w)
    (hx : ρ x = .pointer (some ((elemA v (i.toNat * F.sz)).add off))) (h0 : 0 ≤ i) (h1 : i < l.length) (h2 : off < F.sz) (hu : (F.cells (l.getD i.toNat F.dflt))[off]? = some u) (ht : scal P t = true) :
    Runs P ρ (.load t x) w u w := by
  have h1' : i.toNat < l.length := by omega
  have hc := rds_cell hr ((flat_get F l i.toNat off h1' h2).trans hu)
  have e : (elemA v (i.toNat * F.sz)).add off = elemA v (i.toNat * F.sz + off) := by
    obtain ⟨_, ao, c, rfl, _, _, _, h2'⟩ := hr
    obtain ⟨ad, rfl, _⟩ := h2' _ u ((flat_get F l i.toNat off h1' h2).trans hu)
    exact add_add ad _ _
  rw [e] at hx
  exact r_cell hx hc ht
/-- A whole element that is a scalar. -/
theorem r_ldF0 {α : Type} (F : Flat α) {l : List α} {v : Value} {n : Nat} {i : Int} {t : TypeId} {x : Operand} {u : Value} (hr : Rds v n F.sz (l.flatMap F.cells) w)
    (hx : ρ x = .pointer (some (elemA v (i.toNat * F.sz)))) (h0 : 0 ≤ i) (h1 : i < l.length) (h2 : 0 < F.sz) (hu : (F.cells (l.getD i.toNat F.dflt))[0]? = some u) (ht : scal P t = true) :
    Runs P ρ (.load t x) w u w := by
  have h1' : i.toNat < l.length := by omega
  exact r_cell hx (rds_cell hr ((by simpa using (flat_get F l i.toNat 0 h1' h2).trans hu))) ht
/-- A whole element that is a struct or an array. -/
theorem r_ldFs {α : Type} (F : Flat α) {l : List α} {v : Value} {n : Nat} {i : Int} {t : TypeId} {x : Operand} {seg : List Value} (hr : Rds v n F.sz (l.flatMap F.cells) w)
    (hx : ρ x = .pointer (some (elemA v (i.toNat * F.sz)))) (h0 : 0 ≤ i) (h1 : i < l.length) (hu : F.cells (l.getD i.toNat F.dflt) = seg) (ht : rowT P t seg.length = true) :
    Runs P ρ (.load t x) w (.agg seg.toArray) w := by
  intro o ho
  subst hu
  have h1' : i.toNat < l.length := by omega
  obtain ⟨d, hu1, hu2, hu3⟩ := row_yes ht
  have hs : (P.info? t).map (·.size) = some F.sz := by rw [hu3, F.len]
  have hl : (loadCells (elemA v (i.toNat * F.sz)) (F.cells (l.getD i.toNat F.dflt)).length).run P w = .ok (F.cells (l.getD i.toNat F.dflt)).toArray w :=
    run_loadCells_list (P := P) w _ _ (fun j u hu => by
      have hj : j < F.sz := by have := (List.getElem?_eq_some_iff.1 hu).1; rw [F.len] at this; exact this
      have hcu := (flat_get F l i.toNat j h1' hj).trans hu
      have hc := rds_cell hr hcu
      have e : (elemA v (i.toNat * F.sz)).add j = elemA v (i.toNat * F.sz + j) := by
        obtain ⟨_, ao, c, rfl, _, _, _, h2'⟩ := hr
        obtain ⟨ad, rfl, _⟩ := h2' _ u hcu
        exact add_add ad _ _
      rw [e]; exact hc)
  cases hq : P.info? t with
  | none => simp [hq] at hs
  | some q =>
    have hs' : q.size = F.sz := by simpa [hq] using hs
    have hagg : (isAgg t).run P w = .ok true w := by
      unfold isAgg
      rw [Sem.run_bind, run_underlying hu1 w]
      cases d <;> simp_all
    rw [F.len] at hl
    simp only [execOp, ho, hx, Instr.loadAt, Instr.sureAddr, Sem.run_bind, Sem.run_pure, Result.andThen_ok, loadVar, hagg, if_true, sizeOf, typeInfo, run_program, hq, hs', hl]
/-- How long a slice is. -/
def Shp (v : Value) (n : Nat) : Prop := ∃ ao c, v = .slice ao n c ∧ n ≤ c ∧ c ≤ 9223372036854775807 ∧ (ao = none → c = 0)
theorem rds_shp {v : Value} {n sz : Nat} {cs : List Value} (h : Rds v n sz cs w) : Shp v n := by
  obtain ⟨_, ao, c, rfl, h1, h2, h3, _⟩ := h
  exact ⟨ao, c, rfl, h1, h2, h3⟩
/-- The address of an element. -/
theorem r_idx {v : Value} {n sz : Nat} {t : TypeId} {x y : Operand} {i : Int} {k : IntKind} (hr : Shp v n) (hx : ρ x = v) (hy : ρ y = .int k i) (h0 : 0 ≤ i) (h1 : i < n)
    (ht : elemSz P t = some sz) : Runs P ρ (.indexAddr t x y) w (.pointer (some (elemA v (i.toNat * sz)))) w := by
  intro o ho
  obtain ⟨ao, c, rfl, h3, h4, h5⟩ := hr
  unfold elemSz at ht
  split at ht
  · rename_i e hu
    obtain ⟨q, hq, hs⟩ := Option.map_eq_some_iff.1 ht
    cases ao with
    | none => have := h5 rfl; omega
    | some ad =>
      simp [execOp, ho, Instr.indexAt, hx, hy, asIntOf, run_underlying hu, h0, h1, sizeOf, typeInfo, hq, hs, elemA]
  · cases ht
theorem rds_of_row {v : Value} {e sz n : Nat} {xs : List Value} (h : w.ownsRow 0 e sz v n xs) : Rds v n sz xs w := by
  refine ⟨h.1, ?_⟩
  rcases h.2 with ⟨rfl, h0⟩ | ⟨g, cap, cur, rfl, _, hg, h1, h2, h3, h4⟩
  · subst h0
    have : xs = [] := List.eq_nil_of_length_eq_zero (by simpa using h.1)
    subst this
    exact ⟨none, 0, rfl, Nat.le_refl _, by omega, fun _ => rfl, by simp⟩
  · exact ⟨_, cap, rfl, h1, by simpa [maxLen] using h2, by simp, fun j u hu => ⟨_, rfl, h.cells (g := g) rfl j u hu⟩⟩
/-- An owned row is read from now on. -/
theorem ctx_unown {li : Nat} {v : Value} {e sz n : Nat} {xs : List Value} (C : Ctx w0 D A L R w) (hL : L[li]? = some (rowE v e sz n xs)) : Ctx w0 D A (L.set li Ent.nil) (R ++ [rdE v n sz xs]) w :=
  ctx_share C hL (rds_of_row (C.okL li _ hL)) (fun b ⟨_, hb⟩ => by
    show v.ownBlock = some b
    rcases (C.okL li _ hL : w.ownsRow 0 e sz v n xs).2 with ⟨rfl, _⟩ | ⟨g, cap, cur, rfl, _⟩
    · simp [addrOf] at hb
    · simpa [addrOf, Value.ownBlock] using hb)
theorem ctx_nilrow (e sz : Nat) (C : Ctx w0 D A L R w) : Ctx w0 D A (L ++ [rowE (.slice none 0 0) e sz 0 []]) R w :=
  ctx_new C (Fr.refl _ _) (World.ownsRow_nil w 0 e sz) (fun b h => by simp [rowE, Value.ownBlock] at h)
/-- New variables. -/
theorem ctx_box {T : TypeId} {cs : Array Value} (C : Ctx w0 D A L R w) : Ctx w0 D A (L ++ [boxE w.heap.size T cs.toList]) R (w.alloc (.cells cs T)) :=
  ctx_new C (Fr.alloc w _) (by simpa [boxE] using heap_alloc_new w (.cells cs T)) (fun b h => by simp only [boxE] at h; omega)
def zeroC (P : Program) (t : TypeId) : Option (List Value) := (P.info? t).bind fun i => i.zero.map fun z => z.cells.toList
theorem eff_alloc {t : TypeId} {cs : List Value} (C : Ctx w0 D A L R w) (hz : zeroC P t = some cs) :
    Eff P ρ (.alloc t) w (fun v w' => ∃ b, v = .pointer (some ⟨b, 0, none⟩) ∧ Ctx w0 D A (L ++ [boxE b t cs]) R w') := by
  unfold zeroC at hz
  obtain ⟨i, hi, hz⟩ := Option.bind_eq_some_iff.1 hz
  obtain ⟨z, hz', rfl⟩ := Option.map_eq_some_iff.1 hz
  refine eff_runs (v := .pointer (some ⟨w.heap.size, 0, none⟩)) (w' := w.alloc (.cells z.cells t)) ?_ ⟨_, rfl, ctx_box C⟩
  intro o ho
  simp [execOp, ho, Instr.alloc, zeroValue, typeInfo, hi, hz', newVar, newRow]
theorem eff_box {t : TypeId} {x : Operand} {cs : List Value} (C : Ctx w0 D A L R w) (hx : (ρ x).cells.toList = cs) :
    Eff P ρ (.box t x) w (fun v w' => ∃ b, v = .pointer (some ⟨b, 0, none⟩) ∧ Ctx w0 D A (L ++ [boxE b t cs]) R w') := by
  subst hx
  refine eff_runs (v := .pointer (some ⟨w.heap.size, 0, none⟩)) (w' := w.alloc (.cells (ρ x).cells t)) ?_ ⟨_, rfl, ctx_box C⟩
  intro o ho
  simp [execOp, ho, Instr.box, newVar, newRow]
/-- What is put into cells that are known. -/
def splice (cs : List Value) (off : Nat) (us : List Value) : List Value := cs.take off ++ us ++ cs.drop (off + us.length)
theorem fr_setRow (w : World) (g : Nat) (cs : Array Value) : Fr (fun x => x = g) w (w.setRow g cs) :=
  ⟨rfl, rfl, rfl, by simp, fun k _ hk => setRow_other w g k cs hk⟩
def sizeIs (P : Program) (t : TypeId) (n : Nat) : Bool := (P.info? t).map (·.size) == some n
theorem eff_stb {li b off : Nat} {T t : TypeId} {cs us cs' : List Value} {x y : Operand} (C : Ctx w0 D A L R w) (hL : L[li]? = some (boxE b T cs)) (hx : ρ x = .pointer (some ⟨b, off, none⟩))
    (hy : (ρ y).cells.toList = us) (h1 : us.all (·.oneCell') = true) (ho : off + us.length ≤ cs.length) (hs : sizeIs P t us.length = true) (hc : splice cs off us = cs') :
    Eff P ρ (.store t x y) w (fun _ w' => Ctx w0 D A (L.set li (boxE b T cs')) R w') := by
  subst hc
  have hb : w.heap[b]? = some (.cells cs.toArray T (0, 0)) := C.okL li _ hL
  have hst := run_storeCells_at P b off T us 0 cs.toArray w hb (by simpa using ho) (by simpa using h1)
  have hz : (ρ y).cells.size = us.length := by rw [← hy]; simp
  refine eff_skip (w' := w.setRow b (splice cs off us).toArray) ?_ ?_
  · intro o ho'
    unfold sizeIs at hs
    cases hq : P.info? t with
    | none => simp [hq] at hs
    | some q =>
      have hs' : q.size = us.length := by simpa [hq] using hs
      simp only [Nat.add_zero, List.toList_toArray] at hst
      simp [execOp, ho', Instr.storeAt, hx, Instr.sureAddr, storeVar, sizeOf, typeInfo, hq, hs', hz, hy, hst, splice]
  · refine ctx_set C hL (fr_setRow w b _) ?_ (fun x h => .inl h)
    show (w.setRow b _).heap[b]? = _
    exact setRow_heap w b _ _ T _ hb
end
end Go.Proofs.Ytmpnlafggebaiaa
