/- Texts of the proof, put together: part 2. No condition. -/
import Derived.Test.YthdgllldpfeelaaGreatDoorT1
import Derived.Laws.StructEq
import Derived.Laws.BytesArg
import Derived.Laws.MakeOwn
import Derived.Laws.CopyRow
import Derived.ChangeKeysEq
import Derived.RangeFuncFrom
/- Equality of structs, stores into a row of one's own, a region that draws its order and ends in a store. No condition. -/
set_option linter.unusedVariables false
set_option linter.unusedSimpArgs false
namespace Go.Proofs.YthdgllldpfeelaaGreatDoor
open Go
def eqF (P : Program) : List Field → List Value → List Value → Option Bool
  | [], _, _ => some true
  | f :: fs, xs, ys => if f.name == "_" then none else
    match isTy P f.type, xs[f.offset]?, ys[f.offset]?, eqF P fs xs ys with
    | 2, some (.int k a), some (.int k' b), some r => if k = k' then some ((a == b) && r) else none
    | 1, some (.bool a), some (.bool b), some r => some ((a == b) && r)
    | 3, some (.string a), some (.string b), some r => some ((a.toList == b.toList) && r)
    | _, _, _, _ => none
def eqStV (P : Program) (t : TypeId) (xs ys : List Value) : Option Bool :=
  if P.eqGuardType P.depth t || P.stoodInHeld t then none else
  match P.underlying t with
  | some (.struct fs) => eqF P fs.toList xs ys
  | _ => none
theorem isTy2 {P : Program} {t : TypeId} (h : isTy P t = 2) : ∃ k, P.underlying t = some (.int k) := by
  unfold isTy at h
  split at h <;> first | exact ⟨_, by assumption⟩ | (exfalso; revert h; decide)
theorem run_part {P : Program} {w : World} {t : TypeId} {cs : Array Value} {off : Nat} {v : Value} (ht : scal P t = true) (h : cs[off]? = some v) : (part t cs off).run P w = .ok v w := by
  unfold part
  rw [Sem.run_bind, agg_no ht]
  simp [h]
theorem run_eqF {P : Program} {w : World} (d : Nat) : ∀ (fs : List Field) (xs ys : List Value) (r : Bool), eqF P fs xs ys = some r → (Op.eqFields (d + 1) xs.toArray ys.toArray fs).run P w = .ok r w
  | [], xs, ys, r, h => by simp [eqF] at h; subst h; simp [Op.eqFields]
  | f :: fs, xs, ys, r, h => by
    simp only [eqF] at h
    split at h
    · cases h
    · rename_i hn
      have hn' : f.name ≠ "_" := by simpa using hn
      have step : ∀ (a b : Value) (e s : Bool), scal P f.type = true → xs[f.offset]? = some a → ys[f.offset]? = some b → (Op.equalIn (d + 1) f.type a b).run P w = .ok e w →
          (Op.eqFields (d + 1) xs.toArray ys.toArray fs).run P w = .ok s w → (Op.eqFields (d + 1) xs.toArray ys.toArray (f :: fs)).run P w = .ok (e && s) w := by
        intro a b e s ht ha hb he hs
        rw [Op.eqFields]
        simp only [if_pos hn', Sem.run_bind, run_part (w := w) ht (by simpa using ha : xs.toArray[f.offset]? = some a), run_part (w := w) ht (by simpa using hb : ys.toArray[f.offset]? = some b), he, Result.andThen_ok]
        cases e
        · simp
        · simpa using hs
      split at h
      · rename_i k a k' b s h1 h2 h3 h4
        split at h
        · rename_i hk
          subst hk
          cases h
          obtain ⟨kk, hu⟩ := isTy2 h1
          exact step _ _ _ _ (by simp [scal, h1]) h2 h3 (run_equalIn_int w d f.type k kk a b hu) (run_eqF d fs xs ys s h4)
        · cases h
      · rename_i a b s h1 h2 h3 h4
        cases h
        exact step _ _ _ _ (by simp [scal, h1]) h2 h3 (run_equalIn_bool' w d f.type a b (isTy1 h1)) (run_eqF d fs xs ys s h4)
      · rename_i a b s h1 h2 h3 h4
        cases h
        exact step _ _ _ _ (by simp [scal, h1]) h2 h3 (run_equalIn_string w d f.type a b (isTy3 h1)) (run_eqF d fs xs ys s h4)
      · cases h
section
variable {P : Program} {ρ : Operand → Value} {w0 w : World} {D A : Nat → Prop} {L R : List Ent}
theorem r_eqst {op : BinOp} {t t' : TypeId} {x y : Operand} {xs ys : List Value} {r s : Bool} (hx : ρ x = .agg xs.toArray) (hy : ρ y = .agg ys.toArray) (h : eqStV P t xs ys = some r)
    (hs : (match op with | .eql => some r | .neq => some (!r) | _ => none) = some s) : Runs P ρ (.binOp op t x y t') w (.bool s) w := by
  intro o ho
  unfold eqStV at h
  split at h
  · cases h
  · rename_i hg
    simp only [Bool.or_eq_true, not_or, Bool.not_eq_true] at hg
    split at h
    · rename_i fs hu
      have hf : P.fieldsOf t = fs := by simp [Program.fieldsOf, hu]
      have he : (Op.equalIn 10000 t (.agg xs.toArray) (.agg ys.toArray)).run P w = .ok r w := by
        rw [run_equalIn_struct (P := P) w 9999 t _ _ (by rw [hf]; exact hu) hg.2, hf]
        exact run_eqF 9998 fs.toList xs ys r h
      have hgd := run_eqGuard_agg (P := P) w op t x y xs.toArray ys.toArray hg.1
      cases op <;> simp only at hs <;> (try (cases hs; done)) <;> cases hs
      · simp only [execOp, ho, hx, hy, Sem.run_bind, hgd, Result.andThen_ok, run_eql_struct, he, Sem.run_pure]
      · simp only [execOp, ho, hx, hy, Sem.run_bind, hgd, Result.andThen_ok, run_neq_struct, he, Sem.run_pure]
    · cases h
/-- A slice against nil. -/
def isNil : Value → Bool
  | .slice none _ _ => true
  | _ => false
theorem r_nileq {op : BinOp} {t t' : TypeId} {x y : Operand} {v : Value} {n : Nat} {s : Bool} (hr : Shp v n) (hx : ρ x = v) (hy : ρ y = .slice none 0 0) (ht : (isTy P t == 4) = true)
    (hs : (match op with | .eql => some (isNil v) | .neq => some (!(isNil v)) | _ => none) = some s) : Runs P ρ (.binOp op t x y t') w (.bool s) w := by
  intro o ho
  obtain ⟨e, hu⟩ := isTy4 (by simpa using ht : isTy P t = 4)
  obtain ⟨ao, c, rfl, _⟩ := hr
  have hg : (eqGuard op t x y (.slice ao n c) (.slice none 0 0)).run P w = .ok () w := by unfold eqGuard; split <;> rfl
  have he : ∀ d, (Op.equalIn (d + 1) t (.slice ao n c) (.slice none 0 0)).run P w = .ok (isNil (.slice ao n c)) w := by
    intro d
    cases ao <;> simp [Op.equalIn, run_underlying hu, isNil]
  have he' : (Op.equal t (.slice ao n c) (.slice none 0 0)).run P w = .ok (isNil (.slice ao n c)) w := he 9999
  cases op <;> simp only at hs <;> (try (cases hs; done)) <;> cases hs
  · simp only [execOp, ho, hx, hy, Sem.run_bind, hg, Result.andThen_ok, binOp, he', Sem.run_pure]
  · simp only [execOp, ho, hx, hy, Sem.run_bind, hg, Result.andThen_ok, binOp, he', Sem.run_pure]
theorem isNil_len {v : Value} {n sz : Nat} {cs : List Value} (hr : Rds v n sz cs w) (h : isNil v = true) : n = 0 := by
  obtain ⟨_, ao, c, rfl, h1, h2, h3, _⟩ := hr
  cases ao with
  | none => have := h3 rfl; omega
  | some _ => simp [isNil] at h
theorem flat_all {α : Type} (F : Flat α) (l : List α) : (l.flatMap F.cells).all (·.oneCell') = true := by
  simp only [List.all_eq_true]
  exact flat_one F l
theorem all_one {l : List Value} (h : l.all (·.oneCell') = true) : ∀ u ∈ l, u.oneCell' = true := by simpa using h
theorem add0 {ρ : Operand → Value} {x : Operand} {ad : Addr} (h : ρ x = .pointer (some ad)) : ρ x = .pointer (some (ad.add 0)) := by
  rw [h]; simp [Addr.add]
theorem flat_set {α : Type} (F : Flat α) (l : List α) (i : Nat) (x : α) (h : i < l.length) : (l.set i x).flatMap F.cells = (l.flatMap F.cells).take (i * F.sz) ++ F.cells x ++ (l.flatMap F.cells).drop (i * F.sz + F.sz) := by
  have e : i * F.sz + F.sz = (i + 1) * F.sz := by rw [Nat.add_mul]; omega
  rw [e, flat_take, flat_drop, List.set_eq_take_append_cons_drop, if_pos h, List.flatMap_append, List.flatMap_cons, List.append_assoc]
/-- A store into an element of a row of one's own. -/
theorem eff_sto {α : Type} {F : Flat α} {l : List α} {li e n off : Nat} {i : Int} {t : TypeId} {v : Value} {us : List Value} {x y : Operand} {x' : α} (C : Ctx w0 D A L R w)
    (hL : L[li]? = some (rowE v e F.sz n (l.flatMap F.cells))) (hn : n = l.length) (hx : ρ x = .pointer (some ((elemA v (i.toNat * F.sz)).add off))) (h0 : 0 ≤ i) (h1 : i < l.length)
    (hy : (ρ y).cells.toList = us) (h2 : us.all (·.oneCell') = true) (ho' : Nat.ble (off + us.length) F.sz = true) (hs : sizeIs P t us.length = true) (hc : splice (F.cells (l.getD i.toNat F.dflt)) off us = F.cells x') :
    Eff P ρ (.store t x y) w (fun v' w' => v' = undef ∧ Ctx w0 D A (L.set li (rowE v e F.sz (l.set i.toNat x').length ((l.set i.toNat x').flatMap F.cells))) R w') := by
  subst hn
  have ho : off + us.length ≤ F.sz := Nat.le_of_ble_eq_true ho'
  have hown : w.ownsRow 0 e F.sz v l.length (l.flatMap F.cells) := C.okL li _ hL
  have hi : i.toNat < l.length := by omega
  rcases hown.2 with ⟨rfl, h⟩ | ⟨g, cap, cur, rfl, hb, hg, hnc, hcm, hcs, htk⟩
  · omega
  · have hz : (ρ y).cells.size = us.length := by rw [← hy]; simp
    have hsz : i.toNat * F.sz + F.sz ≤ l.length * F.sz := by
      have : (i.toNat + 1) * F.sz ≤ l.length * F.sz := Nat.mul_le_mul_right _ hi
      rw [Nat.add_mul] at this; omega
    have hcap : l.length * F.sz ≤ cur.size := by rw [hcs]; exact Nat.mul_le_mul_right _ hnc
    have hst := run_storeCells_at P g (i.toNat * F.sz + off) e us 0 cur w hg (by omega) (by simpa using h2)
    have ha : (elemA (.slice (some ⟨g, 0, none⟩) l.length cap) (i.toNat * F.sz)).add off = ⟨g, i.toNat * F.sz + off, none⟩ := by
      simp only [elemA]; rw [add_plain, add_plain, Nat.zero_add]
    have hwhole : cur.toList.take (i.toNat * F.sz + off) ++ us ++ cur.toList.drop (i.toNat * F.sz + off + us.length) =
        (cur.toList.take (i.toNat * F.sz) ++ F.cells x' ++ cur.toList.drop (i.toNat * F.sz + F.sz)) := by
      have hel : F.cells (l.getD i.toNat F.dflt) = (cur.toList.drop (i.toNat * F.sz)).take F.sz := by
        have h3 : (l.drop i.toNat).flatMap F.cells = (cur.toList.take (l.length * F.sz)).drop (i.toNat * F.sz) := by rw [htk, flat_drop]
        have h4 : l.drop i.toNat = l.getD i.toNat F.dflt :: l.drop (i.toNat + 1) := by
          rw [List.drop_eq_getElem_cons hi]; congr 1; simp [List.getD, hi]
        rw [h4, List.flatMap_cons] at h3
        have h5 := congrArg (List.take F.sz) h3
        rw [List.take_append_of_le_length (by rw [F.len]; exact Nat.le_refl _), List.take_of_length_le (by rw [F.len]; exact Nat.le_refl _)] at h5
        rw [h5, List.drop_take, List.take_take]
        congr 1
        omega
      rw [← hc, hel]
      unfold splice
      rw [List.take_take, Nat.min_eq_left (by omega), List.drop_take, List.drop_drop]
      have e1 : cur.toList.take (i.toNat * F.sz + off) = cur.toList.take (i.toNat * F.sz) ++ (cur.toList.drop (i.toNat * F.sz)).take off := by
        rw [List.take_add]
      have e2 : cur.toList.drop (i.toNat * F.sz + off + us.length) = (cur.toList.drop (i.toNat * F.sz + (off + us.length))).take (F.sz - (off + us.length)) ++ cur.toList.drop (i.toNat * F.sz + F.sz) := by
        conv => lhs; rw [show i.toNat * F.sz + off + us.length = i.toNat * F.sz + (off + us.length) by omega, ← List.take_append_drop (F.sz - (off + us.length)) (cur.toList.drop (i.toNat * F.sz + (off + us.length)))]
        rw [List.drop_drop]
        congr 2
        omega
      rw [e1, e2]
      simp only [List.append_assoc]
    refine eff_skip (w' := w.setRow g (cur.toList.take (i.toNat * F.sz) ++ F.cells x' ++ cur.toList.drop (i.toNat * F.sz + F.sz)).toArray) ?_ ?_
    · intro o ho'
      unfold sizeIs at hs
      cases hq : P.info? t with
      | none => simp [hq] at hs
      | some q =>
        have hs' : q.size = us.length := by simpa [hq] using hs
        simp only [Nat.add_zero] at hst
        rw [ha] at hx
        rw [← hwhole]
        simp [execOp, ho', Instr.storeAt, hx, Instr.sureAddr, storeVar, sizeOf, typeInfo, hq, hs', hz, hy, hst]
    · refine ⟨rfl, ctx_set C hL ((fr_setRow w g _).mono (fun x hx => by subst hx; rfl)) ?_ (fun x h => .inl h)⟩
      have hl : (l.set i.toNat x').length = l.length := by simp
      rw [hl]
      refine ⟨by rw [flat_len, hl], .inr ⟨g, cap, _, rfl, Nat.zero_le _, setRow_heap w g cur _ e _ hg, hnc, hcm, ?_, ?_⟩⟩
      · simp only [List.size_toArray, List.length_append, List.length_take, List.length_drop, Array.length_toList, F.len]
        omega
      · rw [flat_set F l i.toNat x' hi, ← htk]
        simp only [List.toList_toArray, List.append_assoc]
        have e1 : (cur.toList.take (i.toNat * F.sz)).take (l.length * F.sz) = cur.toList.take (i.toNat * F.sz) := by rw [List.take_take, Nat.min_eq_right (by omega)]
        have e2 : (cur.toList.take (l.length * F.sz)).take (i.toNat * F.sz) = cur.toList.take (i.toNat * F.sz) := by rw [List.take_take, Nat.min_eq_left (by omega)]
        have e3 : (F.cells x').take (l.length * F.sz - i.toNat * F.sz) = F.cells x' := List.take_of_length_le (by rw [F.len]; omega)
        rw [List.take_append, e1, e2, List.length_take, Nat.min_eq_left (by simp; omega), List.take_append, F.len, e3, List.drop_take, Nat.sub_sub]
end
end Go.Proofs.YthdgllldpfeelaaGreatDoor
/- Strings by index and by cut, bytes made a string, rows made, rows copied onto. No condition. -/
set_option linter.unusedVariables false
set_option linter.unusedSimpArgs false
namespace Go.Proofs.YthdgllldpfeelaaGreatDoor
open Go
def sAt (s : ByteArray) (i : Int) : Int := ((s.data.toList.getD i.toNat 0).toNat : Int)
section
variable {P : Program} {ρ : Operand → Value} {w0 w : World} {D A : Nat → Prop} {L R : List Ent}
theorem sget (s : ByteArray) (i : Nat) (h : i < s.size) : s[i]? = some (s.data.toList.getD i 0) := by
  have h' : i < s.data.size := h
  have e : s[i]? = some s[i] := by simp [h]
  rw [e]
  congr 1
  show s.data[i] = _
  simp [List.getD]
  rw [Array.getElem?_eq_getElem h']; rfl
theorem r_sidx {t : TypeId} {x y : Operand} {s : ByteArray} {k : IntKind} {i : Int} (hx : ρ x = .string s) (hy : ρ y = .int k i) (h0 : 0 ≤ i) (h1 : i < s.size) (ht : (isTy P t == 3) = true) :
    Runs P ρ (.index t x y) w (.int .u8 (sAt s i)) w := by
  intro o ho
  have hu := isTy3 (by simpa using ht : isTy P t = 3)
  have hg := sget s i.toNat (by omega)
  simp only [execOp, ho, Instr.index, hx, hy, asIntOf, Sem.run_bind, Sem.run_pure, Result.andThen_ok, run_underlying hu, if_pos h0, hg]
  rfl
theorem r_scut {t : TypeId} {x : Operand} {lo hi : Option Operand} {s : ByteArray} {l h : Nat} (hx : ρ x = .string s) (ht : (isTy P t == 3) = true)
    (hh : hiOf (hi.map ρ) s.size = some h) (hl : loOf (lo.map ρ) h = some l) : Runs P ρ (.slice t x lo hi none) w (.string (s.extract l h)) w := by
  intro o ho
  have hu := isTy3 (by simpa using ht : isTy P t = 3)
  have hb : (Instr.sliceBounds false s.size s.size (lo.map ρ) (hi.map ρ) none).run P w = .ok (l, h, s.size) w := by
    revert hh hl
    cases hi.map ρ with
    | none =>
      intro hh hl
      simp only [hiOf, Option.some.injEq] at hh
      subst hh
      revert hl
      cases lo.map ρ with
      | none => intro hl; simp only [loOf, Option.some.injEq] at hl; subst hl; simp [Instr.sliceBounds]
      | some v =>
        intro hl
        cases v <;> simp only [loOf] at hl <;> (try (cases hl; done))
        split at hl <;> (try (cases hl; done))
        rename_i hb
        cases hl
        simp [Instr.sliceBounds, run_bound hb]
    | some u =>
      intro hh hl
      cases u <;> simp only [hiOf] at hh <;> (try (cases hh; done))
      split at hh <;> (try (cases hh; done))
      rename_i ku iu hu
      cases hh
      revert hl
      cases lo.map ρ with
      | none => intro hl; simp only [loOf, Option.some.injEq] at hl; subst hl; simp [Instr.sliceBounds, run_bound hu]
      | some v =>
        intro hl
        cases v <;> simp only [loOf] at hl <;> (try (cases hl; done))
        split at hl <;> (try (cases hl; done))
        rename_i hb
        cases hl
        simp [Instr.sliceBounds, run_bound hu, run_bound hb]
  simp [execOp, ho, Instr.sliceAt, Instr.slice, run_underlying hu, hx, hb]
def bytesT (P : Program) (src dst : TypeId) : Bool :=
  match P.underlying src, P.underlying dst with
  | some (.slice e), some .string => match P.underlying e with
    | some (.int .u8) => true
    | _ => false
  | _, _ => false
/-- Bytes that are read, made a string. -/
theorem r_b2s {src dst : TypeId} {x : Operand} {v : Value} {n : Nat} {l : List Int} (hr : Rds v n 1 (l.flatMap (FK .u8).cells) w) (hn : n = l.length) (hx : ρ x = v) (ht : bytesT P src dst = true) :
    Runs P ρ (.convert src dst x) w (.string (strOfNums l)) w := by
  subst hn
  intro o ho
  unfold bytesT at ht
  split at ht
  · rename_i e hs hd
    split at ht
    · rename_i he
      obtain ⟨hl, ao, c, rfl, h1, h2, h3, h4⟩ := hr
      have hfm : l.flatMap (FK .u8).cells = l.map (Value.int .u8) := by
        clear hl h1 h2 h3 h4 hs hd he ho hx
        induction l with
        | nil => rfl
        | cons a l ih => rw [List.flatMap_cons, ih]; rfl
      rw [hfm] at h4
      cases ao with
      | none =>
        have := h3 rfl
        have : l = [] := List.eq_nil_of_length_eq_zero (by omega)
        subst this
        have h := run_convert_bytes_nil (P := P) w src e hs he 0 c dst hd
        simp only [execOp, ho, hx, Sem.run_bind]
        have hz : ([] : List Int).length = 0 := rfl
        rw [hz, h]
        rfl
      | some ad =>
        have hld : (loadCells ad l.length).run P w = .ok (l.map (Value.int .u8)).toArray w := by
          have := run_loadCells_list (P := P) w ad (l.map (Value.int .u8)) (fun j u hu => by obtain ⟨ad', ha, hc⟩ := h4 j u hu; cases ha; exact hc)
          simpa using this
        have h := run_bytesToString (P := P) w ad l.length c l hld
        simp only [execOp, ho, hx, Sem.run_bind, run_convert_bytes_string (P := P) w src dst e _ _ _ hs he hd, h, Result.andThen_ok, Sem.run_pure]
        congr 3
        rw [foldl_push_bytes]
        show (⟨#[] ++ _⟩ : ByteArray) = strOfNums l
        rw [Array.empty_append]; rfl
    · cases ht
  · cases ht
/-- A row is made. -/
theorem eff_make {α : Type} {F : Flat α} {t e bytes : Nat} {k k' : IntKind} {n : Int} {z : Value} {x y : Operand} (C : Ctx w0 D A L R w) (hx : ρ x = .int k n) (hy : ρ y = .int k' n)
    (ht : elemInfo P t = some (e, F.sz, bytes, some z)) (hz : z.cells.toList = F.cells F.dflt) (h0 : 0 ≤ n) (hb : n.toNat * bytes ≤ 281474976710656) (h63 : n ≤ 9223372036854775807) :
    Eff P ρ (.makeSlice t x y) w (fun v w' => Ctx w0 D A (L ++ [rowE v e F.sz (List.replicate n.toNat F.dflt).length ((List.replicate n.toNat F.dflt).flatMap F.cells)]) R w') := by
  unfold elemInfo at ht
  split at ht
  · rename_i e' hu
    obtain ⟨i, hi, hh⟩ := Option.map_eq_some_iff.1 ht
    simp only [Prod.mk.injEq] at hh
    obtain ⟨rfl, hsz, rfl, hzero⟩ := hh
    have hr := run_make (P := P) w t e' i z hu hi hzero k k' n n h0 (Int.le_refl _) (by
      have : ((i.bytes * n.toNat : Nat) : Int) ≤ 281474976710656 := by rw [Nat.mul_comm]; exact Int.ofNat_le.2 hb
      rw [Int.natCast_mul] at this
      rwa [Int.toNat_of_nonneg h0] at this) h63
    refine eff_runs (v := .slice (some ⟨w.heap.size, 0, none⟩) n.toNat n.toNat) (w' := w.alloc (.cells (madeCells z.cells (n.toNat * i.size)) e')) ?_ ?_
    · intro o ho
      simp only [execOp, ho, hx, hy, Sem.run_bind, hr, Result.andThen_ok, Sem.run_pure]
    · have hcells : madeCells z.cells (n.toNat * i.size) = ((List.replicate n.toNat F.dflt).flatMap F.cells).toArray := by
        rw [hsz]
        apply Array.ext
        · rw [size_madeCells, List.size_toArray, flat_len, List.length_replicate]
        · intro j h1 h2
          have h1' : j < n.toNat * F.sz := by simpa [size_madeCells] using h1
          have hp : 0 < F.sz := by
            rcases Nat.eq_zero_or_pos F.sz with h | h
            · rw [h] at h1'; simp at h1'
            · exact h
          have hdiv : j / F.sz < n.toNat := (Nat.div_lt_iff_lt_mul hp).2 h1'
          have hmod : j % F.sz < F.sz := Nat.mod_lt _ hp
          have hg := flat_get F (List.replicate n.toNat F.dflt) (j / F.sz) (j % F.sz) (by simpa using hdiv) hmod
          rw [Nat.div_add_mod' j F.sz] at hg
          have e1 : (List.replicate n.toNat F.dflt).getD (j / F.sz) F.dflt = F.dflt := by simp [List.getD, hdiv]
          rw [e1] at hg
          have hzs : z.cells.size = F.sz := by rw [← F.len F.dflt, ← hz]; simp
          have hzc : z.cells[j % F.sz]! = (F.cells F.dflt)[j % F.sz]'(by rw [F.len]; exact hmod) := by
            have : z.cells = (F.cells F.dflt).toArray := by rw [← hz]
            simp [this, F.len, hmod]
          have hl : (madeCells z.cells (n.toNat * F.sz))[j]'h1 = z.cells[j % F.sz]! := by simp [madeCells, hzs]
          rw [hl, hzc]
          have h3 : (((List.replicate n.toNat F.dflt).flatMap F.cells).toArray)[j]? = some ((F.cells F.dflt)[j % F.sz]'(by rw [F.len]; exact hmod)) := by
            rw [List.getElem?_toArray, hg, List.getElem?_eq_getElem]
          exact (Array.getElem_eq_iff.2 h3).symm
      rw [hcells]
      refine ctx_new C (Fr.alloc w _) ?_ (fun b hb => by simp [rowE, Value.ownBlock] at hb; omega)
      have hn : (List.replicate n.toNat F.dflt).length = n.toNat := List.length_replicate
      rw [hn]
      exact World.ownsRow_lit w _ n.toNat (Nat.zero_le _) (by simp only [maxLen]; omega) (by rw [List.size_toArray]; exact (flat_len F (List.replicate n.toNat F.dflt)).trans (by rw [hn]))
  · cases ht
theorem flat_take' {α : Type} (F : Flat α) (l : List α) (h : Nat) : (l.flatMap F.cells).take (h * F.sz) = (l.take h).flatMap F.cells := flat_take F l h
/-- Copied onto a row of one's own, from lo on. -/
theorem eff_copy {α : Type} {F : Flat α} {l src : List α} {li e n m lo hi dT sT : Nat} {v y : Value} {d s : Operand} (C : Ctx w0 D A L R w) (hL : L[li]? = some (rowE v e F.sz n (l.flatMap F.cells))) (hn : n = l.length)
    (hd : ρ d = cutV v lo hi F.sz) (hlo : lo ≤ hi) (hhi : hi ≤ l.length) (hs : ρ s = y) (hy : Rds y m F.sz (src.flatMap F.cells) w) (hm : m = src.length) (ht : elemSz P dT = some F.sz) :
    Eff P ρ (.call { callee := .builtin .copy, args := #[d, s], argTypes := #[dT, sT] }) w
      (fun v' w' => v' = .int .i64 ((min src.length (hi - lo) : Nat) : Int) ∧
        Ctx w0 D A (L.set li (rowE v e F.sz (l.take lo ++ src.take (min src.length (hi - lo)) ++ l.drop (lo + min src.length (hi - lo))).length ((l.take lo ++ src.take (min src.length (hi - lo)) ++ l.drop (lo + min src.length (hi - lo))).flatMap F.cells))) R w') := by
  subst hn hm
  have hown : w.ownsRow 0 e F.sz v l.length (l.flatMap F.cells) := C.okL li _ hL
  unfold elemSz at ht
  split at ht
  · rename_i e' hu
    obtain ⟨i, hi', hsz⟩ := Option.map_eq_some_iff.1 ht
    have hy' := hy
    obtain ⟨hl, ao, c, rfl, h1, h2, h3, h4⟩ := hy
    generalize hq : min src.length (hi - lo) = q
    have hql : q ≤ src.length := by omega
    have hqh : lo + q ≤ hi := by omega
    have hlen : (l.take lo ++ src.take q ++ l.drop (lo + q)).length = l.length := by simp; omega
    by_cases q0 : q = 0
    · subst q0
      have same : l.take lo ++ src.take 0 ++ l.drop (lo + 0) = l := by simp
      rw [same]
      refine eff_runs (v := .int .i64 ((0 : Nat) : Int)) (w' := w) ?_ ⟨rfl, ctx_set C hL (Fr.refl _ _) hown (fun b h => .inl h)⟩
      intro o ho
      have hmin : Nat.min src.length (hi - lo) = 0 := hq
      have hcut : ∃ b' c', cutV v lo hi F.sz = .slice b' (hi - lo) c' := by
        rcases hown.2 with ⟨rfl, _⟩ | ⟨g, cap, cur, rfl, _⟩
        · exact ⟨_, _, rfl⟩
        · exact ⟨_, _, rfl⟩
      obtain ⟨b', c', hc⟩ := hcut
      rw [hc] at hd
      have hfc : (Builtin.firstCells i.size 0 (.slice ao src.length c)).run P w = .ok #[] w := by
        cases ao <;> simp [Builtin.firstCells, loadCells, loadCellsFrom]
      cases b' <;> simp [execOp, ho, resolve, invoke, builtin, hd, hs, Builtin.copy_, run_underlying hu, Builtin.lenOf, sizeOf, typeInfo, hi', hmin, hfc, storeCells, goInt]
    · rcases hown.2 with ⟨rfl, h0⟩ | ⟨g, cap, cur, rfl, hb, hg, hnc, hcm, hcs, htk⟩
      · omega
      · cases ao with
        | none => have := h3 rfl; omega
        | some ad =>
          have hcap : ¬ cap = lo := by omega
          have hmin : Nat.min src.length (hi - lo) = q := hq
          have hcut : cutV (.slice (some ⟨g, 0, none⟩) l.length cap) lo hi F.sz = .slice (some ⟨g, lo * F.sz, none⟩) (hi - lo) (cap - lo) := by
            simp only [cutV, if_neg hcap, Option.map_some, add_plain, Nat.zero_add]
          rw [hcut] at hd
          have hcsl : ((src.take q).flatMap F.cells).length = q * F.sz := by rw [flat_len]; simp [Nat.min_eq_left hql]
          have hld : (loadCells ad (q * F.sz)).run P w = .ok ((src.take q).flatMap F.cells).toArray w := by
            have := run_loadCells_list (P := P) w ad ((src.take q).flatMap F.cells) (fun j u hu => by
              rw [← flat_take, List.getElem?_take] at hu
              split at hu
              · obtain ⟨ad', ha, hc⟩ := h4 j u hu; cases ha; exact hc
              · cases hu)
            rwa [hcsl] at this
          have hmul : (lo + q) * F.sz ≤ cap * F.sz := Nat.mul_le_mul_right _ (by omega)
          have hmul2 : (lo + q) * F.sz ≤ l.length * F.sz := Nat.mul_le_mul_right _ (by omega)
          have hmul3 : l.length * F.sz ≤ cap * F.sz := Nat.mul_le_mul_right _ hnc
          have hadd : (lo + q) * F.sz = lo * F.sz + q * F.sz := Nat.add_mul _ _ _
          have hst := run_storeCells_at P g (lo * F.sz) e ((src.take q).flatMap F.cells) 0 cur w hg (by rw [hcsl, hcs]; omega) (flat_one F _)
          refine eff_runs (v := .int .i64 ((q : Nat) : Int)) (w' := w.setRow g (cur.toList.take (lo * F.sz) ++ (src.take q).flatMap F.cells ++ cur.toList.drop (lo * F.sz + q * F.sz)).toArray) ?_ ⟨rfl, ?_⟩
          · intro o ho
            have hst' : (storeCells ⟨g, lo * F.sz, none⟩ ((src.take q).flatMap F.cells)).run P w = .ok () (w.setRow g (cur.toList.take (lo * F.sz) ++ (src.take q).flatMap F.cells ++ cur.toList.drop (lo * F.sz + q * F.sz)).toArray) := by
              simpa [hcsl] using hst
            simp [execOp, ho, resolve, invoke, builtin, hd, hs, Builtin.copy_, run_underlying hu, Builtin.lenOf, Builtin.firstCells, sizeOf, typeInfo, hi', hsz, hmin, hld, hst', goInt]
          · refine ctx_set C hL ((fr_setRow w g _).mono (fun x hx => by subst hx; rfl)) ?_ (fun x h => .inl h)
            rw [hlen]
            refine ⟨by rw [flat_len, hlen], .inr ⟨g, cap, _, rfl, Nat.zero_le _, setRow_heap w g cur _ e _ hg, hnc, hcm, ?_, ?_⟩⟩
            · simp only [List.size_toArray, List.length_append, List.length_take, List.length_drop, Array.length_toList, hcsl]
              omega
            · simp only [List.toList_toArray]
              rw [List.flatMap_append, List.flatMap_append, ← flat_take F l lo, ← flat_drop F l (lo + q), ← htk, List.take_take, Nat.min_eq_left (by omega), List.drop_take, hadd]
              rw [List.take_append, List.take_append, List.take_take, Nat.min_eq_right (by omega)]
              have e1 : (cur.toList.take (lo * F.sz)).length = lo * F.sz := by simp; omega
              rw [e1, List.take_of_length_le (l := (src.take q).flatMap F.cells) (by rw [hcsl]; omega)]
              congr 2
              rw [List.length_append, e1, hcsl]
  · cases ht
end
end Go.Proofs.YthdgllldpfeelaaGreatDoor
/- Equality of values of whatever depth; arrays as vectors: cells, elements read and set. No condition. -/
set_option linter.unusedVariables false
set_option linter.unusedSimpArgs false
namespace Go.Proofs.YthdgllldpfeelaaGreatDoor
open Go
def partV (P : Program) (t : TypeId) (cs : List Value) (off : Nat) : Option Value :=
  if scal P t then cs[off]? else if isTy P t == 5 || isTy P t == 6 then (P.info? t).map fun i => .agg ((cs.drop off).take i.size).toArray else none
def eqFl (P : Program) (cmp : TypeId → Value → Value → Option Bool) (xs ys : List Value) : List Field → Option Bool
  | [] => some true
  | f :: fs => if f.name == "_" then none else match partV P f.type xs f.offset, partV P f.type ys f.offset with
    | some a, some b => match cmp f.type a b, eqFl P cmp xs ys fs with
      | some e, some r => some (e && r)
      | _, _ => none
    | _, _ => none
def eqIt (P : Program) (cmp : TypeId → Value → Value → Option Bool) (e : TypeId) (c : Nat) (xs ys : List Value) : List Nat → Option Bool
  | [] => some true
  | i :: is => match partV P e xs (i * c), partV P e ys (i * c) with
    | some a, some b => match cmp e a b, eqIt P cmp e c xs ys is with
      | some e, some r => some (e && r)
      | _, _ => none
    | _, _ => none
def eqV (P : Program) : Nat → TypeId → Value → Value → Option Bool
  | 0, _, _, _ => none
  | d + 1, t, x, y => match isTy P t, P.underlying t, x, y with
    | 2, _, .int k a, .int k' b => if k = k' then some (a == b) else none
    | 1, _, .bool a, .bool b => some (a == b)
    | 3, _, .string a, .string b => some (a.toList == b.toList)
    | _, some (.struct fs), .agg xs, .agg ys => if P.stoodInHeld t then none else eqFl P (eqV P d) xs.toList ys.toList fs.toList
    | _, some (.array n e), .agg xs, .agg ys => if (P.info? e).isSome then eqIt P (eqV P d) e (P.cellsOf e) xs.toList ys.toList (List.range n) else none
    | _, _, _, _ => none
section
variable {P : Program} {w : World}
theorem run_partV {t : TypeId} {cs : Array Value} {off : Nat} {v : Value} (h : partV P t cs.toList off = some v) : (part t cs off).run P w = .ok v w := by
  unfold partV at h
  split at h
  · rename_i hs
    exact run_part hs (by simpa using h)
  · split at h
    · rename_i hs hr
      obtain ⟨i, hi, rfl⟩ := Option.map_eq_some_iff.1 h
      have hagg : (isAgg t).run P w = .ok true w := by
        unfold isTy at hr
        unfold isAgg
        cases hu : P.underlying t with
        | none => simp [hu] at hr
        | some d => rw [Sem.run_bind, run_underlying hu w]; cases d <;> simp_all
      unfold part
      rw [Sem.run_bind, hagg]
      simp only [Result.andThen_ok, if_true, Sem.run_bind, sizeOf, typeInfo, run_program, hi, Sem.run_pure]
      congr 2
      apply Array.toList_inj.1
      simp [Array.toList_extract, List.extract_eq_take_drop]
    · cases h
theorem run_eqV : ∀ (d : Nat) (t : TypeId) (x y : Value) (r : Bool), eqV P d t x y = some r → ∀ m, d ≤ m → (Op.equalIn m t x y).run P w = .ok r w
  | 0, _, _, _, _, h => by simp [eqV] at h
  | d + 1, t, x, y, r, h => by
    intro m hm
    obtain ⟨m, rfl⟩ : ∃ q, m = q + 1 := ⟨m - 1, by omega⟩
    have ih := fun t x y r h => run_eqV d t x y r h m (by omega)
    simp only [eqV] at h
    split at h
    · rename_i h2
      split at h
      · rename_i hk
        subst hk
        cases h
        obtain ⟨kk, hu⟩ := isTy2 h2
        exact run_equalIn_int w m t _ kk _ _ hu
      · cases h
    · rename_i h2; cases h; exact run_equalIn_bool' w m t _ _ (isTy1 h2)
    · rename_i h2; cases h; exact run_equalIn_string w m t _ _ (isTy3 h2)
    · rename_i fs xs ys hu
      split at h
      · cases h
      · rename_i hst
        have hf : P.fieldsOf t = fs := by simp [Program.fieldsOf, hu]
        rw [run_equalIn_struct (P := P) w m t _ _ (by rw [hf]; exact hu) (by simpa using hst), hf]
        have key : ∀ (fs : List Field) (r : Bool), eqFl P (eqV P d) xs.toList ys.toList fs = some r → (Op.eqFields m xs ys fs).run P w = .ok r w := by
          intro fs
          induction fs with
          | nil => intro r h; simp [eqFl] at h; subst h; simp [Op.eqFields]
          | cons f fs ihf =>
            intro r h
            simp only [eqFl] at h
            split at h
            · cases h
            · rename_i hn
              have hn' : f.name ≠ "_" := by simpa using hn
              split at h
              · rename_i a b ha hb
                split at h
                · rename_i e s he hs
                  cases h
                  rw [Op.eqFields]
                  simp only [if_pos hn', Sem.run_bind, run_partV (w := w) ha, run_partV (w := w) hb, ih _ _ _ _ he, Result.andThen_ok]
                  cases e
                  · simp
                  · simpa using ihf s hs
                · cases h
              · cases h
        exact key fs.toList r h
    · rename_i n e xs ys hu
      split at h
      · rename_i hi
        obtain ⟨i, hi⟩ := Option.isSome_iff_exists.1 hi
        rw [run_equalIn_array w m xs ys hu hi]
        have key : ∀ (is : List Nat) (r : Bool), eqIt P (eqV P d) e (P.cellsOf e) xs.toList ys.toList is = some r → (Op.eqItems m e (P.cellsOf e) xs ys is).run P w = .ok r w := by
          intro is
          induction is with
          | nil => intro r h; simp [eqIt] at h; subst h; simp [Op.eqItems]
          | cons j is ihf =>
            intro r h
            simp only [eqIt] at h
            split at h
            · rename_i a b ha hb
              split at h
              · rename_i q s he hs
                cases h
                rw [Op.eqItems]
                simp only [Sem.run_bind, run_partV (w := w) ha, run_partV (w := w) hb, ih _ _ _ _ he, Result.andThen_ok]
                cases q
                · simp
                · simpa using ihf s hs
              · cases h
            · cases h
        exact key _ r h
      · cases h
    · cases h
variable {ρ : Operand → Value}
theorem r_eqd {op : BinOp} {t t' : TypeId} {x y : Operand} {xs ys : List Value} {r s : Bool} (hx : ρ x = .agg xs.toArray) (hy : ρ y = .agg ys.toArray) (hg : P.eqGuardType P.depth t = false)
    (h : eqV P 12 t (.agg xs.toArray) (.agg ys.toArray) = some r) (hs : (match op with | .eql => some r | .neq => some (!r) | _ => none) = some s) : Runs P ρ (.binOp op t x y t') w (.bool s) w := by
  intro o ho
  have he : (Op.equalIn 10000 t (.agg xs.toArray) (.agg ys.toArray)).run P w = .ok r w := run_eqV 12 t _ _ r h 10000 (by omega)
  have hgd := run_eqGuard_agg (P := P) w op t x y xs.toArray ys.toArray hg
  cases op <;> simp only at hs <;> (try (cases hs; done)) <;> cases hs
  · simp only [execOp, ho, hx, hy, Sem.run_bind, hgd, Result.andThen_ok, run_eql_struct, he, Sem.run_pure]
  · simp only [execOp, ho, hx, hy, Sem.run_bind, hgd, Result.andThen_ok, run_neq_struct, he, Sem.run_pure]
end
theorem one_nil : ∀ v ∈ ([] : List Value), v.oneCell' = true := by simp
theorem one_cons {u : Value} {l : List Value} (h : u.oneCell' = true) (k : ∀ v ∈ l, v.oneCell' = true) : ∀ v ∈ u :: l, v.oneCell' = true := by
  intro v hv
  rcases List.mem_cons.1 hv with rfl | hv
  · exact h
  · exact k v hv
theorem one_app {a l : List Value} (h : ∀ v ∈ a, v.oneCell' = true) (k : ∀ v ∈ l, v.oneCell' = true) : ∀ v ∈ a ++ l, v.oneCell' = true := by
  intro v hv
  rcases List.mem_append.1 hv with hv | hv
  · exact h v hv
  · exact k v hv
/-- An array's elements, by number. -/
def arL {α : Type} (d : α) (n : Nat) (v : Vector α n) : List α := (List.range n).map fun i => v.toArray.getD i d
def FA {α : Type} (F : Flat α) (n : Nat) : Flat (Vector α n) :=
  ⟨n * F.sz, fun v => (arL F.dflt n v).flatMap F.cells, Vector.replicate n F.dflt, fun v => by rw [flat_len]; simp [arL], fun v u hu => flat_one F _ u hu⟩
def eqL {α : Type} [BEq α] : List α → List α → Bool
  | a :: as, b :: bs => (a == b) && eqL as bs
  | _, _ => true
theorem arL_eq {α : Type} (d : α) (n : Nat) (v : Vector α n) : arL d n v = v.toList := by
  apply List.ext_getElem
  · simp [arL]
  · intro i h1 h2
    have h : i < n := by simpa [arL] using h1
    simp [arL, Array.getD, h]
theorem eqL_iff {α : Type} [BEq α] [LawfulBEq α] : ∀ (as bs : List α), as.length = bs.length → (eqL as bs = true ↔ as = bs)
  | [], [], _ => by simp [eqL]
  | a :: as, b :: bs, h => by simp [eqL, eqL_iff as bs (by simpa using h)]
  | [], _ :: _, h => by simp at h
  | _ :: _, [], h => by simp at h
theorem eqA_iff {α : Type} [BEq α] [LawfulBEq α] (d : α) (n : Nat) (v u : Vector α n) : eqL (arL d n v) (arL d n u) = true ↔ v = u := by
  rw [eqL_iff _ _ (by simp [arL]), arL_eq, arL_eq]
  exact Vector.toList_inj
def vAt {α : Type} (d : α) {n : Nat} (v : Vector α n) (i : Int) : α := v.toArray.getD i.toNat d
def vSet {α : Type} {n : Nat} (v : Vector α n) (i : Int) (x : α) : Vector α n := v.setIfInBounds i.toNat x
theorem arL_set {α : Type} (d : α) (n : Nat) (v : Vector α n) (i : Int) (x : α) : arL d n (vSet v i x) = (arL d n v).set i.toNat x := by
  rw [arL_eq, arL_eq]; simp [vSet]
end Go.Proofs.YthdgllldpfeelaaGreatDoor
/- The last words of the walks: tests of constants, results that lie in memory. No condition. -/
set_option linter.unusedVariables false
set_option linter.unusedSimpArgs false
namespace Go.Proofs.YthdgllldpfeelaaGreatDoor
open Go
section
variable {ro : Option Nat} {P : Program} {Q : Exit → Act → World → Prop} {a : Act} {w w0 : World} {c : Code} {n : Nat} {m : List (Nat × Value)} {D A : Nat → Prop} {L R : List Ent} {ρ : Operand → Value}
theorem c_ifc {b : Bool} (h : c.kind.1 = 4) (hc : c.test = .const (.bool b)) (h1 : b = true → c.fst.wpIn (FR ro) 3 P Q a w) (h2 : b = false → c.snd.wpIn (FR ro) 3 P Q a w) : c.wpIn (FR ro) 3 P Q a w := by
  have hk : c.kind = (4, 0) := by
    cases c <;> simp [Code.kind] at h ⊢
    case region i o d => cases d <;> simp at h
  exact c_cond hk (t := b) (by rw [hc]; rfl) h1 h2
theorem ctx_lent {ri n sz : Nat} {l : Bool} {v : Value} {cs : List Value} (C : Ctx w0 D A L R w) (h : R[ri]? = some (rdE l v n sz cs)) : Ctx w0 D A L (R ++ [rdE true v n sz cs]) w :=
  ctx_rd C (C.okR ri _ h : (rdE l v n sz cs).ok w) (fun i E hi b hb hF => C.sepR i ri E _ hi h b hb hF) (fun e => by cases e)
theorem cut_id (v : Value) (n sz : Nat) (h : Shp v n) {ρ : Operand → Value} {x : Operand} (hx : ρ x = v) : ρ x = cutV v 0 n sz := by
  obtain ⟨ao, c, rfl, h1, h2, h3⟩ := h
  rw [hx]
  simp only [cutV, Nat.zero_mul, Nat.sub_zero]
  split
  · rfl
  · cases ao with
    | none => rfl
    | some ad => simp [Addr.add]
theorem eff_cl {f : FuncId} {x : Operand} {xs : Array Operand} {ts : Array TypeId} {K : Value → World → Prop} {A caps B : List Value} (hA : xs.toList.map ρ = A) (hv : ρ x = .func (.func f) #[] caps.toArray) (hf : enters P f = true) (hB : A ++ caps = B)
    (hc : Fn P f B w K) : Eff P ρ (.call { callee := .value x, args := xs, argTypes := ts }) w K :=
  eff_fv hA ⟨f, caps.toArray, hv, hf, by subst hB; simpa using hc⟩
theorem cutF_rds {α : Type} {F : Flat α} {l : List α} {v : Value} {lo h : Nat} (hr : Rds v l.length F.sz (l.flatMap F.cells) w) (hlo : lo ≤ h) (hh : h ≤ l.length) : Rds (cutV v lo h F.sz) ((l.take h).drop lo).length F.sz (((l.take h).drop lo).flatMap F.cells) w := by
  have e : ((l.take h).drop lo).length = h - lo := by simp; omega
  rw [e, ← flat_drop, ← flat_take]
  exact cut_rds hr hlo hh
theorem fr_of_below {w w' : World} (h : Go.RowKit.Below w.heap.size w w') : Fr nob w w' := ⟨h.os, h.tape, h.output, h.size, fun b hb _ => h.block b hb⟩
/-- Results that lie in memory. -/
def resB (m : List (Nat × Value)) (bx : List (Nat × Value)) : List ResultVar → Option (List Value)
  | [] => some []
  | .tmp t :: rs => match look m t, resB m bx rs with
    | some v, some vs => some (v :: vs)
    | _, _ => none
  | .cell t _ :: rs => match look m t, resB m bx rs with
    | some (.pointer (some ⟨b, 0, none⟩)), some vs => (look bx b).map (· :: vs)
    | _, _ => none
inductive Cells (w : World) : List (Nat × Value) → Prop where
  | nil : Cells w []
  | cons {b : Nat} {u : Value} {bx : List (Nat × Value)} : w.cell? ⟨b, 0, none⟩ = some u → Cells w bx → Cells w ((b, u) :: bx)
theorem Cells.get {w : World} : ∀ {bx : List (Nat × Value)}, Cells w bx → ∀ b u, look bx b = some u → w.cell? ⟨b, 0, none⟩ = some u
  | _, .nil, _, _, h => by simp [look] at h
  | _, .cons (b := b') (u := u') h1 h2, b, u, h => by
    simp only [look] at h
    by_cases e : b' = b
    · subst e; rw [if_pos (by simp)] at h; cases h; exact h1
    · rw [if_neg (by simpa using e)] at h; exact h2.get b u h
theorem cell1 {li b T : Nat} {u : Value} (C : Ctx w0 D A L R w) (h : L[li]? = some (boxE false b T [u])) : w.cell? ⟨b, 0, none⟩ = some u :=
  (cell_of_row w b 0 [u].toArray T (0, 0) (C.okL li _ h)).trans (by simp)
def scalsB (P : Program) : List ResultVar → Bool
  | [] => true
  | .tmp _ :: rs => scalsB P rs
  | .cell _ t :: rs => scal P t && scalsB P rs
theorem run_resB {bx : List (Nat × Value)} (hb : Cells w bx) (g : ResultVar → Sem Value) (hg : ∀ t v, look m t = some v → (g (.tmp t)).run P w = .ok v w)
    (hc : ∀ t ty b u, look m t = some (.pointer (some ⟨b, 0, none⟩)) → w.cell? ⟨b, 0, none⟩ = some u → scal P ty = true → (g (.cell t ty)).run P w = .ok u w) :
    ∀ (rs : List ResultVar) (vs : List Value), resB m bx rs = some vs → scalsB P rs = true → (rs.mapM g).run P w = .ok vs w
  | [], vs, h, _ => by simp [resB] at h; subst h; simp
  | .tmp t :: rs, vs, h, hs => by
    simp only [resB] at h
    split at h
    · rename_i v us ht hr
      cases h
      simp [List.mapM_cons, run_resB hb g hg hc rs us hr (by simpa [scalsB] using hs), hg t v ht]
    · cases h
  | .cell t ty :: rs, vs, h, hs => by
    simp only [scalsB, Bool.and_eq_true] at hs
    simp only [resB] at h
    split at h
    · rename_i b us ht hr
      obtain ⟨u, hu, rfl⟩ := Option.map_eq_some_iff.1 h
      simp [List.mapM_cons, run_resB hb g hg hc rs us hr hs.2, hc t ty b u ht (hb.get b u hu) hs.1]
    · cases h
theorem q_retc {fn : Func} {K : Ending → World → Prop} {bx : List (Nat × Value)} {vs : List Value} (hS : Sl n m a) (hb : Cells w bx) (hr : (resB m bx fn.results.toList, scalsB P fn.results.toList) = (some vs, true)) (hR : K (.returned (one1 vs)) w) :
    bodyPost P fn K .ret a w := by
  simp only [Prod.mk.injEq] at hr
  refine ⟨hS.defers, one1 vs, ?_, hR⟩
  have e : fn.results = fn.results.toList.toArray := by simp
  unfold results
  rw [e]
  simp only [List.mapM_toArray, Sem.run_bind, Sem.run_map]
  rw [run_resB (m := m) hb _ (fun t v ht => by simp [hS.slots t v ht]) (fun t ty b u ht hc hs => by
    simp [hS.slots t _ ht, asAddr, loadVar, agg_no hs, hc]) fn.results.toList vs hr.1 hr.2]
  simp only [Result.andThen_ok, Sem.run_pure]
  match vs with
  | [] => rfl
  | [v] => rfl
  | _ :: _ :: _ => simp [one1]
theorem q_endc {fn : Func} {K : Ending → World → Prop} {bx : List (Nat × Value)} {vs : List Value} (hS : Sl n m a) (hb : Cells w bx) (hr : (resB m bx fn.results.toList, scalsB P fn.results.toList) = (some vs, true)) (hR : K (.returned (one1 vs)) w) :
    bodyPost P fn K .normal a w := q_retc (P := P) (fn := fn) (K := K) hS hb hr hR
theorem r_sh {op : BinOp} {t t' : TypeId} {x y : Operand} {k k' : IntKind} {p q : Int} {v : Value} (hx : ρ x = .int k p) (hy : ρ y = .int k' q) (hq : 0 ≤ q)
    (hv : (match op with | .shl => some (Value.int k (shlK k p q)) | .shr => some (Value.int k (shrK k p q)) | _ => none) = some v) : Runs P ρ (.binOp op t x y t') w v w := by
  have hn : ¬ q < 0 := by omega
  cases op <;> simp only at hv <;> (try (cases hv; done)) <;> cases hv <;> exact runs_pure (by simp only [pureV, hx, hy, binV, if_neg hn]; rfl) w
theorem r_idxa {t : TypeId} {x y : Operand} {b off n sz : Nat} {k : IntKind} {i : Int} (hx : ρ x = .pointer (some ⟨b, off, none⟩)) (hy : ρ y = .int k i) (h0 : 0 ≤ i) (h1 : i < n) (ht : arrAt? P t = some (n, sz)) :
    Runs P ρ (.indexAddr t x y) w (.pointer (some ⟨b, off + i.toNat * sz, none⟩)) w :=
  runs_pure (by simp only [pureV, hx, hy, ht]; rw [if_pos ⟨h0, h1⟩, add_plain]) w
theorem fa_get {α : Type} (F : Flat α) {n : Nat} (vec : Vector α n) (i : Int) (h0 : 0 ≤ i) (h1 : i < n) (off : Nat) (h2 : off < F.sz) : ((FA F n).cells vec)[i.toNat * F.sz + off]? = (F.cells (vAt F.dflt vec i))[off]? := by
  have h := flat_get F (arL F.dflt n vec) i.toNat off (by simp [arL]; omega) h2
  have e : (arL F.dflt n vec).getD i.toNat F.dflt = vAt F.dflt vec i := by
    have hi : i.toNat < n := by omega
    simp [arL, vAt, List.getD, hi]
  rw [e] at h
  exact h
theorem r_ldRa {α : Type} {F : Flat α} {n li b off : Nat} {T t : TypeId} {lt : Bool} {cs : List Value} {vec : Vector α n} {i : Int} {x : Operand} {u : Value} (C : Ctx w0 D A L R w) (hL : R[li]? = some (boxE lt b T cs))
    (hc : (cs.drop off).take (n * F.sz) = (FA F n).cells vec) (hx : ρ x = .pointer (some ⟨b, off + i.toNat * F.sz, none⟩)) (h0 : 0 ≤ i) (h1 : i < n) (hu : F.cells (vAt F.dflt vec i) = [u]) (ht : scal P t = true) :
    Runs P ρ (.load t x) w u w := by
  have hs : F.sz = 1 := by rw [← F.len (vAt F.dflt vec i), hu]; rfl
  have hg := fa_get F vec i h0 h1 0 (by omega)
  rw [← hc, hu, List.getElem?_take] at hg
  have hlt : i.toNat * F.sz + 0 < n * F.sz := by rw [hs]; omega
  rw [if_pos hlt, List.getElem?_drop] at hg
  exact r_cell hx ((cell_of_row w b _ cs.toArray T (0, 0) (C.okR li _ hL : (boxE lt b T cs).ok w)).trans (by simpa using hg)) ht
theorem r_lda {α : Type} {F : Flat α} {n li b off : Nat} {T t : TypeId} {cs : List Value} {vec : Vector α n} {i : Int} {x : Operand} {u : Value} (C : Ctx w0 D A L R w) (hL : L[li]? = some (boxE false b T cs))
    (hc : (cs.drop off).take (n * F.sz) = (FA F n).cells vec) (hx : ρ x = .pointer (some ⟨b, off + i.toNat * F.sz, none⟩)) (h0 : 0 ≤ i) (h1 : i < n) (hu : F.cells (vAt F.dflt vec i) = [u]) (ht : scal P t = true) :
    Runs P ρ (.load t x) w u w := by
  have hs : F.sz = 1 := by rw [← F.len (vAt F.dflt vec i), hu]; rfl
  have hg := fa_get F vec i h0 h1 0 (by omega)
  rw [← hc, hu, List.getElem?_take] at hg
  have hlt : i.toNat * F.sz + 0 < n * F.sz := by rw [hs]; omega
  rw [if_pos hlt, List.getElem?_drop] at hg
  exact r_cell hx ((cell_of_row w b _ cs.toArray T (0, 0) (C.okL li _ hL)).trans (by simpa using hg)) ht
theorem eff_sta {α : Type} {F : Flat α} {n li b off : Nat} {T t : TypeId} {cs cs' : List Value} {vec : Vector α n} {i : Int} {x y : Operand} {x' : α} (C : Ctx w0 D A L R w) (hL : L[li]? = some (boxE false b T cs))
    (hc : (cs.drop off).take (n * F.sz) = (FA F n).cells vec) (hx : ρ x = .pointer (some ⟨b, off + i.toNat * F.sz, none⟩)) (h0 : 0 ≤ i) (h1 : i < n) (hy : (ρ y).cells.toList = F.cells x') (hs : sizeIs P t F.sz = true)
    (hc' : cs.take off ++ ((FA F n).cells (vSet vec i x') ++ cs.drop (off + n * F.sz)) = cs') (hp : 0 < F.sz) :
    Eff P ρ (.store t x y) w (fun v' w' => v' = undef ∧ Ctx w0 D A (L.set li (boxE false b T cs')) R w') := by
  have hi : i.toNat < n := by omega
  have hlen : ((FA F n).cells vec).length = n * F.sz := (FA F n).len vec
  have hmul : (i.toNat + 1) * F.sz ≤ n * F.sz := Nat.mul_le_mul_right _ hi
  rw [Nat.add_mul, Nat.one_mul] at hmul
  have hle : n * F.sz ≤ cs.length - off := by
    rw [← hc, List.length_take, List.length_drop] at hlen; omega
  · have hset : (FA F n).cells (vSet vec i x') = ((FA F n).cells vec).take (i.toNat * F.sz) ++ F.cells x' ++ ((FA F n).cells vec).drop (i.toNat * F.sz + F.sz) := by
      have := flat_set F (arL F.dflt n vec) i.toNat x' (by simp [arL]; omega)
      rw [← arL_set] at this
      exact this
    refine eff_stb (us := F.cells x') C hL hx hy (by simp only [List.all_eq_true]; exact F.one x') (by rw [F.len]; have := Nat.mul_pos (show 0 < n by omega) hp; omega) (by rw [F.len]; exact hs) ?_
    rw [← hc', hset, ← hc, splice, F.len]
    have e1 : cs.take (off + i.toNat * F.sz) = cs.take off ++ (cs.drop off).take (i.toNat * F.sz) := List.take_add
    have e2 : cs.drop (off + i.toNat * F.sz + F.sz) = ((cs.drop off).take (n * F.sz)).drop (i.toNat * F.sz + F.sz) ++ cs.drop (off + n * F.sz) := by
      rw [List.drop_take, List.drop_drop]
      conv => lhs; rw [show off + i.toNat * F.sz + F.sz = off + (i.toNat * F.sz + F.sz) by omega, ← List.take_append_drop (n * F.sz - (i.toNat * F.sz + F.sz)) (cs.drop (off + (i.toNat * F.sz + F.sz)))]
      rw [List.drop_drop]
      congr 2; omega
    have e3 : ((cs.drop off).take (n * F.sz)).take (i.toNat * F.sz) = (cs.drop off).take (i.toNat * F.sz) := by rw [List.take_take, Nat.min_eq_left (by omega)]
    rw [e1, e2, e3]
    simp only [List.append_assoc]
/-- An element of an array that is a value. -/
theorem r_aidx {α : Type} {F : Flat α} {n : Nat} {t : TypeId} {vec : Vector α n} {k : IntKind} {i : Int} {x y : Operand} {u : Value} (hx : ρ x = .agg ((FA F n).cells vec).toArray) (hy : ρ y = .int k i) (h0 : 0 ≤ i) (h1 : i < n)
    (ht : arrAt? P t = some (n, F.sz)) (hs : (match P.underlying t with | some (.array _ e) => scal P e | _ => false) = true) (hu : F.cells (vAt F.dflt vec i) = [u]) : Runs P ρ (.index t x y) w u w := by
  intro o ho
  have hsz : F.sz = 1 := by rw [← F.len (vAt F.dflt vec i), hu]; rfl
  have hg := fa_get F vec i h0 h1 0 (by omega)
  rw [hu] at hg
  unfold arrAt? at ht
  split at ht
  · rename_i nn e hun
    obtain ⟨q, hq, hh⟩ := Option.map_eq_some_iff.1 ht
    simp only [Prod.mk.injEq] at hh
    obtain ⟨rfl, hqs⟩ := hh
    rw [hun] at hs
    simp only [execOp, ho, Instr.index, hx, hy, asIntOf, Sem.run_bind, Sem.run_pure, Result.andThen_ok, run_underlying hun]
    rw [if_pos ⟨h0, h1⟩]
    simp only [Sem.run_bind, sizeOf, typeInfo, run_program, hq, Sem.run_pure, Result.andThen_ok, hqs]
    rw [run_part (v := u) hs (by simpa using hg)]
    rfl
  · cases ht
end
end Go.Proofs.YthdgllldpfeelaaGreatDoor
/- Regions that draw their order: what is looked at early. No condition. -/
set_option linter.unusedVariables false
set_option linter.unusedSimpArgs false
namespace Go.Proofs.YthdgllldpfeelaaGreatDoor
open Go
/-- May one come up ahead of another, so far as is seen? -/
def frB (ops : Array Oper) (j i : Nat) : Bool := !(onB ops j i || (List.range ops.size).any fun m => onB ops j m && onB ops m i)
section
variable {P : Program} {ops : Array Oper} {Q : Exit → Act → World → Prop}
/-- Whichever order is picked from here on; each operation but 'q' leaves standing what those look at that may still come. -/
def wpE (P : Program) (ops : Array Oper) (Q : Exit → Act → World → Prop) (S : Nat → World → Prop) (q : Nat) : Nat → Array Bool → Act → World → Prop
  | 0, listed, a, w => Region.ready .any ops listed = [] ∧ Q .normal a w
  | fuel + 1, listed, a, w => (Region.ready .any ops listed = [] → Q .normal a w) ∧
    ∀ i ∈ Region.ready .any ops listed, wpOp P ops Q i (fun a' w' => (i = q ∨ ∀ x, frB ops i x = true → S x w → S x w') ∧ wpE P ops Q S q fuel (listed.setIfInBounds i true) a' w') a w
theorem wpE_any {S : Nat → World → Prop} {q : Nat} : ∀ (fuel : Nat) (listed : Array Bool) (a : Act) (w : World), wpE P ops Q S q fuel listed a w → wpAny P .any ops Q fuel listed a w
  | 0, _, _, _, h => h
  | fuel + 1, _, _, _, h => ⟨h.1, fun i hi => wpOp_mono (fun a' w' h' => wpE_any fuel _ a' w' h'.2) (h.2 i hi)⟩
theorem onB_listed {listed : Array Bool} {j m : Nat} {oj : Oper} (hoj : ops[j]? = some oj) (hall : ∀ e ∈ oj.after, Region.binds .any e = true → listed.getD e.on false = true) (h : onB ops j m = true) : listed.getD m false = true := by
  unfold onB at h
  have e : ops.toList[j]? = some oj := by simpa using hoj
  rw [e] at h
  simp only [Option.map_some, Option.getD_some, List.any_eq_true, Bool.and_eq_true, beq_iff_eq] at h
  obtain ⟨ed, hm, hb, ho⟩ := h
  have h1 := hall ed (by simpa using hm) hb
  rwa [ho] at h1
theorem fr_ready {listed : Array Bool} (hcl : Closed ops listed) {i j : Nat} (hi : i ∈ Region.ready .any ops listed) (hj : j ∈ Region.ready .any ops listed) : frB ops j i = true := by
  obtain ⟨hjun, oj, hoj, hall⟩ := mem_ready.1 hj
  have h0 := (mem_ready.1 hi).1
  have no : listed.getD i false = true → False := fun h1 => by
    rcases Nat.lt_or_ge i listed.size with h' | h'
    · simp [h'] at h0 h1; rw [h0] at h1; cases h1
    · simp [Array.getElem?_eq_none h'] at h1
  unfold frB
  rw [Bool.not_eq_true', Bool.or_eq_false_iff]
  constructor
  · rw [← Bool.not_eq_true]
    intro h
    exact no (onB_listed hoj hall h)
  · rw [← Bool.not_eq_true]
    intro h
    simp only [List.any_eq_true, List.mem_range, Bool.and_eq_true] at h
    obtain ⟨m, _, h1, h2⟩ := h
    exact no (closed_on hcl (onB_listed hoj hall h1) h2)
theorem wpE_take {S : Nat → World → Prop} {q i : Nat} {oi : Oper} {v : Value} (hl : lastB ops q = true) (hi : ops[i]? = some oi) (hs : Region.noSelect ops = true)
    (hQ : ∀ c a w, Q (.panic c) (a.put oi.dst v) w → Q (.panic c) a w) :
    ∀ (fuel : Nat) (listed : Array Bool) (a : Act) (w : World), Closed ops listed →
      (∀ j oj, ops[j]? = some oj → j ≠ i → listed.getD j true = false → (∀ e ∈ oj.after, Region.binds .any e = true → e.on ≠ i) → oi.apart ops oj = true) →
      i ∈ Region.ready .any ops listed → YieldsIf P ops (S i) oi v a → S i w →
      wpE P ops Q S q fuel (listed.setIfInBounds i true) (a.put oi.dst v) w → wpE P ops Q S q (fuel + 1) listed a w := by
  have hsel := Region.noSelect_spec hs
  intro fuel
  induction fuel with
  | zero =>
    intro listed a w hcl _ hr hy hS H
    refine ⟨fun h => (by rw [h] at hr; cases hr), fun j hj => ?_⟩
    by_cases hji : j = i
    · subst hji; exact hy.wpOp hi hS ⟨.inr fun _ _ h => h, H⟩
    · have := ready_mono hj hji
      rw [H.1] at this
      cases this
  | succ fuel ih =>
    intro listed a w hcl hfree hr hy hS H
    refine ⟨fun h => (by rw [h] at hr; cases hr), fun j hj => ?_⟩
    by_cases hji : j = i
    · subst hji; exact hy.wpOp hi hS ⟨.inr fun _ _ h => h, H⟩
    · have h1 := H.2 j (ready_mono hj hji)
      obtain ⟨hjun, oj, hoj, hall⟩ := mem_ready.1 hj
      have hjq : j ≠ q := fun e => hji (by subst e; exact (lastB_spec hl hcl hj hr).symm)
      have hnot : ∀ e ∈ oj.after, Region.binds .any e = true → e.on ≠ i := fun e he hb heq => by
        have h1 := hall e he hb
        have h0 := (mem_ready.1 hr).1
        rw [heq] at h1
        rcases Nat.lt_or_ge i listed.size with h' | h'
        · simp [h'] at h0 h1; rw [h0] at h1; cases h1
        · simp [Array.getElem?_eq_none h'] at h1
      have h2 := wpOp_putIf hoj (hfree j oj hoj hji hjun hnot) (fun cs b => hsel i oi cs b hi) (fun cs b => hsel j oj cs b hoj) hQ hy h1
      have hfree' : ∀ k ok, ops[k]? = some ok → k ≠ i → (listed.setIfInBounds j true).getD k true = false →
          (∀ e ∈ ok.after, Region.binds .any e = true → e.on ≠ i) → oi.apart ops ok = true := fun k ok hk hki hun hno => by
        refine hfree k ok hk hki ?_ hno
        by_cases hjk : j = k
        · subst hjk; exact hjun
        · rw [getD_set_ne true hjk] at hun; exact hun
      refine wpOp_mono (fun a' w' h3 => ?_) h2
      have hk := h3.2.1.resolve_left hjq
      have hS' : S i w' := hk i (fr_ready hcl hr hj) hS
      refine ⟨.inr hk, ih (listed.setIfInBounds j true) a' w' (closed_set hcl hj) hfree' (ready_mono hr (Ne.symm hji)) h3.1 hS' ?_⟩
      rw [Array.setIfInBounds_comm _ _ hji]
      exact h3.2.2
end
def drE (P : Program) (ops : Array Oper) (Q : Exit → Act → World → Prop) (S : Nat → World → Prop) (q fuel : Nat) (l : List Nat) (a : Act) (w : World) : Prop :=
  lastB ops q = true → Region.noSelect ops = true → Closed ops (mask ops.size l) → wpE P ops (calmQ Q) S q fuel (mask ops.size l) a w
end Go.Proofs.YthdgllldpfeelaaGreatDoor
/- Types of data, how they lie in cells, and contexts by number. No condition. -/
set_option linter.unusedVariables false
set_option linter.unusedSimpArgs false
namespace Go.Proofs.YthdgllldpfeelaaGreatDoor
open Go

/-! ### types of data -/
inductive Ty where
  | int (k : IntKind)
  | bool
  | str
  | unit
  | arr (n : Nat) (t : Ty)
  | pair (a b : Ty)
  | sl (e : Nat) (t : Ty)
  deriving DecidableEq, Inhabited
@[reducible] def Ty.den : Ty → Type
  | .int _ => Int
  | .bool => Bool
  | .str => ByteArray
  | .unit => Unit
  | .arr n t => Vector t.den n
  | .pair a b => a.den × b.den
  | .sl _ t => List t.den
def FU : Flat Unit := ⟨0, fun _ => [], (), fun _ => rfl, fun _ _ h => by simp at h⟩
def FP {α β : Type} (F : Flat α) (G : Flat β) : Flat (α × β) :=
  ⟨F.sz + G.sz, fun x => F.cells x.1 ++ G.cells x.2, (F.dflt, G.dflt), fun x => by simp [F.len, G.len], fun x v h => by
    rcases List.mem_append.1 h with h | h
    · exact F.one _ v h
    · exact G.one _ v h⟩
def FL (α : Type) : Flat (List α) := ⟨1, fun _ => [.nilFunc], [], fun _ => rfl, fun _ v h => by simp at h; subst h; rfl⟩
def flatT : (t : Ty) → Flat t.den
  | .int k => FK k
  | .bool => FB
  | .str => FS
  | .unit => FU
  | .arr n t => FA (flatT t) n
  | .pair a b => FP (flatT a) (flatT b)
  | .sl _ t => FL t.den
def Ty.sz : Ty → Nat
  | .int _ | .bool | .str | .sl _ _ => 1
  | .unit => 0
  | .arr n t => n * t.sz
  | .pair a b => a.sz + b.sz
def Ty.flat : Ty → Bool
  | .arr _ t => t.flat
  | .pair a b => a.flat && b.flat
  | .sl _ _ => false
  | _ => true
def Ty.dflt : (t : Ty) → t.den
  | .int _ => (0 : Int)
  | .bool => false
  | .str => (⟨#[]⟩ : ByteArray)
  | .unit => ()
  | .arr n t => Vector.replicate n t.dflt
  | .pair a b => (a.dflt, b.dflt)
  | .sl _ _ => []
theorem flatT_sz : ∀ t : Ty, (flatT t).sz = t.sz
  | .int _ | .bool | .str | .unit | .sl _ _ => rfl
  | .arr n t => by simp only [flatT, FA, Ty.sz, flatT_sz t]
  | .pair a b => by simp only [flatT, FP, Ty.sz, flatT_sz a, flatT_sz b]
theorem flatT_dflt : ∀ t : Ty, (flatT t).dflt = t.dflt
  | .int _ | .bool | .str | .unit | .sl _ _ => rfl
  | .arr n t => by simp only [flatT, FA, Ty.dflt, flatT_dflt t]
  | .pair a b => by simp only [flatT, FP, Ty.dflt, flatT_dflt a, flatT_dflt b]
/-- An element of a list. -/
def at_ (t : Ty) (l : List t.den) (i : Int) : t.den := l.getD i.toNat t.dflt
def Dyn : Type := (t : Ty) × t.den
def castT {a b : Ty} (x : a.den) : Option b.den := if h : a = b then some (h ▸ x) else none
theorem castT_spec {a b : Ty} {x : a.den} {y : b.den} (h : castT x = some y) : ∃ e : a = b, e ▸ x = y := by
  unfold castT at h
  split at h
  · rename_i e; exact ⟨e, Option.some.inj h⟩
  · cases h
/-- Data of some types, one behind the other. -/
@[reducible] def HL : List Ty → Type
  | [] => Unit
  | [t] => t.den
  | t :: u :: ts => t.den × HL (u :: ts)
def toD : (ts : List Ty) → HL ts → List Dyn
  | [], _ => []
  | [t], x => [⟨t, x⟩]
  | t :: u :: ts, x => ⟨t, x.1⟩ :: toD (u :: ts) x.2
def fromD : (ts : List Ty) → List Dyn → Option (HL ts)
  | [], [] => some ()
  | [t], [d] => castT d.2
  | t :: u :: ts, d :: ds => (castT d.2 : Option t.den).bind fun x => (fromD (u :: ts) ds).bind fun y => some (x, y)
  | _, _ => none
def dfltD : (ts : List Ty) → HL ts
  | [] => ()
  | [t] => t.dflt
  | t :: u :: ts => (t.dflt, dfltD (u :: ts))
theorem castT_dyn {d : Dyn} {t : Ty} {x : t.den} (h : castT d.2 = some x) : d = ⟨t, x⟩ := by
  obtain ⟨s, y⟩ := d
  obtain ⟨rfl, rfl⟩ := castT_spec h
  rfl
theorem fromD_spec : ∀ (ts : List Ty) (ds : List Dyn) (x : HL ts), fromD ts ds = some x → toD ts x = ds
  | [], [], _, _ => rfl
  | [], _ :: _, _, h => by simp [fromD] at h
  | [t], [], _, h => by simp [fromD] at h
  | [t], [d], x, h => by simp only [fromD] at h; simp only [toD, castT_dyn h]
  | [t], _ :: _ :: _, _, h => by simp [fromD] at h
  | t :: u :: ts, [], _, h => by simp [fromD] at h
  | t :: u :: ts, d :: ds, x, h => by
    simp only [fromD, Option.bind_eq_some_iff] at h
    obtain ⟨y, hy, z, hz, he⟩ := h
    cases he
    simp only [toD, castT_dyn hy, fromD_spec (u :: ts) ds z hz]

/-! ### how data lie in cells -/
/-- A slice that must read so. -/
structure Fact where
  v : Value
  n : Nat
  sz : Nat
  cs : List Value
def RepL {α : Type} (R : α → List Value → List Fact → Prop) : List α → List Value → List Fact → Prop
  | [], cs, F => cs = [] ∧ F = []
  | x :: xs, cs, F => ∃ c1 c2 F1 F2, cs = c1 ++ c2 ∧ F = F1 ++ F2 ∧ R x c1 F1 ∧ RepL R xs c2 F2
/-- It is a slice of so many. -/
def SlV (v : Value) (n : Nat) : Prop := ∃ ao c, v = .slice ao n c ∧ (ao = none → n = 0)
theorem SlV.one {v : Value} {n : Nat} (h : SlV v n) : v.oneCell' = true := by obtain ⟨_, _, rfl, _⟩ := h; rfl
def RepP : (t : Ty) → t.den → List Value → List Fact → Prop
  | .sl _ t, xs, cs, F => ∃ v css F', cs = [v] ∧ SlV v xs.length ∧ F = ⟨v, xs.length, t.sz, css⟩ :: F' ∧ RepL (RepP t) xs css F'
  | .pair a b, x, cs, F => ∃ c1 c2 F1 F2, cs = c1 ++ c2 ∧ F = F1 ++ F2 ∧ RepP a x.1 c1 F1 ∧ RepP b x.2 c2 F2
  | .int k, x, cs, F => cs = (flatT (.int k)).cells x ∧ F = []
  | .bool, x, cs, F => cs = (flatT .bool).cells x ∧ F = []
  | .str, x, cs, F => cs = (flatT .str).cells x ∧ F = []
  | .unit, x, cs, F => cs = (flatT .unit).cells x ∧ F = []
  | .arr n t, x, cs, F => cs = (flatT (.arr n t)).cells x ∧ F = []
theorem RepL_len {α : Type} {R : α → List Value → List Fact → Prop} {s : Nat} (h : ∀ x c F, R x c F → c.length = s) : ∀ (xs : List α) (cs : List Value) (F : List Fact), RepL R xs cs F → cs.length = xs.length * s
  | [], cs, F, ⟨h1, _⟩ => by simp [h1]
  | x :: xs, cs, F, ⟨c1, c2, F1, F2, h1, _, h3, h4⟩ => by
    rw [h1, List.length_append, h x c1 F1 h3, RepL_len h xs c2 F2 h4, List.length_cons, Nat.add_mul, Nat.one_mul, Nat.add_comm]
theorem RepP_len : ∀ (t : Ty) (x : t.den) (cs : List Value) (F : List Fact), RepP t x cs F → cs.length = t.sz
  | .sl _ t, xs, cs, F, ⟨v, css, F', h, _⟩ => by simp [h, Ty.sz]
  | .pair a b, x, cs, F, ⟨c1, c2, F1, F2, h1, _, h3, h4⟩ => by rw [h1, List.length_append, RepP_len a _ _ _ h3, RepP_len b _ _ _ h4]; rfl
  | .int k, x, cs, F, ⟨h, _⟩ => by rw [h, (flatT _).len, flatT_sz]
  | .bool, x, cs, F, ⟨h, _⟩ => by rw [h, (flatT _).len, flatT_sz]
  | .str, x, cs, F, ⟨h, _⟩ => by rw [h, (flatT _).len, flatT_sz]
  | .unit, x, cs, F, ⟨h, _⟩ => by rw [h, (flatT _).len, flatT_sz]
  | .arr n t, x, cs, F, ⟨h, _⟩ => by rw [h, (flatT _).len, flatT_sz]
theorem RepL_one {α : Type} {R : α → List Value → List Fact → Prop} (h : ∀ x c F, R x c F → ∀ v ∈ c, v.oneCell' = true) : ∀ (xs : List α) (cs : List Value) (F : List Fact), RepL R xs cs F → ∀ v ∈ cs, v.oneCell' = true
  | [], cs, F, ⟨h1, _⟩ => by simp [h1]
  | x :: xs, cs, F, ⟨c1, c2, F1, F2, h1, _, h3, h4⟩ => by
    intro v hv
    rw [h1] at hv
    rcases List.mem_append.1 hv with hv | hv
    · exact h x c1 F1 h3 v hv
    · exact RepL_one h xs c2 F2 h4 v hv
theorem RepP_one : ∀ (t : Ty) (x : t.den) (cs : List Value) (F : List Fact), RepP t x cs F → ∀ v ∈ cs, v.oneCell' = true
  | .sl _ t, xs, cs, F, ⟨v, css, F', h, h1, _⟩ => by simp [h, h1.one]
  | .pair a b, x, cs, F, ⟨c1, c2, F1, F2, h1, _, h3, h4⟩ => by
    intro v hv
    rw [h1] at hv
    rcases List.mem_append.1 hv with hv | hv
    · exact RepP_one a _ _ _ h3 v hv
    · exact RepP_one b _ _ _ h4 v hv
  | .int k, x, cs, F, ⟨h, _⟩ => by rw [h]; exact (flatT _).one x
  | .bool, x, cs, F, ⟨h, _⟩ => by rw [h]; exact (flatT _).one x
  | .str, x, cs, F, ⟨h, _⟩ => by rw [h]; exact (flatT _).one x
  | .unit, x, cs, F, ⟨h, _⟩ => by rw [h]; exact (flatT _).one x
  | .arr n t, x, cs, F, ⟨h, _⟩ => by rw [h]; exact (flatT _).one x
theorem RepP_flat : ∀ (t : Ty), t.flat = true → ∀ (x : t.den) (cs : List Value) (F : List Fact), RepP t x cs F ↔ cs = (flatT t).cells x ∧ F = []
  | .sl _ t, h, _, _, _ => by simp [Ty.flat] at h
  | .pair a b, h, x, cs, F => by
    simp only [Ty.flat, Bool.and_eq_true] at h
    constructor
    · rintro ⟨c1, c2, F1, F2, rfl, rfl, h3, h4⟩
      obtain ⟨rfl, rfl⟩ := (RepP_flat a h.1 _ _ _).1 h3
      obtain ⟨rfl, rfl⟩ := (RepP_flat b h.2 _ _ _).1 h4
      exact ⟨rfl, rfl⟩
    · rintro ⟨rfl, rfl⟩
      exact ⟨_, _, [], [], rfl, rfl, (RepP_flat a h.1 _ _ _).2 ⟨rfl, rfl⟩, (RepP_flat b h.2 _ _ _).2 ⟨rfl, rfl⟩⟩
  | .int k, _, x, cs, F => Iff.rfl
  | .bool, _, x, cs, F => Iff.rfl
  | .str, _, x, cs, F => Iff.rfl
  | .unit, _, x, cs, F => Iff.rfl
  | .arr n t, _, x, cs, F => Iff.rfl
theorem RepL_flat (t : Ty) (h : t.flat = true) : ∀ (xs : List t.den) (cs : List Value) (F : List Fact), RepL (RepP t) xs cs F ↔ cs = xs.flatMap (flatT t).cells ∧ F = []
  | [], cs, F => Iff.rfl
  | x :: xs, cs, F => by
    simp only [RepL]
    constructor
    · rintro ⟨c1, c2, F1, F2, rfl, rfl, h3, h4⟩
      obtain ⟨rfl, rfl⟩ := (RepP_flat t h _ _ _).1 h3
      obtain ⟨rfl, rfl⟩ := (RepL_flat t h _ _ _).1 h4
      simp
    · rintro ⟨rfl, rfl⟩
      exact ⟨_, _, [], [], by simp, rfl, (RepP_flat t h _ _ _).2 ⟨rfl, rfl⟩, (RepL_flat t h xs _ _).2 ⟨rfl, rfl⟩⟩
theorem RepL_app {α : Type} {R : α → List Value → List Fact → Prop} : ∀ (xs ys : List α) (cs ds : List Value) (F G : List Fact), RepL R xs cs F → RepL R ys ds G → RepL R (xs ++ ys) (cs ++ ds) (F ++ G)
  | [], ys, cs, ds, F, G, ⟨h1, h2⟩, k => by subst h1 h2; exact k
  | x :: xs, ys, cs, ds, F, G, ⟨c1, c2, F1, F2, h1, h2, h3, h4⟩, k => by
    subst h1 h2
    exact ⟨c1, c2 ++ ds, F1, F2 ++ G, by simp, by simp, h3, RepL_app xs ys c2 ds F2 G h4 k⟩
theorem RepL_split {α : Type} {R : α → List Value → List Fact → Prop} {s : Nat} (hl : ∀ x c F, R x c F → c.length = s) : ∀ (n : Nat) (xs : List α) (cs : List Value) (F : List Fact), RepL R xs cs F →
    ∃ F1 F2, F = F1 ++ F2 ∧ RepL R (xs.take n) (cs.take (n * s)) F1 ∧ RepL R (xs.drop n) (cs.drop (n * s)) F2
  | 0, xs, cs, F, h => ⟨[], F, rfl, by simp [RepL], by simpa using h⟩
  | n + 1, [], cs, F, ⟨h1, h2⟩ => ⟨[], [], h2, by simp [h1, RepL], by simp [h1, RepL]⟩
  | n + 1, x :: xs, cs, F, ⟨c1, c2, F1, F2, h1, h2, h3, h4⟩ => by
    obtain ⟨G1, G2, e, k1, k2⟩ := RepL_split hl n xs c2 F2 h4
    have hc := hl x c1 F1 h3
    refine ⟨F1 ++ G1, G2, by rw [h2, e, List.append_assoc], ?_, ?_⟩
    · refine ⟨c1, c2.take (n * s), F1, G1, ?_, rfl, h3, k1⟩
      rw [h1, List.take_append, hc, Nat.add_mul, Nat.one_mul, Nat.add_sub_cancel, List.take_of_length_le (by omega)]
    · have hz : c1.drop (n * s + s) = [] := List.drop_eq_nil_of_le (by omega)
      rw [h1, List.drop_append, hc, Nat.add_mul, Nat.one_mul, Nat.add_sub_cancel, hz, List.nil_append]
      exact k2
theorem RepL_get {α : Type} {R : α → List Value → List Fact → Prop} {s : Nat} (hl : ∀ x c F, R x c F → c.length = s) (xs : List α) (cs : List Value) (F : List Fact) (h : RepL R xs cs F) (i : Nat) (hi : i < xs.length) :
    ∃ F1, R (xs[i]) ((cs.drop (i * s)).take s) F1 ∧ ∀ f ∈ F1, f ∈ F := by
  obtain ⟨F1, F2, e, _, k2⟩ := RepL_split hl i xs cs F h
  rw [List.drop_eq_getElem_cons hi] at k2
  obtain ⟨c1, c2, G1, G2, e1, e2, k3, _⟩ := k2
  refine ⟨G1, ?_, fun f hf => by rw [e, e2]; simp [hf]⟩
  rw [e1, List.take_append_of_le_length (by rw [hl _ _ _ k3]; exact Nat.le_refl _), List.take_of_length_le (by rw [hl _ _ _ k3]; exact Nat.le_refl _)]
  exact k3

/-! ### what is read -/
def factsE (l : Bool) (F : List Fact) : Ent :=
  ⟨fun x => ∃ f ∈ F, f.cs ≠ [] ∧ addrOf f.v = some x, fun w => ∀ f ∈ F, Rds f.v f.n f.sz f.cs w,
   fun w h x ⟨f, hf, hx⟩ => (rdE l f.v f.n f.sz f.cs).lt w (h f hf) x hx,
   fun w w' h k f hf => (rdE l f.v f.n f.sz f.cs).loc w w' (h f hf) (fun b hb => k b ⟨f, hf, hb⟩), l⟩

/-! ### contexts by number -/
structure CtxF (w0 : World) (D A : Nat → Prop) (L R : Nat → Ent) (w : World) : Prop where
  fr : Fr D w0 w
  okL : ∀ i, (L i).ok w
  okR : ∀ i, (R i).ok w
  mine : ∀ i b, (L i).dom b → D b ∨ w0.heap.size ≤ b
  sepL : ∀ i j, i ≠ j → ∀ b, (L i).dom b → ¬ (L j).dom b
  sepR : ∀ i j b, (L i).dom b → ¬ (R j).dom b
  src : ∀ i, (R i).lent = false → ∀ b, (R i).dom b → A b ∨ D b ∨ w0.heap.size ≤ b
section
variable {w0 w w' : World} {D A : Nat → Prop} {L R L' R' : Nat → Ent}
theorem cf_still (C : CtxF w0 D A L R w) (h : Fr nob w w') : CtxF w0 D A L R w' :=
  ⟨C.fr.then h, fun i => (L i).keep (C.okL i) h (fun _ _ => id), fun i => (R i).keep (C.okR i) h (fun _ _ => id), C.mine, C.sepL, C.sepR, C.src⟩
/-- One entry of what is owned is another one now; whatever else is new is read. -/
theorem cf_set (i : Nat) {E' : Ent} (C : CtxF w0 D A L R w) (h : Fr (L i).dom w w') (ok' : E'.ok w') (hd : ∀ b, E'.dom b → (L i).dom b ∨ w.heap.size ≤ b)
    (hL : ∀ j, j ≠ i → L' j = L j) (hi : L' i = E') : CtxF w0 D A L' R w' := by
  have get : ∀ j, (j = i ∧ L' j = E') ∨ (j ≠ i ∧ L' j = L j) := fun j => by
    by_cases e : j = i
    · subst e; exact .inl ⟨rfl, hi⟩
    · exact .inr ⟨e, hL j e⟩
  refine ⟨C.fr.trans h (fun x hx => C.mine i x hx), ?_, ?_, ?_, ?_, ?_, C.src⟩
  · intro j
    rcases get j with ⟨_, e⟩ | ⟨hne, e⟩ <;> rw [e]
    · exact ok'
    · exact (L j).keep (C.okL j) h (C.sepL j i hne)
  · intro j
    exact (R j).keep (C.okR j) h (fun b hF hE => C.sepR i j b hE hF)
  · intro j b hb
    rcases get j with ⟨_, e⟩ | ⟨hne, e⟩ <;> rw [e] at hb
    · rcases hd b hb with h1 | h1
      · exact C.mine i b h1
      · exact .inr (Nat.le_trans C.fr.size h1)
    · exact C.mine j b hb
  · intro j k hjk b hb hb'
    rcases get j with ⟨rfl, e⟩ | ⟨hne, e⟩ <;> rw [e] at hb <;> rcases get k with ⟨rfl, e'⟩ | ⟨hne', e'⟩ <;> rw [e'] at hb'
    · exact hjk rfl
    · rcases hd b hb with h1 | h1
      · exact C.sepL _ _ hjk b h1 hb'
      · have := (L k).lt w (C.okL k) b hb'; omega
    · rcases hd b hb' with h1 | h1
      · exact C.sepL _ _ hjk b hb h1
      · have := (L j).lt w (C.okL j) b hb; omega
    · exact C.sepL j k hjk b hb hb'
  · intro j k b hb hb'
    rcases get j with ⟨_, e⟩ | ⟨hne, e⟩ <;> rw [e] at hb
    · rcases hd b hb with h1 | h1
      · exact C.sepR i k b h1 hb'
      · have := (R k).lt w (C.okR k) b hb'; omega
    · exact C.sepR j k b hb hb'
/-- E says no more than F. -/
structure Sub1 (E F : Ent) (w : World) : Prop where
  ok : F.ok w → E.ok w
  dom : ∀ b, E.dom b → F.dom b
theorem Sub1.refl (E : Ent) (w : World) : Sub1 E E w := ⟨id, fun _ => id⟩
theorem Sub1.nil (F : Ent) (w : World) : Sub1 Ent.nil F w := ⟨fun _ => trivial, fun _ h => h.elim⟩
/-- The entries anew: what is owned is what was (each once), or nothing; what is read was read, or was owned and is not any more. -/
theorem cf_remap (C : CtxF w0 D A L R w) (σ : Nat → Nat)
    (hL : ∀ i, (∀ b, ¬ (L' i).dom b) ∧ (L' i).ok w ∨ Sub1 (L' i) (L (σ i)) w)
    (hinj : ∀ i j, i ≠ j → (∃ b, (L' i).dom b) → (∃ b, (L' j).dom b) → σ i ≠ σ j)
    (hR : ∀ i, (∀ b, ¬ (R' i).dom b) ∧ (R' i).ok w ∨ (∃ j, Sub1 (R' i) (R j) w ∧ ((R' i).lent = false → (R j).lent = false)) ∨ (∃ j, Sub1 (R' i) (L j) w ∧ ∀ k, (∃ b, (L' k).dom b) → σ k ≠ j)) :
    CtxF w0 D A L' R' w := by
  have own : ∀ i b, (L' i).dom b → (L (σ i)).dom b := fun i b hb => by
    rcases hL i with ⟨h, _⟩ | h
    · exact (h b hb).elim
    · exact h.dom b hb
  refine ⟨C.fr, ?_, ?_, fun i b hb => C.mine _ b (own i b hb), fun i j hij b hb hb' => C.sepL _ _ (hinj i j hij ⟨b, hb⟩ ⟨b, hb'⟩) b (own i b hb) (own j b hb'), ?_, ?_⟩
  · intro i
    rcases hL i with ⟨_, h⟩ | h
    · exact h
    · exact h.ok (C.okL _)
  · intro i
    rcases hR i with ⟨_, h⟩ | ⟨j, h, _⟩ | ⟨j, h, _⟩
    · exact h
    · exact h.ok (C.okR _)
    · exact h.ok (C.okL _)
  · intro i j b hb hb'
    rcases hR j with ⟨h, _⟩ | ⟨k, h, _⟩ | ⟨k, h, hk⟩
    · exact h b hb'
    · exact C.sepR _ k b (own i b hb) (h.dom b hb')
    · exact C.sepL _ k (hk i ⟨b, hb⟩) b (own i b hb) (h.dom b hb')
  · intro i hl b hb
    rcases hR i with ⟨h, _⟩ | ⟨k, h, hf⟩ | ⟨k, h, hk⟩
    · exact (h b hb).elim
    · exact C.src k (hf hl) b (h.dom b hb)
    · exact .inr (C.mine k b (h.dom b hb))
def domF (L : Nat → Ent) : Nat → Prop := fun b => ∃ i, (L i).dom b
def freeF (R : Nat → Ent) : Nat → Prop := fun b => ∃ i, (R i).lent = false ∧ (R i).dom b
/-- What a call is given: of what is owned some (σ), each once; of what is read some, or, lent, of what is owned and isn't given. -/
structure Lend (w : World) (L R Lp Rp : Nat → Ent) (σ : Nat → Nat) : Prop where
  own : ∀ i, (∀ b, ¬ (Lp i).dom b) ∧ (Lp i).ok w ∨ Lp i = L (σ i)
  inj : ∀ i j, i ≠ j → (∃ b, (Lp i).dom b) → (∃ b, (Lp j).dom b) → σ i ≠ σ j
  rd : ∀ i, (Rp i).ok w ∧ ∀ b, (Rp i).dom b → (∃ j, (R j).dom b ∧ ((Rp i).lent = false → (R j).lent = false)) ∨
    ((Rp i).lent = true ∧ ∃ j, (L j).dom b ∧ ∀ k, (∃ b, (Lp k).dom b) → σ k ≠ j)
theorem cf_lend {Lp Rp : Nat → Ent} {σ : Nat → Nat} (C : CtxF w0 D A L R w) (h : Lend w L R Lp Rp σ) : CtxF w (domF Lp) (freeF Rp) Lp Rp w := by
  have own : ∀ i b, (Lp i).dom b → (L (σ i)).dom b := fun i b hb => by
    rcases h.own i with ⟨h, _⟩ | h
    · exact (h b hb).elim
    · rwa [← h]
  refine ⟨Fr.refl _ _, ?_, ?_, fun i b hb => .inl ⟨i, hb⟩, fun i j hij b hb hb' => C.sepL _ _ (h.inj i j hij ⟨b, hb⟩ ⟨b, hb'⟩) b (own i b hb) (own j b hb'), ?_, fun i hl b hb => .inl ⟨i, hl, hb⟩⟩
  · intro i
    rcases h.own i with ⟨_, h⟩ | h
    · exact h
    · rw [h]; exact C.okL _
  · intro i
    exact (h.rd i).1
  · intro i j b hb hb'
    rcases (h.rd j).2 b hb' with ⟨k, h, _⟩ | ⟨_, k, h, hk⟩
    · exact C.sepR _ k b (own i b hb) h
    · exact C.sepL _ k (hk i ⟨b, hb⟩) b (own i b hb) h
/-- Behind the call: fc tells which of the call's entries stands where; what was given and doesn't come back is gone. -/
theorem cf_back {Lp Rp Lo Ro : Nat → Ent} {σ : Nat → Nat} (fc : Nat → Nat → Prop) (C : CtxF w0 D A L R w) (h : Lend w L R Lp Rp σ) (CC : CtxF w (domF Lp) (freeF Rp) Lo Ro w')
    (hL : ∀ i, (∀ b, ¬ (L' i).dom b) ∧ (L' i).ok w' ∨ (∃ j, fc i j ∧ L' i = Lo j) ∨ (L' i = L i ∧ ∀ k, (∃ b, (Lp k).dom b) → σ k ≠ i))
    (hinj : ∀ i i' j, fc i j → fc i' j → i = i')
    (hR : ∀ i, (∀ b, ¬ (R' i).dom b) ∧ (R' i).ok w' ∨ R' i = R i ∨ ∃ j, R' i = Ro j ∧ (R' i).lent = false) : CtxF w0 D A L' R' w' := by
  have own : ∀ b, domF Lp b → ∃ i, (∃ b, (Lp i).dom b) ∧ (L (σ i)).dom b := by
    rintro b ⟨i, hb⟩
    rcases h.own i with ⟨h, _⟩ | h
    · exact (h b hb).elim
    · exact ⟨i, ⟨b, hb⟩, by rwa [← h]⟩
  have away : ∀ i, (∀ k, (∃ b, (Lp k).dom b) → σ k ≠ i) → ∀ b, (L i).dom b → ¬ domF Lp b := by
    intro i hi b hb ha
    obtain ⟨k, hk, hkb⟩ := own b ha
    exact C.sepL i (σ k) (hi k hk).symm b hb hkb
  have awayR : ∀ i b, (R i).dom b → ¬ domF Lp b := by
    intro i b hb ha
    obtain ⟨k, _, hkb⟩ := own b ha
    exact C.sepR (σ k) i b hkb hb
  have where_ : ∀ i b, (L' i).dom b → (∃ j, fc i j ∧ L' i = Lo j ∧ (Lo j).dom b) ∨ (L' i = L i ∧ (L i).dom b ∧ ∀ k, (∃ b, (Lp k).dom b) → σ k ≠ i) := by
    intro i b hb
    rcases hL i with ⟨h, _⟩ | ⟨j, hf, e⟩ | ⟨e, hk⟩
    · exact (h b hb).elim
    · exact .inl ⟨j, hf, e, e ▸ hb⟩
    · exact .inr ⟨e, e ▸ hb, hk⟩
  have cross : ∀ i j b, (L i).dom b → (∀ k, (∃ b, (Lp k).dom b) → σ k ≠ i) → ¬ (Lo j).dom b := by
    intro i j b hb hk hb'
    rcases CC.mine j b hb' with h1 | h1
    · exact away i hk b hb h1
    · have := (L i).lt w (C.okL i) b hb; omega
  refine ⟨C.fr.trans CC.fr (fun x hx => ?_), ?_, ?_, ?_, ?_, ?_, ?_⟩
  · obtain ⟨i, _, hb⟩ := own x hx
    exact C.mine _ x hb
  · intro i
    rcases hL i with ⟨_, h⟩ | ⟨j, _, e⟩ | ⟨e, hk⟩
    · exact h
    · rw [e]; exact CC.okL j
    · rw [e]; exact (L i).keep (C.okL i) CC.fr (fun b hb => away i hk b hb)
  · intro i
    rcases hR i with ⟨_, h⟩ | e | ⟨j, e, _⟩
    · exact h
    · rw [e]; exact (R i).keep (C.okR i) CC.fr (fun b hb => awayR i b hb)
    · rw [e]; exact CC.okR j
  · intro i b hb
    rcases where_ i b hb with ⟨j, _, _, hb⟩ | ⟨_, hb, _⟩
    · rcases CC.mine j b hb with h1 | h1
      · obtain ⟨k, _, hkb⟩ := own b h1; exact C.mine _ b hkb
      · exact .inr (Nat.le_trans C.fr.size h1)
    · exact C.mine i b hb
  · intro i i' hij b hb hb'
    rcases where_ i b hb with ⟨j, e, _, hb1⟩ | ⟨e, hb1, hk⟩
    · rcases where_ i' b hb' with ⟨j', e', _, hb2⟩ | ⟨e', hb2, hk'⟩
      · by_cases hjj : j = j'
        · subst hjj; exact hij (hinj i i' j e e')
        · exact CC.sepL j j' hjj b hb1 hb2
      · exact cross i' j b hb2 hk' hb1
    · rcases where_ i' b hb' with ⟨j', e', _, hb2⟩ | ⟨e', hb2, hk'⟩
      · exact cross i j' b hb1 hk hb2
      · exact C.sepL i i' hij b hb1 hb2
  · intro i i' b hb hb'
    rcases hR i' with ⟨h0, _⟩ | e | ⟨q, e, hl⟩
    · exact h0 b hb'
    · rw [e] at hb'
      rcases where_ i b hb with ⟨j, _, _, hb1⟩ | ⟨_, hb1, _⟩
      · rcases CC.mine j b hb1 with h3 | h3
        · exact awayR i' b hb' h3
        · have := (R i').lt w (C.okR i') b hb'; omega
      · exact C.sepR i i' b hb1 hb'
    · rw [e] at hb' hl
      rcases where_ i b hb with ⟨j, _, _, hb1⟩ | ⟨_, hb1, hk⟩
      · exact CC.sepR j q b hb1 hb'
      · rcases CC.src q hl b hb' with ⟨p, hpl, hpb⟩ | h3 | h3
        · rcases (h.rd p).2 b hpb with ⟨k, h1, _⟩ | ⟨h1, _⟩
          · exact C.sepR i k b hb1 h1
          · rw [hpl] at h1; cases h1
        · exact away i hk b hb1 h3
        · have := (L i).lt w (C.okL i) b hb1; omega
  · intro i hl b hb
    rcases hR i with ⟨h0, _⟩ | e | ⟨q, e, hl'⟩
    · exact (h0 b hb).elim
    · rw [e] at hb hl; exact C.src i hl b hb
    · rw [e] at hb hl
      rcases CC.src q hl b hb with ⟨p, hpl, hpb⟩ | h3 | h3
      · rcases (h.rd p).2 b hpb with ⟨k, h1, hf⟩ | ⟨h1, _⟩
        · exact C.src k (hf hpl) b h1
        · rw [hpl] at h1; cases h1
      · obtain ⟨k, _, hkb⟩ := own b h3; exact .inr (C.mine _ b hkb)
      · exact .inr (.inr (Nat.le_trans C.fr.size h3))
end
end Go.Proofs.YthdgllldpfeelaaGreatDoor
/- States by signs: what a walk knows of a frame and of memory; what the operations do to it. No condition. -/
set_option linter.unusedVariables false
set_option linter.unusedSimpArgs false
namespace Go.Proofs.YthdgllldpfeelaaGreatDoor
open Go

/-! ### values by signs -/
/-- What fills a part of a variable: data; a slice; a place in a variable; nothing. -/
inductive At where
  | fl (t : Ty) (x : t.den)
  | lit (b : Bool)
  | sl (o : Nat)
  | nils (e : Nat) (t : Ty)
  | nil0
  | ptr (b off : Nat)
  | asl (b off n : Nat)
  | nilp
  | nilf
  | nili
  | un
inductive V1 where
  | a (x : At)
  | elp (o sz : Nat) (i : Int) (off : Nat)
  | arp (b off : Nat) (t : Ty) (n : Nat) (i : Int)
  | fn (f : Nat) (fs cs : List At)
  | st (ls : List At)
inductive SV where
  | v (x : V1)
  | tup (xs : List V1)
inductive Md where
  | own
  | rd
  | lent
  deriving DecidableEq
/-- A variable; a row of a slice (full: as many places as elements); what is no more. -/
inductive Ob where
  | box (T : Nat) (ls : List At)
  | row (e : Nat) (t : Ty) (xs : List t.den) (m : Md) (full : Bool)
  | gone
/-- From here on a row's number of a type says that a mark lies behind its cells (as behind those made of a string). -/
def mB : Nat := 1000000
/-! ### shapes -/
inductive ASh where
  | fl (t : Ty)
  | sl (o : Nat)
  | ptr (b off : Nat)
  | asl (b off n : Nat)
  | nil0
  | nilp
  | nilf
  | nili
  | un
  deriving DecidableEq
inductive VSh where
  | a (x : ASh)
  | fn (f : Nat) (fs cs : List ASh)
  | st (ls : List ASh)
  deriving DecidableEq
inductive SSh where
  | v (x : VSh)
  | tup (xs : List VSh)
  deriving DecidableEq
inductive OSh where
  | box (T : Nat) (ls : List ASh)
  | row (e : Nat) (t : Ty) (m : Md)
  | gone
  deriving DecidableEq
structure NSh where
  slots : List (Nat × SSh)
  boxes : List (Nat × OSh)
  news : List OSh
  deriving DecidableEq
inductive Ek where
  | normal
  | exit (i : Nat)
  | ret
  deriving DecidableEq
/-- Classes of ends: their shapes; what of the base is written; which of its rows stay. -/
structure Cls where
  cls : List (Ek × NSh)
  M : List Nat
  sy : List Nat
  deriving DecidableEq
/-- The way of a walk, told ahead: where ways meet, in which classes; what a loop's heads are. -/
inductive Plan where
  | nil
  | b (ps : List Plan)
  | n (p : Plan)
  | j (c : Cls) (p : Plan) (ps : List Plan)
  | l (hd oc : Cls) (hs os : List Plan)
  | r (hd oc : Cls) (hs ns os : List Plan)
  | d (st : List Nat) (ex : List (Nat × List Nat)) (tab : List (Nat × Nat)) (p : Plan)
  | t (p : Plan)
def Plan.kid : Plan → Nat → Plan
  | .b ps, i => ps.getD i .nil
  | _, _ => .nil
structure GV where
  v : Value
  one : v.oneCell' = true
  b : Nat
  cs : List Value
  fs : List Fact
abbrev Env := Nat → GV
def stor : At → Bool
  | .un => false
  | _ => true
def encA (g : Env) : At → List Value
  | .fl t x => (flatT t).cells x
  | .lit b => [.bool b]
  | .sl o => [(g o).v]
  | .nils _ _ => [.slice none 0 0]
  | .nil0 => [.slice none 0 0]
  | .ptr b off => [.pointer (some ⟨(g b).b, off, none⟩)]
  | .asl b off n => [.slice (some ⟨(g b).b, off, none⟩) n n]
  | .nilp => [.pointer none]
  | .nilf => [.nilFunc]
  | .nili => [.nilIface]
  | .un => [undef]
def encL (g : Env) (ls : List At) : List Value := ls.flatMap (encA g)
def val1 (g : Env) : At → Value
  | .fl (.int k) x => .int k x
  | .fl .bool x => .bool x
  | .fl .str x => .string x
  | .fl (.sl _ _) _ => .nilFunc
  | .fl .unit x => .agg ((flatT .unit).cells x).toArray
  | .fl (.arr n t) x => .agg ((flatT (.arr n t)).cells x).toArray
  | .fl (.pair a b) x => .agg ((flatT (.pair a b)).cells x).toArray
  | .lit b => .bool b
  | .sl o => (g o).v
  | .nils _ _ => .slice none 0 0
  | .nil0 => .slice none 0 0
  | .ptr b off => .pointer (some ⟨(g b).b, off, none⟩)
  | .asl b off n => .slice (some ⟨(g b).b, off, none⟩) n n
  | .nilp => .pointer none
  | .nilf => .nilFunc
  | .nili => .nilIface
  | .un => undef
def encV (g : Env) : V1 → Value
  | .a x => val1 g x
  | .elp o sz i off => .pointer (some ((elemA (g o).v (i.toNat * sz)).add off))
  | .arp b off t n i => .pointer (some ⟨(g b).b, off + i.toNat * t.sz, none⟩)
  | .fn f fs cs => .func (.func f) (fs.map (val1 g)).toArray (cs.map (val1 g)).toArray
  | .st ls => .agg (encL g ls).toArray
def encS (g : Env) : SV → Value
  | .v x => encV g x
  | .tup xs => .tuple (xs.map (encV g)).toArray
structure St where
  slots : List (Nat × SV)
  obs : List Ob
  mods : List Nat
  pl : Plan
def At.sz : At → Nat
  | .fl t _ => t.sz
  | _ => 1
def St.ob (S : St) (i : Nat) : Ob := S.obs.getD i .gone
def lookS : List (Nat × SV) → Nat → Option SV
  | [], _ => none
  | (i, v) :: m, t => if i == t then some v else lookS m t
def delS : List (Nat × SV) → Nat → List (Nat × SV)
  | [], _ => []
  | (i, v) :: m, t => if i == t then delS m t else (i, v) :: delS m t
def putS (m : List (Nat × SV)) : Option Nat → SV → List (Nat × SV)
  | none, _ => m
  | some d, v => (d, v) :: delS m d
def St.kid (S : St) (i : Nat) : St := { S with pl := S.pl.kid i }
def St.to (S : St) (p : Plan) : St := { S with pl := p }
def St.put (S : St) (d : Option Nat) (v : SV) : St := { S with slots := putS S.slots d v }
def St.add (S : St) (news : List Ob) : St := { S with obs := S.obs ++ news }
def St.setOb (S : St) (i : Nat) (o : Ob) : St := { S with obs := S.obs.set i o, mods := i :: S.mods }
@[reducible] def int64 : Ty := .int .i64
def SV.int (k : IntKind) (x : Int) : SV := .v (.a (.fl (.int k) x))
def SV.bool (b : Bool) : SV := .v (.a (.fl .bool b))
def SV.lit (b : Bool) : SV := .v (.a (.lit b))
def SV.str (s : ByteArray) : SV := .v (.a (.fl .str s))

/-! ### types -/
def pairs : List Ty → Ty
  | [] => .unit
  | [t] => t
  | t :: ts => .pair t (pairs ts)
def tyOf (P : Program) : Nat → TypeId → Option Ty
  | 0, _ => none
  | d + 1, t => match P.underlying t with
    | some .bool => some .bool
    | some (.int k) => some (.int k)
    | some .string => some .str
    | some (.array n e) => (tyOf P d e).bind fun u => if u.flat then some (.arr n u) else none
    | some (.slice e) => (tyOf P d e).map (.sl e)
    | some (.struct fs) => ((fs.toList.map (·.type)).mapM (tyOf P d)).map pairs
    | _ => none
def depth : Nat := 8
def nilOf (P : Program) (t : TypeId) : At :=
  match P.underlying t with
  | some (.slice e) => match tyOf P depth e with
    | some u => .nils e u
    | none => .nil0
  | _ => .nil0
def typed (P : Program) (t : TypeId) : At → At
  | .nil0 => nilOf P t
  | a => a
def typedV (P : Program) (t : TypeId) : SV → SV
  | .v (.a x) => .v (.a (typed P t x))
  | v => v
def refA : At → List Nat
  | .sl o => [o]
  | .ptr b _ => [b]
  | .asl b _ _ => [b]
  | _ => []
def zeroL (P : Program) : Nat → TypeId → Option (List At)
  | 0, _ => none
  | d + 1, t => match P.underlying t with
    | some .bool => some [.lit false]
    | some (.int k) => some [.fl (.int k) (0 : Int)]
    | some .string => some [.fl .str (⟨#[]⟩ : ByteArray)]
    | some (.pointer _) => some [.nilp]
    | some (.slice _) => some [nilOf P t]
    | some (.func _ _ _) => some [.nilf]
    | some (.interface _) => some [.nili]
    | some (.array n e) => (tyOf P d t).map fun u => [.fl u u.dflt]
    | some (.struct fs) => ((fs.toList.map (·.type)).mapM (zeroL P d)).map List.flatten
    | _ => none
def cellsOf (P : Program) (t : TypeId) : Option Nat := (P.info? t).map (·.size)
def sameV : Value → Value → Bool
  | .int k a, .int l b => decide (k = l ∧ a = b)
  | .bool a, .bool b => decide (a = b)
  | .string a, .string b => decide (a.data.toList = b.data.toList)
  | .pointer none, .pointer none => true
  | .slice none 0 0, .slice none 0 0 => true
  | .nilFunc, .nilFunc => true
  | .nilIface, .nilIface => true
  | _, _ => false
def sameVs : List Value → List Value → Bool
  | [], [] => true
  | a :: as, b :: bs => sameV a b && sameVs as bs
  | _, _ => false
def env0 : Env := fun _ => ⟨.nilFunc, rfl, 0, [], []⟩
/-- The leaves of a type's zero value. -/
def zeroK (P : Program) (t : TypeId) : Option (List At) :=
  match zeroL P depth t, zeroC P t with
  | some ls, some cs => if sameVs cs (encL env0 ls) && ls.all stor && (ls.flatMap refA).isEmpty then some ls else none
  | _, _ => none
/-- Is it the zero value of a type that is told by data? -/
def zeroD (P : Program) (t : TypeId) (u : Ty) : Bool :=
  match zeroC P t with
  | some cs => sameVs cs ((flatT u).cells u.dflt)
  | none => false

/-! ### operands -/
def cst : Value → Option At
  | .int k n => some (.fl (.int k) n)
  | .bool b => some (.lit b)
  | .string s => some (.fl .str s)
  | .slice none 0 0 => some .nil0
  | .pointer none => some .nilp
  | .nilFunc => some .nilf
  | .nilIface => some .nili
  | _ => none
/-- From here on slots stand for what others keep. -/
def shift : Nat := 5000
/-- From here on slots speak of variables of the package: that of block g at a number that is g, but for shifts. -/
def rG : Nat := 1000 * shift
/-- A variable of the package: the slot that speaks of it. -/
def lookG (l : List (Nat × SV)) (b : Nat) : Option SV :=
  match l.find? fun p => decide (rG ≤ p.1) && decide (p.1 % shift = b) with
  | some p => match lookS l p.1 with
    | some (.v (.a (.ptr o 0))) => some (.v (.a (.ptr o 0)))
    | _ => none
  | none => none
def opA (S : St) : Operand → Option SV
  | .tmp t => if t < shift then lookS S.slots t else none
  | .const v => (cst v).map fun a => .v (.a a)
  | .func f => some (.v (.fn f [] []))
  | .global b => lookG S.slots b
/-- A value that is told whole by a value of the model. -/
def plain : SV → Option Value
  | .v (.a (.fl (.int k) x)) => some (.int k x)
  | .v (.a (.fl .bool b)) => some (.bool b)
  | .v (.a (.lit b)) => some (.bool b)
  | .v (.a (.fl .str s)) => some (.string s)
  | .v (.a .nilp) => some (.pointer none)
  | .v (.a .nilf) => some .nilFunc
  | _ => none
def unplain : Value → Option SV
  | .int k n => some (.int k n)
  | .bool b => some (.bool b)
  | .string s => some (.str s)
  | _ => none

/-! ### segments of leaves -/
def takeL : List At → Nat → Option (List At)
  | _, 0 => some []
  | [], _ => none
  | a :: ls, n + 1 => if a.sz ≤ n + 1 then (takeL ls (n + 1 - a.sz)).map (a :: ·) else none
def skipL : List At → Nat → Option (List At)
  | ls, 0 => some ls
  | [], _ => none
  | a :: ls, n + 1 => if a.sz ≤ n + 1 then skipL ls (n + 1 - a.sz) else none
def segL (ls : List At) (off n : Nat) : Option (List At) := (skipL ls off).bind fun r => takeL r n
def sizeL (ls : List At) : Nat := (ls.map At.sz).sum
/-- Other leaves from a place on, as many cells as they have. -/
def splL (ls : List At) (off : Nat) (us : List At) : Option (List At) :=
  (takeL ls off).bind fun pre => (skipL ls off).bind fun r => (takeL r (sizeL us)).bind fun _ => (skipL r (sizeL us)).map fun post => pre ++ us ++ post
def leafs : SV → Option (List At)
  | .v (.a x) => if stor x then some [x] else none
  | .v (.st ls) => if ls.all stor then some ls else none
  | _ => none
/-- It fills one cell, with its value. -/
def oneA : At → Bool
  | .fl (.int _) _ | .fl .bool _ | .fl .str _ => true
  | .fl _ _ | .un => false
  | _ => true
/-- What some leaves are, at a type. -/
def ofLeafs (P : Program) (t : TypeId) (ls : List At) : Option SV :=
  match isTy P t with
  | 5 => some (.v (.st ls))
  | 6 => match ls with
    | [.fl (.arr n u) x] => some (.v (.a (.fl (.arr n u) x)))
    | _ => none
  | 0 => none
  | _ => match ls with
    | [a] => if oneA a then some (.v (.a a)) else none
    | _ => none
def refV : V1 → List Nat
  | .a x => refA x
  | .elp o _ _ _ => [o]
  | .arp b _ _ _ _ => [b]
  | .fn _ fs cs => fs.flatMap refA ++ cs.flatMap refA
  | .st ls => ls.flatMap refA
def refS : SV → List Nat
  | .v x => refV x
  | .tup xs => xs.flatMap refV
/-- Data as leaves; the slices in it are new rows, from number n on. -/
def unpk (m : Md) : (t : Ty) → t.den → Nat → List At × List Ob
  | .pair a b, x, n => let (l1, o1) := unpk m a x.1 n; let (l2, o2) := unpk m b x.2 (n + o1.length); (l1 ++ l2, o1 ++ o2)
  | .sl e t, xs, n => ([.sl n], [.row e t xs m false])
  | .unit, _, _ => ([], [])
  | .int k, x, _ => ([.fl (.int k) x], [])
  | .bool, x, _ => ([.fl .bool x], [])
  | .str, x, _ => ([.fl .str x], [])
  | .arr n t, x, _ => ([.fl (.arr n t) x], [])
/-- A slice as data; it must be read, and not lent. -/
def packSl (S : St) (e : Nat) (t : Ty) : At → Option (List t.den)
  | .sl o => match S.ob o with
    | .row e' u xs .rd _ => if e' = e then castT (a := .sl 0 u) (b := .sl 0 t) xs else none
    | _ => none
  | .nils _ _ => some []
  | _ => none
def packB : At → Option Bool
  | .lit b => some b
  | .fl u x => castT (a := u) (b := .bool) x
  | _ => none
def packF (t : Ty) : At → Option t.den
  | .fl u x => castT (a := u) (b := t) x
  | _ => none
/-- Leaves as data: the data, and the leaves that are left. -/
def pack (S : St) : (t : Ty) → List At → Option (t.den × List At)
  | .pair a b, ls => (pack S a ls).bind fun (x, r) => (pack S b r).map fun (y, r') => ((x, y), r')
  | .unit, ls => some ((), ls)
  | .sl _ _, [] => none
  | .sl e t, a :: r => (packSl S e t a).map (·, r)
  | .bool, [] => none
  | .bool, a :: r => (packB a).map (·, r)
  | .int _, [] => none
  | .int k, a :: r => (packF (.int k) a).map (·, r)
  | .str, [] => none
  | .str, a :: r => (packF .str a).map (·, r)
  | .arr _ _, [] => none
  | .arr n t, a :: r => (packF (.arr n t) a).map (·, r)

/-! ### what only looks -/
structure Qt where
  p : Prop
  dp : Decidable p
  news : List Ob
  v : SV
def q0 (v : SV) : Qt := ⟨True, inferInstance, [], v⟩
def qp (p : Prop) [d : Decidable p] (v : SV) : Qt := ⟨p, d, [], v⟩
def fieldOff (P : Program) (t : TypeId) (f : Nat) : Option (TypeId × Nat) :=
  match P.underlying t with
  | some (.struct fs) => (fs[f]?).map fun fd => (fd.type, fd.offset)
  | _ => none
def sEq (a b : ByteArray) : Bool := a.data.toList == b.data.toList
def sLess (a b : ByteArray) : Bool := Op.bytesLess a.data.toList b.data.toList
def intS (op : BinOp) (k : IntKind) (a b : Int) : Option Qt :=
  match op with
  | .add => some (q0 (.int k (WK k (a + b))))
  | .sub => some (q0 (.int k (WK k (a - b))))
  | .mul => some (q0 (.int k (WK k (a * b))))
  | .quo => some (qp (b ≠ 0) (.int k (WK k (a.tdiv b))))
  | .rem => some (qp (b ≠ 0) (.int k (a.tmod b)))
  | .and => some (q0 (.int k (andK k a b)))
  | .or => some (q0 (.int k (orK k a b)))
  | .xor => some (q0 (.int k (xorK k a b)))
  | .andNot => some (q0 (.int k (k.wrap (BitVec.ofInt k.bits a &&& ~~~(BitVec.ofInt k.bits b)).toNat)))
  | .eql => some (q0 (.bool (a == b)))
  | .neq => some (q0 (.bool (a != b)))
  | .lss => some (q0 (.bool (decide (a < b))))
  | .leq => some (q0 (.bool (decide (a ≤ b))))
  | .gtr => some (q0 (.bool (decide (a > b))))
  | .geq => some (q0 (.bool (decide (a ≥ b))))
  | _ => none
def strS (op : BinOp) (a b : ByteArray) : Option Qt :=
  match op with
  | .add => some (qp (a.size + b.size ≤ 9223372036854775807) (.str (a ++ b)))
  | .eql => some (q0 (.bool (sEq a b)))
  | .neq => some (q0 (.bool (!(sEq a b))))
  | .lss => some (q0 (.bool (sLess a b)))
  | .leq => some (q0 (.bool (sLess a b || sEq a b)))
  | .gtr => some (q0 (.bool (!(sLess a b || sEq a b))))
  | .geq => some (q0 (.bool (!(sLess a b))))
  | _ => none
def toB : At → Option Bool
  | .fl .bool b => some b
  | .lit b => some b
  | _ => none
def nilCmp (op : BinOp) (same : Bool) : Option Qt :=
  match op with
  | .eql => some (q0 (.lit same))
  | .neq => some (q0 (.lit (!same)))
  | _ => none
/-- A part of leaves, at a type. -/
def partS (P : Program) (ls : List At) (ft : TypeId) (off : Nat) : Option SV :=
  match cellsOf P ft with
  | some n => (segL ls off n).bind (ofLeafs P ft)
  | none => none
def eqFm (P : Program) (cmp : TypeId → SV → SV → Option Bool) (xs ys : List At) : List Field → Option Bool
  | [] => some true
  | f :: fs => if f.name == "_" then none else match partS P xs f.type f.offset, partS P ys f.type f.offset with
    | some a, some b => match cmp f.type a b, eqFm P cmp xs ys fs with
      | some e, some r => some (e && r)
      | _, _ => none
    | _, _ => none
def sameI (n : Nat) (x y : Vector Int n) : List Nat → Bool
  | [] => true
  | i :: is => (x.toList.getD i 0 == y.toList.getD i 0) && sameI n x y is
/-- Equality of values: numbers, bools, texts, structs of these, arrays of numbers. -/
def eqSm (P : Program) : Nat → TypeId → SV → SV → Option Bool
  | 0, _, _, _ => none
  | d + 1, t, x, y => match x, y with
    | .v (.a (.fl (.int k) a)), .v (.a (.fl (.int k') b)) => if isTy P t = 2 ∧ k = k' then some ((a : Int) == b) else none
    | .v (.a (.fl .str a)), .v (.a (.fl .str b)) => if isTy P t = 3 then some (sEq a b) else none
    | .v (.st xs), .v (.st ys) => match P.underlying t with
      | some (.struct fs) => if P.stoodInHeld t then none else eqFm P (eqSm P d) xs ys fs.toList
      | _ => none
    | .v (.a (.fl (.arr n (.int k)) a)), .v (.a (.fl (.arr n' (.int k')) b)) => match P.underlying t with
      | some (.array m e) => if h : n = n' ∧ k = k' then if m = n ∧ 0 < d ∧ (P.info? e).isSome = true ∧ P.cellsOf e = 1 ∧ scal P e = true ∧ isTy P e = 2 then
          some (sameI n a (h.1 ▸ (b : Vector Int n')) (List.range n)) else none else none
      | _ => none
    | .v (.a x), .v (.a y) => match toB x, toB y with
      | some a, some b => if isTy P t = 1 then some (a == b) else none
      | _, _ => none
    | _, _ => none
def isAggS : SV → Bool
  | .v (.st _) | .v (.a (.fl (.arr _ _) _)) => true
  | _ => false
def eqS (P : Program) (S : St) (op : BinOp) (t : TypeId) (x y : SV) : Option Qt :=
  if isAggS x = true ∧ isAggS y = true ∧ P.eqGuardType P.depth t = false then match eqSm P 12 t x y with
    | some r => match op with
      | .eql => some (q0 (.bool r))
      | .neq => some (q0 (.bool (!r)))
      | _ => none
    | none => none
  else none
def binS (P : Program) (S : St) (op : BinOp) (t : TypeId) (x y : SV) : Option Qt :=
  match x, y with
  | .v (.a (.fl (.int k) a)), .v (.a (.fl (.int k') b)) =>
    match op with
    | .shl => some (qp (0 ≤ (b : Int)) (.int k (shlK k a b)))
    | .shr => some (qp (0 ≤ (b : Int)) (.int k (shrK k a b)))
    | _ => if k = k' then intS op k a b else none
  | .v (.a (.fl .str a)), .v (.a (.fl .str b)) => strS op a b
  | .v (.a .nilp), .v (.a .nilp) => if isTy P t = 7 then nilCmp op true else none
  | .v (.a .nilp), .v (.a (.ptr _ _)) => if isTy P t = 7 then nilCmp op false else none
  | .v (.a (.ptr _ _)), .v (.a .nilp) => if isTy P t = 7 then nilCmp op false else none
  | .v (.a .nilf), .v (.a .nilf) => if isTy P t = 9 then nilCmp op true else none
  | .v (.fn _ _ _), .v (.a .nilf) => if isTy P t = 9 then nilCmp op false else none
  | .v (.a x), .v (.a y) => match toB x, toB y with
    | some a, some b => if isTy P t = 1 then match op with
        | .eql => some (q0 (.bool (a == b)))
        | .neq => some (q0 (.bool (!(a == b))))
        | _ => none
      else none
    | _, _ => eqS P S op t (.v (.a x)) (.v (.a y))
  | x, y => eqS P S op t x y
def unS (op : UnOp) : SV → Option Qt
  | .v (.a (.lit b)) => match op with
    | .not => some (q0 (.lit (!b)))
    | _ => none
  | .v (.a (.fl .bool b)) => match op with
    | .not => some (q0 (.bool (!b)))
    | _ => none
  | .v (.a (.fl (.int k) n)) => match op with
    | .neg => some (q0 (.int k (WK k (0 - n))))
    | .xor => some (q0 (.int k (xorK k (if k.signed then -1 else k.max) n)))
    | _ => none
  | _ => none
def lenS (P : Program) (S : St) (t : TypeId) : SV → Option Qt
  | .v (.a (.fl .str s)) => if isTy P t = 3 then some (q0 (.int .i64 (s.size : Int))) else none
  | .v (.a (.sl o)) => if isTy P t = 4 then match S.ob o with
      | .row _ _ xs _ _ => some (q0 (.int .i64 (xs.length : Int)))
      | _ => none
    else none
  | .v (.a (.nils _ _)) => if isTy P t = 4 then some (q0 (.int .i64 (0 : Int))) else none
  | .v (.a .nil0) => if isTy P t = 4 then some (q0 (.int .i64 (0 : Int))) else none
  | _ => none
def minS (big : Bool) : List SV → Option Qt
  | [.v (.a (.fl (.int k) a)), .v (.a (.fl (.int _) b))] => some (q0 (.int k (if big then mxI a b else mnI a b)))
  | [.v (.a (.fl (.int k) a)), .v (.a (.fl (.int _) b)), .v (.a (.fl (.int _) c))] => some (q0 (.int k (if big then mxI (mxI a b) c else mnI (mnI a b) c)))
  | _ => none
def idxA (P : Program) (S : St) (t : TypeId) : SV → SV → Option Qt
  | .v (.a (.sl o)), .v (.a (.fl (.int k) i)) => match S.ob o with
    | .row _ u xs _ _ => if elemSz P t = some u.sz then some (qp (0 ≤ (i : Int) ∧ (i : Int) < xs.length) (.v (.elp o u.sz i 0))) else none
    | _ => none
  | .v (.a (.ptr b off)), .v (.a (.fl (.int k) i)) => match S.ob b with
    | .box _ ls => match skipL ls off with
      | some (.fl (.arr n u) _ :: _) => if arrAt? P t = some (n, u.sz) then some (qp (0 ≤ (i : Int) ∧ (i : Int) < n) (.v (.arp b off u n i))) else none
      | _ => none
    | _ => none
  | _, _ => none
def Ty.sc1 : Ty → Bool
  | .int _ | .bool | .str => true
  | _ => false
def elScal (P : Program) (t : TypeId) : Bool :=
  match P.underlying t with
  | some (.array _ e) => scal P e
  | _ => false
def idx (P : Program) (t : TypeId) : SV → SV → Option Qt
  | .v (.a (.fl .str s)), .v (.a (.fl (.int k) i)) => if isTy P t = 3 then some (qp (0 ≤ (i : Int) ∧ (i : Int) < (s.size : Int)) (.int .u8 (sAt s i))) else none
  | .v (.a (.fl (.arr n u) x)), .v (.a (.fl (.int k) i)) => if arrAt? P t = some (n, u.sz) ∧ u.sc1 = true ∧ elScal P t = true then
      some (qp (0 ≤ (i : Int) ∧ (i : Int) < n) (.v (.a (.fl u (vAt u.dflt x i))))) else none
  | _, _ => none
def inner : Md → Md
  | .lent => .lent
  | _ => .rd
def ldS (P : Program) (S : St) (t : TypeId) : SV → Option Qt
  | .v (.a (.ptr b off)) => match S.ob b, cellsOf P t with
    | .box _ ls, some n => ((segL ls off n).bind (ofLeafs P t)).map q0
    | _, _ => none
  | .v (.elp o sz i off) => match S.ob o, cellsOf P t with
    | .row _ u xs m _, some n =>
      let (ls, news) := unpk (inner m) u (at_ u xs i) S.obs.length
      ((segL ls off n).bind (ofLeafs P t)).map fun v => ⟨True, inferInstance, if (refS v).isEmpty then [] else news, v⟩
    | _, _ => none
  | .v (.arp b off u n i) => match S.ob b with
    | .box _ ls => match skipL ls off with
      | some (.fl (.arr n' u') x :: _) => if u' = u ∧ n' = n ∧ u'.sc1 = true ∧ scal P t = true then some (q0 (.v (.a (.fl u' (vAt u'.dflt x i))))) else none
      | _ => none
    | _ => none
  | _ => none
def fieldS (P : Program) (t : TypeId) (f : Nat) : SV → Option Qt
  | .v (.st ls) => match fieldOff P t f with
    | some (ft, off) => match cellsOf P ft with
      | some n => ((segL ls off n).bind (ofLeafs P ft)).map q0
      | none => none
    | none => none
  | _ => none
def fieldA (P : Program) (t : TypeId) (f : Nat) : SV → Option Qt
  | .v (.a (.ptr b off)) => (fieldAt? P t f).map fun fo => q0 (.v (.a (.ptr b (off + fo))))
  | .v (.elp o sz i off) => (fieldAt? P t f).map fun fo => q0 (.v (.elp o sz i (off + fo)))
  | _ => none
def fillL (P : Program) (t : TypeId) : List At → List (Nat × SV) → Option (List At)
  | zs, [] => some zs
  | zs, (j, v) :: ps => match fieldOff P t j with
    | some (ft, off) => match leafs (typedV P ft v) with
      | some us => if cellsOf P ft = some (sizeL us) then (splL zs off us).bind fun zs' => fillL P t zs' ps else none
      | none => none
    | none => none
def fillA (u : Ty) : List u.den → List (Nat × SV) → Option (List u.den)
  | xs, [] => some xs
  | xs, (j, .v (.a (.fl w x))) :: ps => match castT (a := w) (b := u) x with
    | some y => if j < xs.length then fillA u (xs.set j y) ps else none
    | none => none
  | _, _ => none
def hasPlaces (P : Program) (t : TypeId) : Bool :=
  match P.underlying t with
  | some (.struct fs) => (placesV P fs.toList).isSome
  | _ => false
def buildS (P : Program) (t : TypeId) (ps : List (Nat × SV)) : Option Qt :=
  match isTy P t with
  | 5 => match zeroK P t with
    | some zs => if hasPlaces P t then (fillL P t zs ps).map fun ls => q0 (.v (.st ls)) else none
    | none => none
  | 6 => match tyOf P depth t with
    | some (.arr n u) => match (if zeroD P t (.arr n u) && (arrAt? P t == some (n, u.sz)) && u.flat then fillA u (List.replicate n u.dflt) ps else none) with
      | some xs => if h : xs.length = n then some (q0 (.v (.a (.fl (.arr n u) (⟨xs.toArray, by simpa using h⟩ : Vector u.den n))))) else none
      | none => none
    | _ => none
  | _ => none
def ats : List SV → Option (List At)
  | [] => some []
  | .v (.a x) :: r => (ats r).map (x :: ·)
  | _ => none
def numO : Option SV → Option (Option Int)
  | none => some none
  | some (.v (.a (.fl (.int _) i))) => some (some i)
  | _ => none
def kindO : Option SV → Option IntKind
  | some (.v (.a (.fl (.int k) _))) => some k
  | _ => none
def takeO {α : Type} (h : Option Int) (xs : List α) : List α :=
  match h with
  | some h => xs.take h.toNat
  | none => xs
def dropO {α : Type} (l : Option Int) (xs : List α) : List α :=
  match l with
  | some l => xs.drop l.toNat
  | none => xs
def cutS (P : Program) (S : St) (t : TypeId) (x : SV) (lo hi mx : Option SV) : Option Qt :=
  match x, numO lo, numO hi, numO mx with
  | .v (.a (.fl .str s)), some l, some h, some none => if isTy P t = 3 then
      some (qp (0 ≤ l.getD 0 ∧ l.getD 0 ≤ h.getD (s.size : Int) ∧ h.getD (s.size : Int) ≤ (s.size : Int)) (.str (s.extract (l.getD 0).toNat (h.getD (s.size : Int)).toNat))) else none
  | .v (.a (.sl o)), some l, some h, some m => match S.ob o with
    | .row e u xs md _ => if md = .own then none else if elemSz P t = some u.sz ∧ (m.isSome = true → h.isSome = true ∧ kindO hi = kindO mx) then
        some ⟨0 ≤ l.getD 0 ∧ l.getD 0 ≤ h.getD (xs.length : Int) ∧ h.getD (xs.length : Int) ≤ (xs.length : Int) ∧ m.getD (h.getD (xs.length : Int)) = h.getD (xs.length : Int), inferInstance, [.row e u (dropO l (takeO h xs)) md m.isSome], .v (.a (.sl S.obs.length))⟩
      else none
    | _ => none
  | .v (.a (.ptr b off)), some none, some none, some none => match S.ob b with
    | .box _ ls => match skipL ls off with
      | some (.fl (.arr n u) _ :: _) => if arrAt? P t = some (n, u.sz) ∧ n ≤ 9223372036854775807 then some (q0 (.v (.a (.asl b off n)))) else none
      | _ => none
    | _ => none
  | _, _, _, _ => none
def numsS (u : Ty) (xs : List u.den) : Option (List Int) := castT (a := .sl 0 u) (b := .sl 0 (.int .u8)) xs
def convS (P : Program) (S : St) (src dst : TypeId) : SV → Option Qt
  | .v (.a (.fl (.int _) n)) => match P.underlying src, P.underlying dst with
    | some _, some (.int k) => some (q0 (.int k (WK k n)))
    | _, _ => none
  | .v (.a (.sl o)) => match S.ob o with
    | .row _ u xs _ _ => if bytesT P src dst = true then (numsS u xs).map fun l => q0 (.str (strOfNums l)) else none
    | _ => none
  | .v (.a (.nils _ _)) => if bytesT P src dst = true then some (q0 (.str (strOfNums []))) else none
  | .v (.a (.asl b off n)) => match S.ob b with
    | .box _ ls => match skipL ls off with
      | some (.fl (.arr n' u) x :: _) => if bytesT P src dst = true ∧ n' = n ∧ n ≤ 9223372036854775807 then (numsS u x.toList).map fun l => q0 (.str (strOfNums l)) else none
      | _ => none
    | _ => none
  | _ => none
def opAs (S : St) (l : List Operand) : Option (List SV) := l.mapM (opA S)
def opO (S : St) : Option Operand → Option (Option SV)
  | none => some none
  | some x => (opA S x).map some
def parts (S : St) : List (Nat × Operand) → Option (List (Nat × SV))
  | [] => some []
  | (j, x) :: r => match opA S x, parts S r with
    | some v, some vs => some ((j, v) :: vs)
    | _, _ => none
def quiet (P : Program) (S : St) (ty : TypeId) (op : Op) : Option Qt :=
  match op with
  | .move x | .assign x => (opA S x).map fun v => q0 (typedV P ty v)
  | .pick c x y => match opA S c with
    | some (.v (.a (.lit b))) => (opA S (if b then x else y)).map fun v => q0 (typedV P ty v)
    | _ => none
  | .nilCheck x => match opA S x with
    | some (.v (.a (.ptr b o))) => some (q0 (.v (.a (.ptr b o))))
    | some (.v (.elp o s i f)) => some (q0 (.v (.elp o s i f)))
    | some (.v (.arp b o t n i)) => some (q0 (.v (.arp b o t n i)))
    | _ => none
  | .binOp op t x y _ => match opA S x, opA S y with
    | some a, some b => binS P S op t a b
    | _, _ => none
  | .unOp op _ x => (opA S x).bind (unS op)
  | .extract x i => match opA S x with
    | some (.tup vs) => (vs[i]?).map fun v => q0 (.v v)
    | _ => none
  | .field t x f => (opA S x).bind (fieldS P t f)
  | .fieldAddr t x f => (opA S x).bind (fieldA P t f)
  | .indexAddr t x i => match opA S x, opA S i with
    | some a, some b => idxA P S t a b
    | _, _ => none
  | .index t x i => match opA S x, opA S i with
    | some a, some b => idx P t a b
    | _, _ => none
  | .load t x => (opA S x).bind (ldS P S t)
  | .build t ps => (parts S ps.toList).bind (buildS P t)
  | .makeFunc (.func f) fs cs => match (opAs S fs.toList).bind ats, (opAs S cs.toList).bind ats with
    | some a, some b => some (q0 (.v (.fn f a b)))
    | _, _ => none
  | .slice t x l h m => match opA S x, opO S l, opO S h, opO S m with
    | some x, some l, some h, some m => cutS P S t x l h m
    | _, _, _, _ => none
  | .convert s d x => (opA S x).bind (convS P S s d)
  | .call { callee := .builtin .len, args, argTypes } => match args.toList, argTypes.toList with
    | [x], [t] => (opA S x).bind (lenS P S t)
    | _, _ => none
  | .call { callee := .builtin .min, args, .. } => (opAs S args.toList).bind (minS false)
  | .call { callee := .builtin .max, args, .. } => (opAs S args.toList).bind (minS true)
  | _ => none
end Go.Proofs.YthdgllldpfeelaaGreatDoor
/- A range over slices.Backward: the iterator's own code, walked with yield. No condition. -/
set_option linter.unusedVariables false
set_option linter.unusedSimpArgs false
namespace Go.Proofs.YthdgllldpfeelaaGreatDoor
open Go
def bkR0 (Ti Ts : TypeId) : Code := .region 0
  #[{ dst := some 4, op := .load Ts (.tmp 1), type := Ts, pos := "iter.go:28", after := #[], guard := none },
    { dst := some 5, op := .call { callee := .builtin .len, args := #[.tmp 4], argTypes := #[Ts] }, type := Ti, pos := "iter.go:28", after := #[{ on := 0, ground := .data }], guard := none },
    { dst := some 6, op := .binOp .sub Ti (.tmp 5) (.const (.int .i64 1)) Ti, type := Ti, pos := "iter.go:28", after := #[{ on := 1, ground := .data }], guard := none },
    { dst := some 3, op := .assign (.tmp 6), type := Ti, pos := "iter.go:28", after := #[{ on := 2, ground := .data }, { on := 0, ground := .phase }, { on := 1, ground := .phase }, { on := 2, ground := .phase }], guard := none }]
  false
def bkR1 (Ti Tb : TypeId) : Code := .region 1
  #[{ dst := some 7, op := .move (.tmp 3), type := Ti, pos := "iter.go:28", after := #[], guard := none },
    { dst := some 8, op := .binOp .geq Ti (.tmp 7) (.const (.int .i64 0)) Ti, type := Tb, pos := "iter.go:28", after := #[{ on := 0, ground := .data }], guard := none }]
  false
def bkR3 (Ti Tb Ts Te Ty : TypeId) : Code := .region 3
  #[{ dst := some 11, op := .move (.tmp 0), type := Ty, pos := "iter.go:29", after := #[], guard := none },
    { dst := some 12, op := .move (.tmp 3), type := Ti, pos := "iter.go:29", after := #[], guard := none },
    { dst := some 13, op := .load Ts (.tmp 1), type := Ts, pos := "iter.go:29", after := #[], guard := none },
    { dst := some 14, op := .move (.tmp 3), type := Ti, pos := "iter.go:29", after := #[], guard := none },
    { dst := some 15, op := .indexAddr Ts (.tmp 13) (.tmp 14), type := 0, pos := "iter.go:29", after := #[{ on := 2, ground := .data }, { on := 3, ground := .data }], guard := none },
    { dst := some 16, op := .load Te (.tmp 15), type := Te, pos := "iter.go:29", after := #[{ on := 4, ground := .data }], guard := none },
    { dst := some 17, op := .call { callee := .value (.tmp 11), args := #[.tmp 12, .tmp 16], argTypes := #[Ti, Te] }, type := Tb, pos := "iter.go:29", after := #[{ on := 0, ground := .data }, { on := 1, ground := .data }, { on := 5, ground := .data }], guard := none },
    { dst := some 18, op := .unOp .not Tb (.tmp 17), type := Tb, pos := "iter.go:29", after := #[{ on := 6, ground := .data }], guard := none }]
  false
def bkR2 (Ti : TypeId) : Code := .region 2
  #[{ dst := some 9, op := .move (.tmp 3), type := Ti, pos := "iter.go:28", after := #[], guard := none },
    { dst := some 10, op := .binOp .sub Ti (.tmp 9) (.const (.int .i64 1)) Ti, type := Ti, pos := "iter.go:28", after := #[{ on := 0, ground := .data }], guard := none },
    { dst := some 3, op := .assign (.tmp 10), type := Ti, pos := "iter.go:28", after := #[{ on := 1, ground := .data }, { on := 0, ground := .phase }, { on := 1, ground := .phase }], guard := none }]
  false
def bkBody (Ti Tb Ts Te Ty : TypeId) : Code :=
  (bkR0 Ti Ts).seq (.block 0 ((((bkR1 Ti Tb).seq (.cond (.tmp 8) .skip (.exit 0))).seq ((Code.block 1 ((bkR3 Ti Tb Ts Te Ty).seq (.cond (.tmp 18) .ret .skip))).seq (bkR2 Ti))).loop))
structure Bk where
  gf : Nat
  Ti : Nat
  Tb : Nat
  Ts : Nat
  Te : Nat
  Ty : Nat
/-- The function is slices.Backward's inner one. -/
structure BkOk (P : Program) (B : Bk) : Prop where
  fn : ∃ fn, P.funcs[B.gf]? = some fn ∧ fn.body = some (bkBody B.Ti B.Tb B.Ts B.Te B.Ty) ∧ fn.ntmps = 19 ∧ fn.results = #[]
  en : enters P B.gf = true
  sl : isTy P B.Ts = 4
theorem wrap_i64 {x : Int} (h1 : -9223372036854775808 ≤ x) (h2 : x ≤ 9223372036854775807) : IntKind.wrap .i64 x = x := by
  simp only [IntKind.wrap, IntKind.bits, IntKind.signed]
  simp
  split <;> omega
section
variable {P : Program} {B : Bk}
theorem wide_n {ro : Option Nat} {m k : Nat} {c : Code} {Q : Exit → Act → World → Prop} {a : Act} {w : World} (h : c.wpIn (FR ro) m P Q a w) : c.wpIn (FR ro) k P Q a w :=
  fun b kk cs h1 h2 _ => h b kk cs h1 h2 (fun d hd => by cases hd)
def yieldV (l : Nat) : Value := .func (.yield l) #[] #[]
/-- A call of yield: the round. -/
theorem wl_yield {n l i : Nat} {m : List (Nat × Value)} {a : Act} {w : World} {ops : Array Oper} {Q : Exit → Act → World → Prop} {d : Option Tmp} {x : Operand} {xs : Array Operand} {ts : Array TypeId} {R : Value → World → Prop}
    (hS : Sl n m a) (hs : sig ops i = some (d, .call { callee := .value x, args := xs, argTypes := ts }, none)) (hd : wid n d = true) (hk : opKnown m (.call { callee := .value x, args := xs, argTypes := ts }) = true)
    (hx : ev m x = yieldV l) {A : Array Value} (hA : xs.map (ev m) = A) (hy : YieldAt (FR none) 2 P l A w fun e w' => ∃ v, e = .returned v ∧ R v w')
    (k : ∀ v w', R v w' → ∀ a', Sl n (putM m d v) a' → wl none P ops Q (i + 1) a' w') : wl none P ops Q i a w := by
  obtain ⟨o, h1, h2, h3, h4, h5⟩ := sig_spec hs
  simp only at h3 h4 h5
  subst h3
  unfold wl
  rw [h2]
  unfold wpListIn
  rw [if_pos (by rw [want_spec hS (t := true) (by rw [h5]; rfl)])]
  obtain ⟨fn, tmps, assign, body, hr, hround⟩ := hy
  refine ⟨fun _ _ => trivial, ?_⟩
  have hop : opKnown m o.op = true := by rw [h4]; exact hk
  rw [Oper.semAt_eq _ _ _ (by intro c; rw [h4]; simp), known_exec hS hop]
  have e : (execOp (ev m) o).run P w = .ok (.round l fn tmps assign body) w := by
    simp only [execOp, h4, resolve, hx, yieldV, Deferred.ofValue, Sem.run_bind, Sem.run_pure, Result.andThen_ok, invoke]
    have e : #[] ++ xs.map (ev m) = A := by rw [hA]; simp
    simp only [Array.append_empty, e]
    exact hr
  rw [e, Oper.uponIn_round]
  refine ⟨fun _ => by decide, hround.mono ?_⟩
  rintro e w' ⟨v, rfl, hR⟩
  exact k v w' hR _ (hS.put _ _ hd)
/-- **The iterator**: J m: m elements are left; X: a round has stopped. -/
theorem back_walk (hB : BkOk P B) {l bb N sz : Nat} {v : Value} (J : Nat → World → Prop) (X : World → Prop) {W1 : World} (hsz : elemSz P B.Ts = some sz) (hsh : Shp v N) (hN : N ≤ 9223372036854775807) (hJ : J N W1)
    (hbox : W1.cell? ⟨bb, 0, none⟩ = some v)
    (hread : ∀ m W, m < N → J (m + 1) W → W.cell? ⟨bb, 0, none⟩ = some v ∧ ∃ y, (∀ ρ x, ρ x = .pointer (some (elemA v (m * sz))) → Runs P ρ (.load B.Te x) W y W) ∧
      YieldAt (FR none) 2 P l #[.int .i64 m, y] W fun e W' => (e = .returned (.bool true) ∧ J m W') ∨ (e = .returned (.bool false) ∧ X W')) :
    Calls P B.gf #[yieldV l, .pointer (some ⟨bb, 0, none⟩)] W1 fun e W' => (∃ v, e = .returned v) ∧ (J 0 W' ∨ X W') := by
  obtain ⟨fn, hf, hb, hnt, hres⟩ := hB.fn
  have hsc : scal P B.Ts = true := by unfold scal; simp [hB.sl]
  refine calls_of_wp hf hb ?_
  have start : ∀ a : Act, Sl 19 [(0, yieldV l), (1, .pointer (some ⟨bb, 0, none⟩))] a → (bkBody B.Ti B.Tb B.Ts B.Te B.Ty).wpIn (FR none) 3 P (bodyPost P fn fun e W' => (∃ v, e = .returned v) ∧ (J 0 W' ∨ X W')) a W1 := by
    intro a hS
    have fin : ∀ (m : List (Nat × Value)) (a : Act) (W : World), Sl 19 m a → (J 0 W ∨ X W) → bodyPost P fn (fun e W' => (∃ v, e = .returned v) ∧ (J 0 W' ∨ X W')) .ret a W := fun m a W hS h =>
      q_ret hS (vs := []) (by rw [hres]; rfl) ⟨⟨_, rfl⟩, h⟩
    have fin' : ∀ (m : List (Nat × Value)) (a : Act) (W : World), Sl 19 m a → (J 0 W ∨ X W) → bodyPost P fn (fun e W' => (∃ v, e = .returned v) ∧ (J 0 W' ∨ X W')) .normal a W := fun m a W hS h =>
      q_end hS (vs := []) (by rw [hres]; rfl) ⟨⟨_, rfl⟩, h⟩
    refine c_seq rfl (c_region rfl ?_)
    refine wl_val hS (v := v) rfl rfl (r_cell rfl hbox hsc) fun a1 h1 => ?_
    refine wl_val h1 (v := .int .i64 (N : Int)) rfl rfl (r_len hsh rfl (by simp [hB.sl])) fun a2 h2 => ?_
    refine wl_val h2 (v := .int .i64 ((N : Int) - 1)) rfl rfl (runs_pure (by simp [pureV, binV, intV, ev, look, putM, del]; exact wrap_i64 (by omega) (by omega)) _) fun a3 h3 => ?_
    refine wl_val h3 (v := .int .i64 ((N : Int) - 1)) rfl rfl (runs_pure rfl _) fun a4 h4 => wl_nil rfl ?_
    refine c_block (i := 0) rfl ?_
    have h4 := h4.keep [0, 1, 3] (m' := [(0, yieldV l), (1, .pointer (some ⟨bb, 0, none⟩)), (3, .int .i64 ((N : Int) - 1))]) rfl
    refine c_loop (I := fun k a W => ∃ m, k = m ∧ m ≤ N ∧ J m W ∧ Sl 19 [(0, yieldV l), (1, .pointer (some ⟨bb, 0, none⟩)), (3, .int .i64 ((m : Int) - 1))] a) rfl N ⟨N, rfl, Nat.le_refl _, hJ, h4⟩ ?_
    rintro m a5 W ⟨_, rfl, hm, hj, h5⟩
    refine c_seq rfl (c_seq rfl (c_region rfl ?_))
    refine wl_val h5 (v := .int .i64 ((m : Int) - 1)) rfl rfl (runs_pure rfl _) fun a6 h6 => ?_
    refine wl_val h6 (v := .bool (decide ((m : Int) - 1 ≥ 0))) rfl rfl (runs_pure rfl _) fun a7 h7 => wl_nil rfl ?_
    refine c_cond (t := decide ((m : Int) - 1 ≥ 0)) rfl (h7.ev rfl) (fun ht => ?_) (fun ht => ?_)
    · obtain ⟨m, rfl⟩ : ∃ k, m = k + 1 := ⟨m - 1, by simp at ht; omega⟩
      refine c_skip rfl ?_
      obtain ⟨hbx, y, hy, hround⟩ := hread m W (by omega) hj
      have e0 : ((m + 1 : Nat) : Int) - 1 = (m : Int) := by omega
      rw [e0] at h7
      refine c_seq rfl (c_block (i := 1) rfl (c_seq rfl (c_region rfl ?_)))
      refine wl_val h7 (v := yieldV l) rfl rfl (runs_pure rfl _) fun b1 g1 => ?_
      refine wl_val g1 (v := .int .i64 (m : Int)) rfl rfl (runs_pure rfl _) fun b2 g2 => ?_
      refine wl_val g2 (v := v) rfl rfl (r_cell rfl hbx hsc) fun b3 g3 => ?_
      refine wl_val g3 (v := .int .i64 (m : Int)) rfl rfl (runs_pure rfl _) fun b4 g4 => ?_
      refine wl_val g4 (v := .pointer (some (elemA v (m * sz)))) rfl rfl (r_idx (i := (m : Int)) hsh rfl rfl (by omega) (by omega) hsz) fun b5 g5 => ?_
      refine wl_val g5 (v := y) rfl rfl (hy _ _ rfl) fun b6 g6 => ?_
      refine wl_yield g6 (R := fun v W' => (v = .bool true ∧ J m W') ∨ (v = .bool false ∧ X W')) (A := #[.int .i64 (m : Int), y]) rfl rfl rfl rfl (by simp [ev, look, putM, del]) ?_ ?_
      · obtain ⟨fn, tmps, assign, body, hr, hround⟩ := hround
        refine ⟨fn, tmps, assign, body, hr, hround.mono ?_⟩
        rintro e W' (⟨rfl, h⟩ | ⟨rfl, h⟩)
        · exact ⟨_, rfl, .inl ⟨rfl, h⟩⟩
        · exact ⟨_, rfl, .inr ⟨rfl, h⟩⟩
      · rintro v1 W' hv0 b7 g7
        obtain ⟨t, ht, hv⟩ : ∃ t : Bool, v1 = .bool t ∧ ((t = true ∧ J m W') ∨ (t = false ∧ X W')) := by
          rcases hv0 with ⟨rfl, h⟩ | ⟨rfl, h⟩
          · exact ⟨_, rfl, .inl ⟨rfl, h⟩⟩
          · exact ⟨_, rfl, .inr ⟨rfl, h⟩⟩
        clear hv0
        subst ht
        refine wl_val g7 (v := .bool (!t)) rfl rfl (runs_pure rfl _) fun b8 g8 => wl_nil rfl ?_
        refine c_cond (t := !t) rfl (g8.ev rfl) (fun ht => ?_) (fun ht => ?_)
        · rcases hv with ⟨rfl, h⟩ | ⟨rfl, h⟩
          · simp at ht
          · exact c_ret rfl (fin _ _ _ g8 (.inr h))
        · rcases hv with ⟨rfl, h⟩ | ⟨rfl, h⟩
          · refine c_skip rfl (q_in (q_then (c_region rfl ?_)))
            refine wl_val g8 (v := .int .i64 (m : Int)) rfl rfl (runs_pure rfl _) fun b9 g9 => ?_
            refine wl_val g9 (v := .int .i64 ((m : Int) - 1)) rfl rfl (runs_pure (by simp [pureV, binV, intV, ev, look, putM, del]; exact wrap_i64 (by omega) (by omega)) _) fun b10 g10 => ?_
            refine wl_val g10 (v := .int .i64 ((m : Int) - 1)) rfl rfl (runs_pure rfl _) fun b11 g11 => wl_nil rfl ?_
            exact q_then ⟨m, by omega, m, rfl, by omega, h, g11.keep [0, 1, 3] rfl⟩
          · simp at ht
    · have hm0 : m = 0 := by simp at ht; omega
      subst hm0
      exact c_exit rfl (fin' _ _ _ h7 (.inl hj))
  have := start _ (Sl.start [yieldV l, .pointer (some ⟨bb, 0, none⟩)] 17 _ (fun t u hu => by have := (look_args0 [yieldV l, .pointer (some ⟨bb, 0, none⟩)] 0 t u hu).2; rwa [Nat.sub_zero] at this))
  have this : Code.wpIn Fence.wide 3 P _ _ _ W1 := this
  exact wpIn_wide.1 (by simpa [hnt] using this)
end
end Go.Proofs.YthdgllldpfeelaaGreatDoor
/- What may come up of a region, told by bits. No condition. -/
set_option linter.unusedVariables false
set_option linter.unusedSimpArgs false
namespace Go.Proofs.YthdgllldpfeelaaGreatDoor
open Go
/-- Numbers as bits. -/
def setM : List Nat → Nat
  | [] => 0
  | i :: l => setM l ||| (1 <<< i)
def subB (a b : Nat) : Bool := a &&& b == a
def lmask (n : Nat) (l : List Nat) : Nat := setM (l.filter fun i => decide (i < n))
/-- What an operation waits for; which others that don't wait for it do not stand apart from it. -/
def depL (ops : Array Oper) (i : Nat) : List Nat := match ops.toList[i]? with
  | some o => (o.after.toList.filter fun e => Region.binds .any e).map (·.on)
  | none => []
def conL (ops : Array Oper) (i : Nat) : List Nat := match ops.toList[i]? with
  | some oi => (List.range ops.size).filter fun j => !(j == i) && !(match ops.toList[j]? with
      | some oj => oj.after.toList.any (fun e => Region.binds .any e && e.on == i) || oi.apart ops oj
      | none => true)
  | none => []
def tabRow (ops : Array Oper) (i : Nat) : Nat × Nat := (setM (depL ops i), setM (conL ops i))
def mkTab (ops : Array Oper) : List (Nat × Nat) := (List.range ops.size).map (tabRow ops)
def tabOk (ops : Array Oper) (tab : List (Nat × Nat)) : Bool := decide (mkTab ops = tab)
def readyT (lm : Nat) : List (Nat × Nat) → Nat → List Nat
  | [], _ => []
  | p :: t, i => if (!(lm.testBit i) && subB p.1 lm) = true then i :: readyT lm t (i + 1) else readyT lm t (i + 1)
def canT (tab : List (Nat × Nat)) (lm : Nat) (j : Nat) : Bool := match tab[j]? with
  | some p => !(lm.testBit j) && (subB p.1 lm && subB p.2 lm)
  | none => false
theorem setM_bit : ∀ (l : List Nat) (i : Nat), (setM l).testBit i = decide (i ∈ l)
  | [], i => by simp [setM]
  | j :: l, i => by
    rw [setM, Nat.testBit_or, setM_bit l i, Nat.one_shiftLeft, Nat.testBit_two_pow]
    by_cases h : j = i
    · simp [h]
    · simp [h, Ne.symm h]
theorem subB_set (l : List Nat) (b : Nat) : subB (setM l) b = l.all fun i => b.testBit i := by
  rw [Bool.eq_iff_iff]
  simp only [subB, beq_iff_eq, List.all_eq_true]
  constructor
  · intro h i hi
    have h1 := congrArg (fun n => n.testBit i) h
    simp only [Nat.testBit_and, setM_bit, hi, decide_true, Bool.true_and] at h1
    exact h1
  · intro h
    apply Nat.eq_of_testBit_eq
    intro i
    rw [Nat.testBit_and, setM_bit]
    by_cases hi : i ∈ l
    · simp [hi, h i hi]
    · simp [hi]
theorem mask_at (n : Nat) : ∀ (l : List Nat) (i : Nat), (mask n l)[i]? = if i < n then some (decide (i ∈ l)) else none
  | [], i => by
    rw [mask, Array.getElem?_replicate]
    simp
  | j :: l, i => by
    have hs : ∀ l, (mask n l).size = n := fun l => by
      induction l with
      | nil => simp [mask]
      | cons a l ih => simp [mask, ih]
    rw [mask, Array.getElem?_setIfInBounds]
    by_cases h : j = i
    · subst h
      by_cases hn : j < n
      · simp [hs, hn]
      · simp [hs, hn]
    · rw [if_neg h, mask_at n l i]
      simp [Ne.symm h]
theorem mask_getF (n : Nat) (l : List Nat) (i : Nat) : (mask n l).getD i false = (lmask n l).testBit i := by
  rw [Array.getD_eq_getD_getElem?, mask_at, lmask, setM_bit]
  by_cases h : i < n
  · simp [h]
  · simp [h]
theorem mask_getT (n : Nat) (l : List Nat) (i : Nat) (h : i < n) : (mask n l).getD i true = (lmask n l).testBit i := by
  rw [Array.getD_eq_getD_getElem?, mask_at, lmask, setM_bit]
  simp [h]
theorem readyT_map (lm : Nat) (f : Nat → Nat × Nat) : ∀ (n s : Nat), readyT lm ((List.range' s n).map f) s = (List.range' s n).filter fun i => !(lm.testBit i) && subB (f i).1 lm
  | 0, s => rfl
  | n + 1, s => by
    rw [List.range'_succ, List.map_cons, readyT, readyT_map lm f n (s + 1), List.filter_cons]
theorem readyT_eq {ops : Array Oper} {tab : List (Nat × Nat)} (h : tabOk ops tab = true) (l : List Nat) : readyT (lmask ops.size l) tab 0 = Region.ready .any ops (mask ops.size l) := by
  obtain rfl : mkTab ops = tab := by simpa [tabOk] using h
  rw [mkTab, List.range_eq_range', readyT_map, ← List.range_eq_range', Region.ready]
  apply List.filter_congr
  intro i hi
  have hi := List.mem_range.1 hi
  rw [mask_getT _ _ _ hi]
  congr 1
  have ho : ops.toList[i]? = some ops[i] := by rw [Array.getElem?_toList]; exact Array.getElem?_eq_getElem hi
  have ho' : ops[i]? = some ops[i] := Array.getElem?_eq_getElem hi
  simp only [tabRow, subB_set, depL, ho, ho', Option.map_some, Option.getD_some, List.all_map, List.all_filter]
  rw [← Array.all_toList]
  congr 1
  funext e
  rw [mask_getF]
  rfl
theorem canT_eq {ops : Array Oper} {tab : List (Nat × Nat)} (h : tabOk ops tab = true) (l : List Nat) (j : Nat) : canT tab (lmask ops.size l) j = canB ops l j := by
  have hr := readyT_eq h l
  obtain rfl : mkTab ops = tab := by simpa [tabOk] using h
  rw [canB, ← hr]
  by_cases hj : j < ops.size
  · have ht : (mkTab ops)[j]? = some (tabRow ops j) := by
      rw [mkTab, List.getElem?_map, List.getElem?_range hj]; rfl
    have ho : ops.toList[j]? = some ops[j] := by rw [Array.getElem?_toList]; exact Array.getElem?_eq_getElem hj
    have ho' : ops[j]? = some ops[j] := Array.getElem?_eq_getElem hj
    have hc : (readyT (lmask ops.size l) (mkTab ops) 0).contains j = (!((lmask ops.size l).testBit j) && subB (tabRow ops j).1 (lmask ops.size l)) := by
      rw [mkTab, List.range_eq_range', readyT_map, ← List.range_eq_range', Bool.eq_iff_iff]
      simp [hj]
    have hf : Region.free .any ops (mask ops.size l) j = subB (tabRow ops j).2 (lmask ops.size l) := by
      simp only [Region.free, ho', tabRow, subB_set, conL, ho, List.all_filter]
      rw [Bool.eq_iff_iff, List.all_eq_true, List.all_eq_true]
      constructor
      · intro h i hi
        have hin := List.mem_range.1 hi
        have h := h i hi
        have hoi : ops.toList[i]? = some ops[i] := by rw [Array.getElem?_toList]; exact Array.getElem?_eq_getElem hin
        have hoi' : ops[i]? = some ops[i] := Array.getElem?_eq_getElem hin
        rw [mask_getT _ _ _ hin] at h
        simp only [hoi, hoi', Array.any_toList] at h ⊢
        revert h
        cases (i == j) <;> cases (lmask ops.size l).testBit i <;> cases (Array.any ops[i].after fun e => Region.binds .any e && e.on == j) <;> cases ops[j].apart ops ops[i] <;> simp
      · intro h i hi
        have hin := List.mem_range.1 hi
        have h := h i hi
        have hoi : ops.toList[i]? = some ops[i] := by rw [Array.getElem?_toList]; exact Array.getElem?_eq_getElem hin
        have hoi' : ops[i]? = some ops[i] := Array.getElem?_eq_getElem hin
        rw [mask_getT _ _ _ hin]
        simp only [hoi, hoi', Array.any_toList] at h ⊢
        revert h
        cases (i == j) <;> cases (lmask ops.size l).testBit i <;> cases (Array.any ops[i].after fun e => Region.binds .any e && e.on == j) <;> cases ops[j].apart ops ops[i] <;> simp
    rw [canT, ht, hc, hf]
    simp only
    cases (lmask ops.size l).testBit j <;> cases subB (tabRow ops j).1 (lmask ops.size l) <;> cases subB (tabRow ops j).2 (lmask ops.size l) <;> rfl
  · have ht : (mkTab ops)[j]? = none := by
      rw [mkTab, List.getElem?_map, List.getElem?_eq_none (by simpa using Nat.le_of_not_lt hj)]; rfl
    have hc : Region.free .any ops (mask ops.size l) j = false := by
      simp only [Region.free, Array.getElem?_eq_none (Nat.le_of_not_lt hj)]
    rw [canT, ht, hc]
    rfl
end Go.Proofs.YthdgllldpfeelaaGreatDoor
