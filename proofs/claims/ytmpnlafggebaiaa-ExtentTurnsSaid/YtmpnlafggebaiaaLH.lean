/- Equality of structs, stores into a row of one's own, a region that draws its order and ends in a store. No condition. -/
import Derived.Test.YtmpnlafggebaiaaLG
import Derived.Laws.StructEq
set_option linter.unusedVariables false
set_option linter.unusedSimpArgs false
namespace Go.Proofs.Ytmpnlafggebaiaa
open Go
def eqF (P : Program) : List Field → List Value → List Value → Option Bool
  | [], _, _ => some true
  | f :: fs, xs, ys => if f.name == "_" then none else
    match isTy P f.type, xs[f.offset]?, ys[f.offset]?, eqF P fs xs ys with
    | 2, some (.int k a), some (.int k' b), some r => if k = k' then some ((a == b) && r) else none
    | 1, some (.bool a), some (.bool b), some r => some ((a == b) && r)
    | 3, some (.string a), some (.string b), some r => some ((a.toList == b.toList) && r)
    | _, _, _, _ => none
def eqStV (P : Program) (t : TypeId) (xs ys : List Value) : Option Bool :=
  if P.eqGuardType P.depth t || P.stoodInHeld t then none else
  match P.underlying t with
  | some (.struct fs) => eqF P fs.toList xs ys
  | _ => none
theorem isTy2 {P : Program} {t : TypeId} (h : isTy P t = 2) : ∃ k, P.underlying t = some (.int k) := by
  unfold isTy at h
  split at h <;> first | exact ⟨_, by assumption⟩ | (exfalso; revert h; decide)
theorem run_part {P : Program} {w : World} {t : TypeId} {cs : Array Value} {off : Nat} {v : Value} (ht : scal P t = true) (h : cs[off]? = some v) : (part t cs off).run P w = .ok v w := by
  unfold part
  rw [Sem.run_bind, agg_no ht]
  simp [h]
theorem run_eqF {P : Program} {w : World} (d : Nat) : ∀ (fs : List Field) (xs ys : List Value) (r : Bool), eqF P fs xs ys = some r → (Op.eqFields (d + 1) xs.toArray ys.toArray fs).run P w = .ok r w
  | [], xs, ys, r, h => by simp [eqF] at h; subst h; simp [Op.eqFields]
  | f :: fs, xs, ys, r, h => by
    simp only [eqF] at h
    split at h
    · cases h
    · rename_i hn
      have hn' : f.name ≠ "_" := by simpa using hn
      have step : ∀ (a b : Value) (e s : Bool), scal P f.type = true → xs[f.offset]? = some a → ys[f.offset]? = some b → (Op.equalIn (d + 1) f.type a b).run P w = .ok e w →
          (Op.eqFields (d + 1) xs.toArray ys.toArray fs).run P w = .ok s w → (Op.eqFields (d + 1) xs.toArray ys.toArray (f :: fs)).run P w = .ok (e && s) w := by
        intro a b e s ht ha hb he hs
        rw [Op.eqFields]
        simp only [if_pos hn', Sem.run_bind, run_part (w := w) ht (by simpa using ha : xs.toArray[f.offset]? = some a), run_part (w := w) ht (by simpa using hb : ys.toArray[f.offset]? = some b), he, Result.andThen_ok]
        cases e
        · simp
        · simpa using hs
      split at h
      · rename_i k a k' b s h1 h2 h3 h4
        split at h
        · rename_i hk
          subst hk
          cases h
          obtain ⟨kk, hu⟩ := isTy2 h1
          exact step _ _ _ _ (by simp [scal, h1]) h2 h3 (run_equalIn_int w d f.type k kk a b hu) (run_eqF d fs xs ys s h4)
        · cases h
      · rename_i a b s h1 h2 h3 h4
        cases h
        exact step _ _ _ _ (by simp [scal, h1]) h2 h3 (run_equalIn_bool' w d f.type a b (isTy1 h1)) (run_eqF d fs xs ys s h4)
      · rename_i a b s h1 h2 h3 h4
        cases h
        exact step _ _ _ _ (by simp [scal, h1]) h2 h3 (run_equalIn_string w d f.type a b (isTy3 h1)) (run_eqF d fs xs ys s h4)
      · cases h
section
variable {P : Program} {ρ : Operand → Value} {w0 w : World} {D A : Nat → Prop} {L R : List Ent}
theorem r_eqst {op : BinOp} {t t' : TypeId} {x y : Operand} {xs ys : List Value} {r s : Bool} (hx : ρ x = .agg xs.toArray) (hy : ρ y = .agg ys.toArray) (h : eqStV P t xs ys = some r)
    (hs : (match op with | .eql => some r | .neq => some (!r) | _ => none) = some s) : Runs P ρ (.binOp op t x y t') w (.bool s) w := by
  intro o ho
  unfold eqStV at h
  split at h
  · cases h
  · rename_i hg
    simp only [Bool.or_eq_true, not_or, Bool.not_eq_true] at hg
    split at h
    · rename_i fs hu
      have hf : P.fieldsOf t = fs := by simp [Program.fieldsOf, hu]
      have he : (Op.equalIn 10000 t (.agg xs.toArray) (.agg ys.toArray)).run P w = .ok r w := by
        rw [run_equalIn_struct (P := P) w 9999 t _ _ (by rw [hf]; exact hu) hg.2, hf]
        exact run_eqF 9998 fs.toList xs ys r h
      have hgd := run_eqGuard_agg (P := P) w op t x y xs.toArray ys.toArray hg.1
      cases op <;> simp only at hs <;> (try (cases hs; done)) <;> cases hs
      · simp only [execOp, ho, hx, hy, Sem.run_bind, hgd, Result.andThen_ok, run_eql_struct, he, Sem.run_pure]
      · simp only [execOp, ho, hx, hy, Sem.run_bind, hgd, Result.andThen_ok, run_neq_struct, he, Sem.run_pure]
    · cases h
/-- A slice against nil. -/
def isNil : Value → Bool
  | .slice none _ _ => true
  | _ => false
theorem r_nileq {op : BinOp} {t t' : TypeId} {x y : Operand} {v : Value} {n : Nat} {s : Bool} (hr : Shp v n) (hx : ρ x = v) (hy : ρ y = .slice none 0 0) (ht : (isTy P t == 4) = true)
    (hs : (match op with | .eql => some (isNil v) | .neq => some (!(isNil v)) | _ => none) = some s) : Runs P ρ (.binOp op t x y t') w (.bool s) w := by
  intro o ho
  obtain ⟨e, hu⟩ := isTy4 (by simpa using ht : isTy P t = 4)
  obtain ⟨ao, c, rfl, _⟩ := hr
  have hg : (eqGuard op t x y (.slice ao n c) (.slice none 0 0)).run P w = .ok () w := by unfold eqGuard; split <;> rfl
  have he : ∀ d, (Op.equalIn (d + 1) t (.slice ao n c) (.slice none 0 0)).run P w = .ok (isNil (.slice ao n c)) w := by
    intro d
    cases ao <;> simp [Op.equalIn, run_underlying hu, isNil]
  have he' : (Op.equal t (.slice ao n c) (.slice none 0 0)).run P w = .ok (isNil (.slice ao n c)) w := he 9999
  cases op <;> simp only at hs <;> (try (cases hs; done)) <;> cases hs
  · simp only [execOp, ho, hx, hy, Sem.run_bind, hg, Result.andThen_ok, binOp, he', Sem.run_pure]
  · simp only [execOp, ho, hx, hy, Sem.run_bind, hg, Result.andThen_ok, binOp, he', Sem.run_pure]
theorem isNil_len {v : Value} {n sz : Nat} {cs : List Value} (hr : Rds v n sz cs w) (h : isNil v = true) : n = 0 := by
  obtain ⟨_, ao, c, rfl, h1, h2, h3, _⟩ := hr
  cases ao with
  | none => have := h3 rfl; omega
  | some _ => simp [isNil] at h
theorem flat_all {α : Type} (F : Flat α) (l : List α) : (l.flatMap F.cells).all (·.oneCell') = true := by
  simp only [List.all_eq_true]
  exact flat_one F l
theorem all_one {l : List Value} (h : l.all (·.oneCell') = true) : ∀ u ∈ l, u.oneCell' = true := by simpa using h
theorem add0 {ρ : Operand → Value} {x : Operand} {ad : Addr} (h : ρ x = .pointer (some ad)) : ρ x = .pointer (some (ad.add 0)) := by
  rw [h]; simp [Addr.add]
theorem flat_set {α : Type} (F : Flat α) (l : List α) (i : Nat) (x : α) (h : i < l.length) : (l.set i x).flatMap F.cells = (l.flatMap F.cells).take (i * F.sz) ++ F.cells x ++ (l.flatMap F.cells).drop (i * F.sz + F.sz) := by
  have e : i * F.sz + F.sz = (i + 1) * F.sz := by rw [Nat.add_mul]; omega
  rw [e, flat_take, flat_drop, List.set_eq_take_append_cons_drop, if_pos h, List.flatMap_append, List.flatMap_cons, List.append_assoc]
/-- A store into an element of a row of one's own. -/
theorem eff_sto {α : Type} {F : Flat α} {l : List α} {li e n off : Nat} {i : Int} {t : TypeId} {v : Value} {us : List Value} {x y : Operand} {x' : α} (C : Ctx w0 D A L R w)
    (hL : L[li]? = some (rowE v e F.sz n (l.flatMap F.cells))) (hn : n = l.length) (hx : ρ x = .pointer (some ((elemA v (i.toNat * F.sz)).add off))) (h0 : 0 ≤ i) (h1 : i < l.length)
    (hy : (ρ y).cells.toList = us) (h2 : us.all (·.oneCell') = true) (ho' : Nat.ble (off + us.length) F.sz = true) (hs : sizeIs P t us.length = true) (hc : splice (F.cells (l.getD i.toNat F.dflt)) off us = F.cells x') :
    Eff P ρ (.store t x y) w (fun _ w' => Ctx w0 D A (L.set li (rowE v e F.sz (l.set i.toNat x').length ((l.set i.toNat x').flatMap F.cells))) R w') := by
  subst hn
  have ho : off + us.length ≤ F.sz := Nat.le_of_ble_eq_true ho'
  have hown : w.ownsRow 0 e F.sz v l.length (l.flatMap F.cells) := C.okL li _ hL
  have hi : i.toNat < l.length := by omega
  rcases hown.2 with ⟨rfl, h⟩ | ⟨g, cap, cur, rfl, hb, hg, hnc, hcm, hcs, htk⟩
  · omega
  · have hz : (ρ y).cells.size = us.length := by rw [← hy]; simp
    have hsz : i.toNat * F.sz + F.sz ≤ l.length * F.sz := by
      have : (i.toNat + 1) * F.sz ≤ l.length * F.sz := Nat.mul_le_mul_right _ hi
      rw [Nat.add_mul] at this; omega
    have hcap : l.length * F.sz ≤ cur.size := by rw [hcs]; exact Nat.mul_le_mul_right _ hnc
    have hst := run_storeCells_at P g (i.toNat * F.sz + off) e us 0 cur w hg (by omega) (by simpa using h2)
    have ha : (elemA (.slice (some ⟨g, 0, none⟩) l.length cap) (i.toNat * F.sz)).add off = ⟨g, i.toNat * F.sz + off, none⟩ := by
      simp only [elemA]; rw [add_plain, add_plain, Nat.zero_add]
    have hwhole : cur.toList.take (i.toNat * F.sz + off) ++ us ++ cur.toList.drop (i.toNat * F.sz + off + us.length) =
        (cur.toList.take (i.toNat * F.sz) ++ F.cells x' ++ cur.toList.drop (i.toNat * F.sz + F.sz)) := by
      have hel : F.cells (l.getD i.toNat F.dflt) = (cur.toList.drop (i.toNat * F.sz)).take F.sz := by
        have h3 : (l.drop i.toNat).flatMap F.cells = (cur.toList.take (l.length * F.sz)).drop (i.toNat * F.sz) := by rw [htk, flat_drop]
        have h4 : l.drop i.toNat = l.getD i.toNat F.dflt :: l.drop (i.toNat + 1) := by
          rw [List.drop_eq_getElem_cons hi]; congr 1; simp [List.getD, hi]
        rw [h4, List.flatMap_cons] at h3
        have h5 := congrArg (List.take F.sz) h3
        rw [List.take_append_of_le_length (by rw [F.len]; exact Nat.le_refl _), List.take_of_length_le (by rw [F.len]; exact Nat.le_refl _)] at h5
        rw [h5, List.drop_take, List.take_take]
        congr 1
        omega
      rw [← hc, hel]
      unfold splice
      rw [List.take_take, Nat.min_eq_left (by omega), List.drop_take, List.drop_drop]
      have e1 : cur.toList.take (i.toNat * F.sz + off) = cur.toList.take (i.toNat * F.sz) ++ (cur.toList.drop (i.toNat * F.sz)).take off := by
        rw [List.take_add]
      have e2 : cur.toList.drop (i.toNat * F.sz + off + us.length) = (cur.toList.drop (i.toNat * F.sz + (off + us.length))).take (F.sz - (off + us.length)) ++ cur.toList.drop (i.toNat * F.sz + F.sz) := by
        conv => lhs; rw [show i.toNat * F.sz + off + us.length = i.toNat * F.sz + (off + us.length) by omega, ← List.take_append_drop (F.sz - (off + us.length)) (cur.toList.drop (i.toNat * F.sz + (off + us.length)))]
        rw [List.drop_drop]
        congr 2
        omega
      rw [e1, e2]
      simp only [List.append_assoc]
    refine eff_skip (w' := w.setRow g (cur.toList.take (i.toNat * F.sz) ++ F.cells x' ++ cur.toList.drop (i.toNat * F.sz + F.sz)).toArray) ?_ ?_
    · intro o ho'
      unfold sizeIs at hs
      cases hq : P.info? t with
      | none => simp [hq] at hs
      | some q =>
        have hs' : q.size = us.length := by simpa [hq] using hs
        simp only [Nat.add_zero] at hst
        rw [ha] at hx
        rw [← hwhole]
        simp [execOp, ho', Instr.storeAt, hx, Instr.sureAddr, storeVar, sizeOf, typeInfo, hq, hs', hz, hy, hst]
    · refine ctx_set C hL ((fr_setRow w g _).mono (fun x hx => by subst hx; rfl)) ?_ (fun x h => .inl h)
      have hl : (l.set i.toNat x').length = l.length := by simp
      rw [hl]
      refine ⟨by rw [flat_len, hl], .inr ⟨g, cap, _, rfl, Nat.zero_le _, setRow_heap w g cur _ e _ hg, hnc, hcm, ?_, ?_⟩⟩
      · simp only [List.size_toArray, List.length_append, List.length_take, List.length_drop, Array.length_toList, F.len]
        omega
      · rw [flat_set F l i.toNat x' hi, ← htk]
        simp only [List.toList_toArray, List.append_assoc]
        have e1 : (cur.toList.take (i.toNat * F.sz)).take (l.length * F.sz) = cur.toList.take (i.toNat * F.sz) := by rw [List.take_take, Nat.min_eq_right (by omega)]
        have e2 : (cur.toList.take (l.length * F.sz)).take (i.toNat * F.sz) = cur.toList.take (i.toNat * F.sz) := by rw [List.take_take, Nat.min_eq_left (by omega)]
        have e3 : (F.cells x').take (l.length * F.sz - i.toNat * F.sz) = F.cells x' := List.take_of_length_le (by rw [F.len]; omega)
        rw [List.take_append, e1, e2, List.length_take, Nat.min_eq_left (by simp; omega), List.take_append, F.len, e3, List.drop_take, Nat.sub_sub]
end
end Go.Proofs.Ytmpnlafggebaiaa
