/- Slices: literals, cuts, what is appended, what is stored into a row; strings. No condition. -/
import Derived.Test.YtmpnlafggebaiaaLE
set_option linter.unusedVariables false
set_option linter.unusedSimpArgs false
namespace Go.Proofs.Ytmpnlafggebaiaa
open Go
section
variable {P : Program} {ρ : Operand → Value} {w0 w : World} {D A : Nat → Prop} {L R : List Ent}
def sliceC (P : Program) (t : TypeId) (n : Nat) (parts : List (Nat × Value)) : Option (TypeId × Nat × List Value) :=
  match P.underlying t with
  | some (.slice e) => match P.info? e with
    | some i => if n * i.size > 2 ^ 24 then none else
      let z := if n * i.size = 0 then some #[] else i.zero.map (·.cells)
      z.bind fun z => (Instr.fill (fun j => some (j * i.size, i.size)) ((Array.range (n * i.size)).map (z[· % z.size]!)) parts).map fun cs => (e, i.size, cs.toList)
    | none => none
  | _ => none
theorem eff_slit {t e : TypeId} {n sz : Nat} {parts : Array (Nat × Operand)} {cs : List Value} (C : Ctx w0 D A L R w)
    (h : sliceC P t n ((parts.map fun (i, x) => (i, ρ x)).toList) = some (e, sz, cs)) (hl : cs.length = n * sz) (hn : n ≤ 9223372036854775807) :
    Eff P ρ (.buildSlice t n parts) w (fun v w' => (∃ b, v = .slice (some ⟨b, 0, none⟩) n n) ∧ Ctx w0 D A (L ++ [rowE v e sz n cs]) R w') := by
  unfold sliceC at h
  split at h
  · rename_i e' hu
    split at h
    · rename_i q hq
      split at h
      · cases h
      · rename_i hbig
        obtain ⟨z, hz, h⟩ := Option.bind_eq_some_iff.1 h
        obtain ⟨cs', hf, h⟩ := Option.map_eq_some_iff.1 h
        simp only [Prod.mk.injEq] at h
        obtain ⟨rfl, rfl, rfl⟩ := h
        refine eff_runs (v := .slice (some ⟨w.heap.size, 0, none⟩) n n) (w' := w.alloc (.cells cs' e')) ?_ ⟨⟨_, rfl⟩, ?_⟩
        · intro o ho
          have hf' := hf
          by_cases h0 : n * q.size = 0
          · rw [if_pos h0] at hz
            cases hz
            simp [h0] at hf'
            simp [execOp, ho, Instr.buildSlice, run_underlying hu, sizeOf, typeInfo, hq, h0, newRow]
            rw [hf']
            simp
          · rw [if_neg h0] at hz
            obtain ⟨z', hz', rfl⟩ := Option.map_eq_some_iff.1 hz
            simp [execOp, ho, Instr.buildSlice, run_underlying hu, sizeOf, typeInfo, hq, hbig, h0, zeroValue, hz', newRow]
            simp only [Array.toList_map] at hf'
            rw [hf']
            simp
        · exact ctx_new C (Fr.alloc w _) (World.ownsRow_lit w cs' n (Nat.zero_le _) (by simpa [maxLen] using hn) (by simpa using hl)) (fun b hb => by simp [rowE, Value.ownBlock] at hb; omega)
    · cases h
  · cases h
/-- What is appended to a row of the call's own. -/
theorem eff_append {li n m sz bytes : Nat} {e t : TypeId} {v y z : Value} {xs news : List Value} {s x : Operand} (C : Ctx w0 D A L R w) (hL : L[li]? = some (rowE v e sz n xs))
    (hs : ρ s = v) (hx : ρ x = y) (hy : Rds y m sz news w) (h1 : ∀ u ∈ news, u.oneCell' = true)
    (ht : elemInfo P t = some (e, sz, bytes, some z)) (hz : z.cells.size = sz) (h0 : 0 < sz) (hb : (n + m) * bytes ≤ 140737488355328) (hb0 : 0 < bytes) :
    Eff P ρ (.call { callee := .builtin .append, args := #[s, x], argTypes := #[t, t] }) w (fun v' w' => Ctx w0 D A (L.set li (rowE v' e sz (n + m) (xs ++ news))) R w') := by
  have hown : w.ownsRow 0 e sz v n xs := C.okL li _ hL
  unfold elemInfo at ht
  split at ht
  · rename_i e' hu
    obtain ⟨i, hi, hh⟩ := Option.map_eq_some_iff.1 ht
    simp only [Prod.mk.injEq] at hh
    obtain ⟨rfl, rfl, rfl, hzero⟩ := hh
    have hlen : n + m ≤ 140737488355328 := Nat.le_trans (Nat.le_mul_of_pos_right _ hb0) hb
    obtain ⟨hl, ao, c, rfl, h3, h4, h5, h2⟩ := hy
    cases ao with
    | none =>
      have hc := h5 rfl
      subst hc
      obtain rfl : m = 0 := by omega
      have : news = [] := List.eq_nil_of_length_eq_zero (by simpa using hl)
      subst this
      have hr := fun ty => run_append_owned_none (P := P) w 0 t ty e' i i.size hu hi v n xs hown
      refine eff_runs (v := v) (w' := w) ?_ ?_
      · intro o ho
        simp [execOp, ho, resolve, invoke, builtin, hs, hx, hr]
      · exact ctx_set C hL (Fr.refl _ _) (by simpa [rowE] using hown) (fun b h => .inl h)
    | some ad =>
      have hr := fun ty => run_append_own_at (P := P) w 0 t ty e' i z i.size i.bytes hu hi hzero rfl rfl hz h0 v n xs hown ad m c news hl
        (fun j u hu => by obtain ⟨ad', ha, hc⟩ := h2 j u hu; cases ha; exact hc) h1 (by simp only [maxLen]; omega) hb (Nat.zero_le _)
      intro o a next Q' ho he k
      obtain ⟨v', w', hrun, r1, r2, _, r4⟩ := hr o.type
      unfold Oper.wp
      have hx' : (execOp ρ o).run P w = .ok (.value v') w' := by
        simp [execOp, ho, resolve, invoke, builtin, hs, hx, hrun]
      rw [he, hx']
      refine k v' w' (ctx_set C hL (Fr.of_grown r2) r1 (fun b hb => ?_))
      simp only [rowE] at hb ⊢
      rcases r4 with r4 | r4
      · exact .inl (r4 ▸ hb)
      · rw [r4] at hb; cases hb; exact .inr (Nat.le_refl _)
  · cases ht
/-- A cut of a slice that is read. -/
def loOf : Option Value → Nat → Option Nat
  | none, _ => some 0
  | some (.int _ i), hi => if 0 ≤ i ∧ i ≤ hi then some i.toNat else none
  | _, _ => none
def hiOf : Option Value → Nat → Option Nat
  | none, n => some n
  | some (.int _ i), n => if 0 ≤ i ∧ i ≤ n then some i.toNat else none
  | _, _ => none
theorem run_bound {k : IntKind} {i : Int} {y : Nat} {code : BoundsCode} (h : 0 ≤ i ∧ i ≤ y) : (Instr.sliceBound (.int k i) y code).run P w = .ok i.toNat w := by
  simp [Instr.sliceBound, asIntOf, h]
theorem loOf_le {lo : Option Value} {hi l : Nat} (h : loOf lo hi = some l) : l ≤ hi := by
  unfold loOf at h
  split at h
  · cases h; exact Nat.zero_le _
  · split at h
    · cases h; omega
    · cases h
  · cases h
theorem run_bounds {lo hi : Option Value} {n c h l : Nat} (hh : hiOf hi n = some h) (hl : loOf lo h = some l) (hn : n ≤ c) : (Instr.sliceBounds true n c lo hi none).run P w = .ok (l, h, c) w := by
  cases hi with
  | none =>
    simp only [hiOf, Option.some.injEq] at hh
    subst hh
    cases lo with
    | none => simp only [loOf, Option.some.injEq] at hl; subst hl; simp [Instr.sliceBounds]
    | some v =>
      cases v <;> simp only [loOf] at hl <;> (try (cases hl; done))
      split at hl <;> (try (cases hl; done))
      rename_i hb
      cases hl
      simp [Instr.sliceBounds, run_bound hb]
  | some u =>
    cases u <;> simp only [hiOf] at hh <;> (try (cases hh; done))
    split at hh <;> (try (cases hh; done))
    rename_i ku iu hu
    cases hh
    have hu' : 0 ≤ iu ∧ iu ≤ (c : Int) := by omega
    cases lo with
    | none => simp only [loOf, Option.some.injEq] at hl; subst hl; simp [Instr.sliceBounds, run_bound hu']
    | some v =>
      cases v <;> simp only [loOf] at hl <;> (try (cases hl; done))
      split at hl <;> (try (cases hl; done))
      rename_i hb
      cases hl
      simp [Instr.sliceBounds, run_bound hu', run_bound hb]
def cutV (v : Value) (l h sz : Nat) : Value :=
  match v with
  | .slice ao _ c => .slice (if c = l then ao else ao.map (·.add (l * sz))) (h - l) (c - l)
  | _ => undef
def cutV3 (v : Value) (l h sz : Nat) : Value :=
  match v with
  | .slice ao _ _ => .slice (if h = l then ao else ao.map (·.add (l * sz))) (h - l) (h - l)
  | _ => undef
theorem hiOf_le {hi : Option Value} {n h : Nat} (hh : hiOf hi n = some h) : h ≤ n := by
  unfold hiOf at hh
  split at hh
  · cases hh; exact Nat.le_refl _
  · split at hh
    · cases hh; omega
    · cases hh
  · cases hh
theorem r_cut {v : Value} {n sz h l : Nat} {t : TypeId} {x : Operand} {lo hi : Option Operand} (hr : Shp v n) (hx : ρ x = v) (ht : elemSz P t = some sz)
    (hh : hiOf (hi.map ρ) n = some h) (hlo : loOf (lo.map ρ) h = some l) : Runs P ρ (.slice t x lo hi none) w (cutV v l h sz) w := by
  obtain ⟨ao, c, rfl, h3, h4, h5⟩ := hr
  unfold elemSz at ht
  split at ht
  · rename_i e hu
    obtain ⟨q, hq, hs⟩ := Option.map_eq_some_iff.1 ht
    intro o ho
    have hb := run_bounds (P := P) (w := w) hh hlo h3
    simp [execOp, ho, Instr.sliceAt, run_underlying hu, Instr.slice, hx, hb, sizeOf, typeInfo, hq, hs, cutV]
  · cases ht
theorem run_bounds3 {lo hi : Option Value} {n c h l : Nat} (hh : hiOf hi n = some h) (hi' : hi.isSome = true) (hl : loOf lo h = some l) (hn : n ≤ c) : (Instr.sliceBounds true n c lo hi hi).run P w = .ok (l, h, h) w := by
  cases hi with
  | none => cases hi'
  | some u =>
    cases u <;> simp only [hiOf] at hh <;> (try (cases hh; done))
    split at hh <;> (try (cases hh; done))
    rename_i ku iu hu
    cases hh
    have hu' : 0 ≤ iu ∧ iu ≤ (c : Int) := by omega
    have hu2 : 0 ≤ iu ∧ iu ≤ (iu.toNat : Int) := by omega
    cases lo with
    | none => simp only [loOf, Option.some.injEq] at hl; subst hl; simp [Instr.sliceBounds, run_bound hu', run_bound hu2]
    | some v =>
      cases v <;> simp only [loOf] at hl <;> (try (cases hl; done))
      split at hl <;> (try (cases hl; done))
      rename_i hb
      cases hl
      simp [Instr.sliceBounds, run_bound hu', run_bound hu2, run_bound hb]
theorem r_cut3 {v : Value} {n sz h l : Nat} {t : TypeId} {x : Operand} {lo hi mx : Option Operand} (hr : Shp v n) (hx : ρ x = v) (ht : elemSz P t = some sz)
    (hh : hiOf (hi.map ρ) n = some h) (hlo : loOf (lo.map ρ) h = some l) (hm : (hi.isSome, mx.map ρ) = (true, hi.map ρ)) : Runs P ρ (.slice t x lo hi mx) w (cutV3 v l h sz) w := by
  obtain ⟨ao, c, rfl, h3, h4, h5⟩ := hr
  simp only [Prod.mk.injEq] at hm
  unfold elemSz at ht
  split at ht
  · rename_i e hu
    obtain ⟨q, hq, hs⟩ := Option.map_eq_some_iff.1 ht
    intro o ho
    have hb := run_bounds3 (P := P) (w := w) hh (by simpa using hm.1) hlo h3
    simp [execOp, ho, Instr.sliceAt, run_underlying hu, Instr.slice, hx, hm.2, hb, sizeOf, typeInfo, hq, hs, cutV3]
  · cases ht
theorem cut_rds {v : Value} {n sz h l : Nat} {cs : List Value} (hr : Rds v n sz cs w) (hlh : l ≤ h) (hhn : h ≤ n) : Rds (cutV v l h sz) (h - l) sz ((cs.take (h * sz)).drop (l * sz)) w := by
  obtain ⟨hl, ao, c, rfl, h3, h4, h5, h2⟩ := hr
  refine ⟨?_, _, _, rfl, by omega, by omega, ?_, ?_⟩
  · rw [List.length_drop, List.length_take, hl, Nat.min_eq_left (Nat.mul_le_mul_right _ hhn), Nat.sub_mul]
  · intro hn
    split at hn
    · have := h5 hn; omega
    · cases ao with
      | none => have := h5 rfl; omega
      | some ad => simp at hn
  · intro j u hu'
    rw [List.getElem?_drop, List.getElem?_take] at hu'
    split at hu'
    · obtain ⟨ad, rfl, hc⟩ := h2 _ u hu'
      split
      · rename_i he
        have h6 : l * sz + j < h * sz := by assumption
        have : h * sz ≤ l * sz := Nat.mul_le_mul_right _ (by omega)
        omega
      · exact ⟨ad.add (l * sz), rfl, by rw [add_add]; exact hc⟩
    · cases hu'
theorem cut3_rds {v : Value} {n sz h l : Nat} {cs : List Value} (hr : Rds v n sz cs w) (hlh : l ≤ h) (hhn : h ≤ n) : Rds (cutV3 v l h sz) (h - l) sz ((cs.take (h * sz)).drop (l * sz)) w := by
  obtain ⟨hl, ao, c, rfl, h3, h4, h5, h2⟩ := hr
  refine ⟨?_, _, _, rfl, by omega, by omega, ?_, ?_⟩
  · rw [List.length_drop, List.length_take, hl, Nat.min_eq_left (Nat.mul_le_mul_right _ hhn), Nat.sub_mul]
  · intro hn
    split at hn
    · omega
    · cases ao with
      | none => have := h5 rfl; omega
      | some ad => simp at hn
  · intro j u hu'
    rw [List.getElem?_drop, List.getElem?_take] at hu'
    split at hu'
    · obtain ⟨ad, rfl, hc⟩ := h2 _ u hu'
      split
      · rename_i he
        have h6 : l * sz + j < h * sz := by assumption
        have : h * sz ≤ l * sz := Nat.mul_le_mul_right _ (by omega)
        omega
      · exact ⟨ad.add (l * sz), rfl, by rw [add_add]; exact hc⟩
    · cases hu'
theorem cut_addr (v : Value) (l h sz : Nat) : ∀ b, addrOf (cutV v l h sz) = some b → addrOf v = some b := by
  intro b hb
  unfold cutV at hb
  split at hb
  · rename_i ao n c
    by_cases hc : c = l
    · rw [if_pos hc] at hb
      cases ao with
      | none => simp [addrOf] at hb
      | some ad => simpa [addrOf] using hb
    · rw [if_neg hc] at hb
      cases ao with
      | none => simp [addrOf] at hb
      | some ad => simpa [addrOf, add_block] using hb
  · simp [addrOf, undef] at hb
theorem cut3_addr (v : Value) (l h sz : Nat) : ∀ b, addrOf (cutV3 v l h sz) = some b → addrOf v = some b := by
  intro b hb
  unfold cutV3 at hb
  split at hb
  · rename_i ao n c
    by_cases hc : h = l
    · rw [if_pos hc] at hb
      cases ao with
      | none => simp [addrOf] at hb
      | some ad => simpa [addrOf] using hb
    · rw [if_neg hc] at hb
      cases ao with
      | none => simp [addrOf] at hb
      | some ad => simpa [addrOf, add_block] using hb
  · simp [addrOf, undef] at hb
theorem cut3_cap (v : Value) (l h sz : Nat) {n : Nat} (hr : Shp (cutV3 v l h sz) n) : ∃ ao, cutV3 v l h sz = .slice ao n n ∧ (ao = none → n = 0) := by
  obtain ⟨ao, c, he, h1, h2, h3⟩ := hr
  unfold cutV3 at he ⊢
  split at he
  · simp only [Value.slice.injEq] at he
    obtain ⟨rfl, rfl, rfl⟩ := he
    exact ⟨_, rfl, h3⟩
  · cases he
/-- What is appended to a slice without room. -/
theorem eff_appfull {n m sz bytes : Nat} {e t : TypeId} {v y z : Value} {xs news : List Value} {s x : Operand} (hc : ∃ ao, v = .slice ao n n ∧ (ao = none → n = 0)) (hv : Rds v n sz xs w)
    (hs : ρ s = v) (hx : ρ x = y) (hy : Rds y m sz news w) (h1 : ∀ u ∈ news, u.oneCell' = true)
    (ht : elemInfo P t = some (e, sz, bytes, some z)) (hz : z.cells.size = sz) (h0 : 0 < sz) (hb : (n + m) * bytes ≤ 140737488355328) (hb0 : 0 < bytes) :
    Eff P ρ (.call { callee := .builtin .append, args := #[s, x], argTypes := #[t, t] }) w
      (fun v' w' => Fr nob w w' ∧ Rds v' (n + m) sz (xs ++ news) w' ∧ ∀ b, addrOf v' = some b → (news = [] ∧ addrOf v = some b) ∨ w.heap.size ≤ b) := by
  obtain ⟨ao, rfl, hn0⟩ := hc
  unfold elemInfo at ht
  split at ht
  · rename_i e' hu
    obtain ⟨i, hi, hh⟩ := Option.map_eq_some_iff.1 ht
    simp only [Prod.mk.injEq] at hh
    obtain ⟨rfl, rfl, rfl, hzero⟩ := hh
    have hlen : n + m ≤ 140737488355328 := Nat.le_trans (Nat.le_mul_of_pos_right _ hb0) hb
    have hv' := hv
    obtain ⟨hl, ao', c', he, _, _, _, h2⟩ := hv
    simp only [Value.slice.injEq] at he
    obtain ⟨rfl, -, rfl⟩ := he
    obtain ⟨hly, ay, cy, rfl, h3, h4, h5, h6⟩ := hy
    by_cases hm : m = 0
    · subst hm
      have : news = [] := List.eq_nil_of_length_eq_zero (by simpa using hly)
      subst this
      refine eff_runs (v := .slice ao n n) (w' := w) ?_ ⟨Fr.refl _ _, by simpa using hv', fun b hb => .inl ⟨rfl, hb⟩⟩
      intro o ho
      have hfc : (Builtin.firstCells i.size 0 (.slice ay 0 cy)).run P w = .ok #[] w := by
        cases ay <;> simp [Builtin.firstCells, loadCells, loadCellsFrom]
      cases ao <;> simp [execOp, ho, resolve, invoke, builtin, hs, hx, Builtin.append_, run_underlying hu, sizeOf, typeInfo, hi, Builtin.lenOf, hfc, storeCells]
    · cases ay with
      | none => have := h5 rfl; omega
      | some ad =>
        have hnews : ∀ j u, news[j]? = some u → w.cell? (ad.add j) = some u := fun j u hu => by
          obtain ⟨ad', ha, hc⟩ := h6 j u hu; cases ha; exact hc
        have main : ∀ ty, ∃ v' w', (Builtin.append_ #[t, t] ty #[.slice ao n n, .slice (some ad) m cy]).run P w = .ok v' w' ∧ w'.ownsRow w.heap.size e' i.size v' (n + m) (xs ++ news) ∧ w.grownBy w' none := by
          intro ty
          cases ao with
          | none =>
            obtain rfl := hn0 rfl
            have hx0 : xs = [] := List.eq_nil_of_length_eq_zero (by simpa using hl)
            subst hx0
            have hr := run_append_own_at (P := P) w w.heap.size t ty e' i z i.size i.bytes hu hi hzero rfl rfl hz h0 (.slice none 0 0) 0 [] (World.ownsRow_nil w _ _ _) ad m cy news hly hnews
            obtain ⟨v', w', r, r1, r2, _, _⟩ := hr h1 (by simp only [maxLen]; omega) hb (Nat.le_refl _)
            exact ⟨v', w', r, r1, r2⟩
          | some ad0 =>
            exact run_append_arg_grows (P := P) w t ty e' i z i.size i.bytes hu hi hzero rfl rfl hz h0 ad0 n n xs hl (fun j u hu => by obtain ⟨ad', ha, hc⟩ := h2 j u hu; cases ha; exact hc) ad m cy news hly hnews (by omega) (by simp only [maxLen]; omega) hb
        intro o a next Q' ho he k
        obtain ⟨v', w', hrun, r1, r2⟩ := main o.type
        unfold Oper.wp
        have hx' : (execOp ρ o).run P w = .ok (.value v') w' := by
          simp [execOp, ho, resolve, invoke, builtin, hs, hx, hrun]
        rw [he, hx']
        have r3 : w'.ownsRow 0 e' i.size v' (n + m) (xs ++ news) := by
          refine ⟨r1.1, ?_⟩
          rcases r1.2 with h | ⟨g, cap, cur, h1, _, h3⟩
          · exact .inl h
          · exact .inr ⟨g, cap, cur, h1, Nat.zero_le _, h3⟩
        refine k v' w' ⟨(Fr.of_grown r2).mono (fun x hx => by cases hx), rds_of_row r3, fun b hb => .inr ?_⟩
        rcases r1.2 with ⟨rfl, _⟩ | ⟨g, cap, cur, rfl, h1, _⟩
        · simp [addrOf] at hb
        · simp [addrOf] at hb; omega
  · cases ht
end
end Go.Proofs.Ytmpnlafggebaiaa
