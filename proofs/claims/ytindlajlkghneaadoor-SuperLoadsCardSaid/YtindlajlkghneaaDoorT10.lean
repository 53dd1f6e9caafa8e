/- Texts of the proof, put together: part 10. No condition. -/
import Derived.Test.YtindlajlkghneaaDoorT9
/- The plain law of SuperLoads. No condition. -/
set_option linter.unusedVariables false
set_option linter.unusedSimpArgs false
namespace Go.Proofs.YtindlajlkghneaaDoor
open Go
def SuperLoadsPure : Prop := ∀ (z0 : Ty.den (.sl 33 (.pair (.int .i64) (.pair (.int .i64) (.arr 32 (.int .u8)))))), wfT (.sl 33 (.pair (.int .i64) (.pair (.int .i64) (.arr 32 (.int .u8))))) z0 → ∃ k, law18_SuperLoads k (z0, vgl_sha_keys) = some true
/-- May the freeze at a place be anchored behind those ahead of it? -/
def okAt (l : List Fz) (i : Nat) (h : i < l.length) : Prop := mayF (l[i]).1 (l[i]).2.1 ∧ lastW (l.take i) < (l[i]).1
theorem take_snoc (l : List Fz) (i : Nat) (h : i < l.length) : l.take (i + 1) = l.take i ++ [l[i]] := by
  rw [List.take_add_one, List.getElem?_eq_getElem h]; rfl
theorem load_ok (l : List Fz) (hb : l.length ≤ 16) : ∃ r, super_Load 1000 (l, vgl_sha_keys) = some r ∧
    ((∃ lv n pk, r = .inr (0, l, lv, n, pk) ∧ Inv l lv n pk ∧ ∀ i h, okAt l i h) ∨ (r = .inl 10 ∧ ∃ i h, ¬ okAt l i h)) := by
  unfold super_Load
  dsimp only
  refine loop_bindE (fun d h => ∃ (i : Nat) (lv : List Vh) (n : Int) (pk : List Vh), h = (0, (i : Int), n, pk, l.take i, lv) ∧ i + d = l.length ∧ Inv (l.take i) lv n pk ∧ ∀ j hj, j < i → okAt l j hj)
    (fun e : Int × Int × List Vh × List Fz × List Vh => (∃ lv n pk, e = (0, n, pk, l, lv) ∧ Inv l lv n pk ∧ ∀ i h, okAt l i h) ∨ (e.1 ≠ 0 ∧ ∃ i h, ¬ okAt l i h)) l.length (by omega) ⟨0, [], 0, [], rfl, by omega, inv_nil, fun j _ h => by omega⟩ ?_ ?_
  · rintro d _ ⟨i, lv, n, pk, rfl, h1, I, h2⟩
    dsimp only
    by_cases a : i < l.length
    · have ea : at_ T5 l (i : Int) = l[i] := at_nat (t := TF) a
      have ei : WK .i64 ((i : Int) + 1) = ((i + 1 : Nat) : Int) := wk_i64 (by omega) (by omega)
      have htl : (l.take i).length = i := by rw [List.length_take]; omega
      rw [ilt_t (show (i : Int) < llen l by unfold llen; omega), condO_true, guardO_pos ⟨by omega, by unfold llen; omega⟩, ea, ei]
      by_cases hm : mayF (l[i]).1 (l[i]).2.1
      · by_cases hw : lastW (l.take i) < (l[i]).1
        · obtain ⟨lv', n', pk', hgo, I'⟩ := anchor_go (l[i]).2.2 hm I (by omega) hw
          rw [hgo, Option.bind_some]
          dsimp only
          rw [ine_f (rfl : (0 : Int) = 0), condO_false]
          have et : l.take i ++ [((l[i]).1, (l[i]).2.1, (l[i]).2.2)] = l.take (i + 1) := (take_snoc l i a).symm
          rw [et] at I' ⊢
          exact .on (d - 1) (by omega) ⟨i + 1, lv', n', pk', rfl, by omega, I', fun j hj hlt => by
            rcases Nat.lt_or_ge j i with h | h
            · exact h2 j hj h
            · obtain rfl : j = i := by omega
              exact ⟨hm, hw⟩⟩
        · rw [anchor_state (l[i]).2.2 hm _ lv n pk (by omega) (by omega), Option.bind_some]
          dsimp only
          rw [ine_t (show (13 : Int) ≠ 0 by decide), condO_true]
          exact .out (.inr ⟨by show (13 : Int) ≠ 0; decide, i, a, fun h => hw h.2⟩)
      · rw [anchor_arg (l[i]).2.2 hm, Option.bind_some]
        dsimp only
        rw [ine_t (show (1 : Int) ≠ 0 by decide), condO_true]
        exact .out (.inr ⟨by show (1 : Int) ≠ 0; decide, i, a, fun h => hm h.1⟩)
    · rw [ilt_f (show llen l ≤ (i : Int) by unfold llen; omega), condO_false]
      rw [List.take_of_length_le (by omega)] at I ⊢
      exact .out (.inl ⟨lv, n, pk, rfl, I, fun j hj => h2 j hj (by omega)⟩)
  · rintro e (⟨lv, n, pk, rfl, I, h⟩ | ⟨he, h⟩)
    · exact ⟨_, rfl, .inl ⟨lv, n, pk, rfl, I, h⟩⟩
    · rw [ine_t he, condO_true]
      exact ⟨_, rfl, .inr ⟨rfl, h⟩⟩
theorem ranchor_arg {w c : Int} (r : Vh) (h : ¬ mayF w c) (all : List Fz) : ref18_Super_Anchor 1000 (w, c, r, all) = some (0, 1, all) := by
  unfold ref18_Super_Anchor
  refine bind_of (rfz_no h r) ?_
  dsimp only
  rw [ine_t (show (1 : Int) ≠ 0 by decide), condO_true]
theorem ranchor_state {w c : Int} (r : Vh) (h : mayF w c) (all : List Fz) (hb : all.length ≤ 1000) (hw : w ≤ lastW all) : ref18_Super_Anchor 1000 (w, c, r, all) = some (0, 13, all) := by
  have hne : all ≠ [] := by
    rintro rfl
    have : lastW [] = -1 := rfl
    have := h.1
    omega
  have hl : 0 < all.length := List.length_pos_iff.2 hne
  unfold ref18_Super_Anchor
  refine bind_of (rfz_yes h r) ?_
  dsimp only
  rw [ine_f (rfl : (0 : Int) = 0), condO_false, igt_t (show 0 < llen all by unfold llen; omega), condO_true, last_ix hne hb, guardO_pos ⟨by omega, by unfold llen; omega⟩]
  have e : (at_ T5 all ((all.length - 1 : Nat) : Int)).1 = lastW all := last_at hne
  rw [e, ige_t hw, condO_true]
  rfl
theorem ranchor_go {w c : Int} (r : Vh) (h : mayF w c) (all : List Fz) (hb : all.length ≤ 60) (hw : lastW all < w) : ref18_Super_Anchor 1000 (w, c, r, all) = some ((all.length : Int), 0, all ++ [(w, c, r)]) := by
  unfold ref18_Super_Anchor
  refine bind_of (rfz_yes h r) ?_
  dsimp only
  have key : (condO (igt (llen all) 0) (guardO ((inR (WK .i64 ((llen all) - 1)) (llen all))) (condO (ige (at_ T5 all (WK .i64 ((llen all) - 1))).1 w) (some (.inl (0, 13))) (some (.inr (()))))) (some (.inr (()))) : Option ((Int × Int) ⊕ (Unit))) = some (.inr ()) := by
    by_cases hne : all = []
    · subst hne; rfl
    · have hl : 0 < all.length := List.length_pos_iff.2 hne
      rw [igt_t (show 0 < llen all by unfold llen; omega), condO_true, last_ix hne (by omega), guardO_pos ⟨by omega, by unfold llen; omega⟩]
      have e : (at_ T5 all ((all.length - 1 : Nat) : Int)).1 = lastW all := last_at hne
      rw [e, ige_f hw, condO_false]
  rw [ine_f (rfl : (0 : Int) = 0), condO_false]
  refine bind_of key ?_
  rw [caseS_inr, guardO_pos (show appOk _ _ _ from by unfold appOk; simp; omega)]
  have e1 : WK .i64 (llen (all ++ [(w, c, r)]) - 1) = (all.length : Int) := by
    have : llen (all ++ [(w, c, r)]) = (all.length : Int) + 1 := by unfold llen; simp
    rw [this, wk_i64 (by omega) (by omega)]; omega
  rw [e1]
theorem may_ok (l : List Fz) (hb : l.length ≤ 16) : ∃ r, ref18_May 1000 l = some r ∧ ((r = true ∧ ∀ i h, okAt l i h) ∨ (r = false ∧ ∃ i h, ¬ okAt l i h)) := by
  unfold ref18_May
  refine loop_bindE (fun d h => ∃ i : Nat, h = ((i : Int), l.take i) ∧ i + d = l.length ∧ ∀ j hj, j < i → okAt l j hj)
    (fun e : (Bool × List Fz) ⊕ List Fz => match e with | .inl b => b.1 = false ∧ ∃ i h, ¬ okAt l i h | .inr _ => ∀ i h, okAt l i h) l.length (by omega) ⟨0, rfl, by omega, fun j _ h => by omega⟩ ?_ ?_
  · rintro d _ ⟨i, rfl, h1, h2⟩
    dsimp only
    by_cases a : i < l.length
    · have ea : at_ T5 l (i : Int) = l[i] := at_nat (t := TF) a
      have ei : WK .i64 ((i : Int) + 1) = ((i + 1 : Nat) : Int) := wk_i64 (by omega) (by omega)
      have htl : (l.take i).length = i := by rw [List.length_take]; omega
      rw [ilt_t (show (i : Int) < llen l by unfold llen; omega), condO_true, guardO_pos ⟨by omega, by unfold llen; omega⟩, ea, ei]
      by_cases hm : mayF (l[i]).1 (l[i]).2.1
      · by_cases hw : lastW (l.take i) < (l[i]).1
        · rw [ranchor_go (l[i]).2.2 hm _ (by omega) hw, Option.bind_some]
          dsimp only
          rw [ine_f (rfl : (0 : Int) = 0), condO_false]
          have et : l.take i ++ [((l[i]).1, (l[i]).2.1, (l[i]).2.2)] = l.take (i + 1) := (take_snoc l i a).symm
          rw [et]
          exact .on (d - 1) (by omega) ⟨i + 1, rfl, by omega, fun j hj hlt => by
            rcases Nat.lt_or_ge j i with h | h
            · exact h2 j hj h
            · obtain rfl : j = i := by omega
              exact ⟨hm, hw⟩⟩
        · rw [ranchor_state (l[i]).2.2 hm _ (by omega) (by omega), Option.bind_some]
          dsimp only
          rw [ine_t (show (13 : Int) ≠ 0 by decide), condO_true]
          exact .out ⟨rfl, i, a, fun h => hw h.2⟩
      · rw [ranchor_arg (l[i]).2.2 hm, Option.bind_some]
        dsimp only
        rw [ine_t (show (1 : Int) ≠ 0 by decide), condO_true]
        exact .out ⟨rfl, i, a, fun h => hm h.1⟩
    · rw [ilt_f (show llen l ≤ (i : Int) by unfold llen; omega), condO_false]
      exact .out (fun j hj => h2 j hj (by omega))
  · rintro (⟨b, q⟩ | q) h
    · obtain ⟨rfl, h⟩ := h
      exact ⟨false, rfl, .inr ⟨rfl, h⟩⟩
    · exact ⟨true, rfl, .inl ⟨rfl, h⟩⟩
theorem same_ok (l : List Fz) (hb : l.length ≤ 900) : ref18_Same 1000 (l, l) = some true := by
  unfold ref18_Same
  dsimp only
  rw [ine_f (rfl : llen l = llen l), condO_false]
  refine bind_of (a := (Sum.inr () : Bool ⊕ Unit)) ?_ rfl
  refine loopK_run (fun i : Nat => (i : Int)) l.length _ 1000 (fun i hi => ?_) ?_ (by omega)
  · have hi' : (i : Int) < llen l := by unfold llen; omega
    rw [ilt_t hi', condO_true, guardO_pos ⟨by omega, hi'⟩, guardO_pos ⟨by omega, hi'⟩, sameI_self, ieq_t (rfl : (at_ T5 l (i : Int)).1 = _), ieq_t (rfl : (at_ T5 l (i : Int)).2.1 = _), wk_i64 (by omega) (by omega)]
    rfl
  · rw [ilt_f (show llen l ≤ (l.length : Int) by unfold llen; omega), condO_false]
theorem leaves_ok (l : List Fz) (hb : l.length ≤ 500) (hm : ∀ g ∈ l, mayF g.1 g.2.1) : ref18_Super_Leaves 1000 l = some (l.map lfF) := by
  unfold ref18_Super_Leaves
  refine bind_of (loopK_run (fun i : Nat => ((i : Int), (l.take i).map lfF)) l.length (l.map lfF) 1000 (fun i hi => ?_) ?_ (by omega)) rfl
  · dsimp only
    have hi' : (i : Int) < llen l := by unfold llen; omega
    have ea : at_ T5 l (i : Int) = l[i] := at_nat (t := TF) hi
    have hmi := hm l[i] (List.getElem_mem hi)
    have hfl := fzL_len hmi (l[i]).2.2
    rw [ilt_t hi', condO_true, guardO_pos ⟨by omega, hi'⟩, ea, rfz_yes hmi, Option.bind_some]
    dsimp only
    rw [guardO_pos (cat_mkB (a := [0]) (b := fzL (l[i]).1 (l[i]).2.1 (l[i]).2.2) (by simp; omega))]
    rw [show (⟨#[0]⟩ : ByteArray) ++ mkB (fzL (l[i]).1 (l[i]).2.1 (l[i]).2.2) = mkB ([0] ++ fzL (l[i]).1 (l[i]).2.1 (l[i]).2.2) from mkB_app [0] _]
    rw [ref_of _ (by simp; omega), Option.bind_some, guardO_pos (show appOk _ _ _ from by unfold appOk; simp; omega), wk_i64 (by omega) (by omega), take_snoc l i hi, List.map_append]
    rfl
  · dsimp only
    rw [ilt_f (show llen l ≤ (l.length : Int) by unfold llen; omega), condO_false, List.take_of_length_le (Nat.le_refl _)]
theorem loads_body (r : List Fz) (hr : r.length ≤ 16) : ((super_Load 1000 (r, vgl_sha_keys)).bind fun r1 => caseS r1 (fun r1 => (ref18_May 1000 r).bind fun r2 => condO (!r2) (condO true (some ((ieq r1 10))) (some (false))) (some (false))) (fun r1 => (ref18_May 1000 r).bind fun r2 => condO (!r2) (condO true (some (false)) (some (false))) (condO (ine r1.1 0) (some (false)) ((slices_Clone_2 1000 r1.2.1).bind fun r3 => (ref18_Same 1000 (r3, r)).bind fun r4 => condO true (condO r4 (condO (ieq (llen r1.2.1) 0) ((sha_Of 1000 (([] : List ByteArray), vgl_sha_keys)).bind fun r5 => (ref18_Super_Leaves 1000 r).bind fun r6 => (ref09_Root 1000 r6).bind fun r7 => condO (sameI 32 r5 r7 (List.range 32)) (some ((ieq (llen r1.2.1) (llen r)))) (some (false))) ((front_Front_Root 1000 (r1.2.2.2.1, vgl_sha_keys, r1.2.2.2.2)).bind fun r5 => (ref18_Super_Leaves 1000 r).bind fun r6 => (ref09_Root 1000 r6).bind fun r7 => condO (sameI 32 r5 r7 (List.range 32)) (some ((ieq (llen r1.2.1) (llen r)))) (some (false)))) (some (false))) (some (false)))))) = some true := by
  obtain ⟨q, hq, h1⟩ := load_ok r hr
  obtain ⟨b, hb, h2⟩ := may_ok r hr
  refine bind_of hq ?_
  rcases h1 with ⟨lv, n, pk, rfl, I, hall⟩ | ⟨rfl, i, hi, hno⟩
  · have hbt : b = true := by
      rcases h2 with ⟨h, _⟩ | ⟨_, i, hi, hno⟩
      · exact h
      · exact absurd (hall i hi) hno
    subst hbt
    rw [caseS_inr]
    dsimp only
    refine bind_of hb ?_
    rw [Bool.not_true, condO_false, ine_f (rfl : (0 : Int) = 0), condO_false]
    refine bind_of (clone_fz r (by omega)) (bind_of (same_ok r (by omega)) ?_)
    rw [condO_true, condO_true]
    have hlv := leaves_ok r (by omega) I.may
    have hroot := rroot40 (r.map lfF) (by simp; omega)
    by_cases h0 : r = []
    · rw [ieq_t (show llen r = 0 by rw [h0]; rfl), condO_true]
      refine bind_of (sha_of [] (by simp) (by simp)) (bind_of hlv (bind_of hroot ?_))
      rw [h0, rt_small (by simp)]
      rw [show hsh ([] : List (List UInt8)).flatten = (([] : List Fz).map lfF).headD nil0 from rfl, sameI_self, condO_true]
      rfl
    · have hl : 0 < r.length := List.length_pos_iff.2 h0
      rw [ieq_f (show llen r ≠ 0 by unfold llen; omega), condO_false]
      refine bind_of (froot_ok I h0 (by omega)) (bind_of hlv (bind_of hroot ?_))
      rw [I.lv_eq, sameI_self, condO_true, ieq_t (rfl : llen r = llen r)]
  · have hbf : b = false := by
      rcases h2 with ⟨_, hall⟩ | ⟨h, _⟩
      · exact absurd (hall i hi) hno
      · exact h
    subst hbf
    rw [caseS_inl]
    refine bind_of hb ?_
    rfl
theorem superLoads_law : SuperLoadsPure := by
  intro l _
  refine ⟨1000, ?_⟩
  unfold law18_SuperLoads
  refine bind_of awake_ok ?_
  dsimp only
  refine condO_eq (fun h => ?_) (fun h => ?_)
  · have h16 : (16 : Int) < (l.length : Int) := by simpa [llen] using h
    refine (guardO_pos ⟨by omega, by omega, by unfold llen; omega, by omega⟩).trans ?_
    have hr : (ltake 16 l).length ≤ 16 := by unfold ltake; rw [List.length_take]; omega
    exact loads_body (ltake 16 l) hr
  · have hr : (l.length : Int) ≤ 16 := by simpa [llen] using h
    have hr : l.length ≤ 16 := by omega
    exact loads_body l hr
end Go.Proofs.YtindlajlkghneaaDoor
