/- Texts of the proof, put together: part 11. No condition. -/
import Derived.Test.YtlidgpepppjeiaaGreatDoorT10
/- A region is scanned by the program as by the document: both scans. No condition. -/
set_option linter.unusedVariables false
set_option linter.unusedSimpArgs false
namespace Go.Proofs.YtlidgpepppjeiaaGreatDoor
open Go
/-- What a round of the document's scan comes to. -/
def RS (R : List ByteArray) (p s u m : Nat) (a : List (List Put)) (r : (Int × Int × Int × List (List Put)) ⊕ (Int × Int × Bool × List (List Put))) : Prop :=
  r = .inr ((p : Int), (s : Int), true, a) ∨ ∃ tx, TxAt (R.drop 1) p s tx ∧ u + (tx.length + 2) ≤ m
section
variable {R : List ByteArray} {p s u m : Nat} {a : List (List Put)}
theorem rstep_any (o : ROk R p s u m a) : ∃ r, rstep R ((p : Int), (s : Int), (u : Int), a) = some r ∧ RS R p s u m a r := by
  have hlen := o.len
  have h3 := o.m3
  have h62 := o.m62
  have hp := o.hp
  have hs := o.hs
  have hal := o.ha
  have hdl := o.dl
  have hu := o.hu
  obtain ⟨c, em, hcl⟩ := small_at o.sm (1 + p)
  have w1 : WK .i64 (1 + (p : Int)) = ((1 + p : Nat) : Int) := by rw [wk_i64 (by omega) (by omega)]; omega
  have wm : WK .i64 (llen R - 1) = (m : Int) := by unfold llen; rw [wk_i64 (by omega) (by omega)]; omega
  have hnz : nz (m : Int) := by unfold nz; omega
  have hin : ∀ x : Nat, inR ((1 + x % m : Nat) : Int) (llen R) := fun x => ⟨by omega, by have := Nat.mod_lt x (show 0 < m by omega); unfold llen; omega⟩
  have hinp : inR ((1 + p : Nat) : Int) (llen R) := ⟨by omega, by unfold llen; omega⟩
  have stop : ∃ r : (Int × Int × Int × List (List Put)) ⊕ (Int × Int × Bool × List (List Put)), some (Sum.inr ((p : Int), (s : Int), true, a)) = some r ∧ RS R p s u m a r := ⟨_, rfl, .inl rfl⟩
  unfold rstep
  simp only [w1, wm, at_str]
  rw [guardO_pos hinp, em, kind3]
  cases hk : lineK [83, 67, 68] c with
  | none =>
    rw [rtext7_none hcl hk]
    simp only [Option.bind_some]
    rw [rnum_spoilt (by decide) (by decide)]
    simp only [Option.bind_some]
    rw [rnum_spoilt (by decide) (by decide)]
    simp only [Option.bind_some, condO_true]
    exact stop
  | some r =>
    have hrl := lineK_len hk
    rw [rtext_line3 hcl hk]
    simp only [Option.bind_some]
    cases h1 : numL 1099511627776 r with
    | none =>
      obtain ⟨t, ht⟩ := rnum_none 1000 (by decide) (p := []) (l := r) (by simp only [List.nil_append]; omega) (by decide) h1
      have ht : ref01_Scan_Num 1000 (1099511627776, mkB r, 0, false) = _ := ht
      rw [ht]
      simp only [Option.bind_some]
      rw [rnum_spoilt (by decide) (by decide)]
      simp only [Option.bind_some, condO_true]
      exact stop
    | some x =>
      obtain ⟨x, r1⟩ := x
      have q1 := numL_le (by decide) h1
      obtain ⟨t1, e1, n1⟩ := rnum_some 1000 (by decide) (p := []) (l := r) (by simp only [List.nil_append]; omega) (by decide) h1
      have n1 : ref01_Scan_Num 1000 (1099511627776, mkB r, 0, false) = some ((x : Int), mkB r, (t1.length : Int), false) := n1
      rw [List.nil_append] at e1
      rw [n1]
      simp only [Option.bind_some]
      cases h2 : numL 60 r1 with
      | none =>
        obtain ⟨t, ht⟩ := rnum_none 1000 (by decide) (p := t1) (l := r1) (by rw [e1]; omega) (by decide) h2
        rw [e1] at ht
        rw [ht]
        simp only [Option.bind_some, condO_true]
        exact stop
      | some y =>
        obtain ⟨k, r2⟩ := y
        have q2 := numL_le (by decide) h2
        obtain ⟨t2, e2, n2⟩ := rnum_some 1000 (by decide) (p := t1) (l := r1) (by rw [e1]; omega) (by decide) h2
        rw [e1] at e2 n2
        rw [n2]
        simp only [Option.bind_some, condO_false]
        by_cases hx : (x : Int) = (s : Int)
        case neg => rw [ine_t hx, condO_true]; exact stop
        rw [ine_f hx, condO_false]
        by_cases hk1 : (k : Int) < 1
        · rw [ilt_t hk1, condO_true]; exact stop
        rw [ilt_f (by omega), condO_false, wk_i64 (x := (u : Int) + (k : Int)) (by omega) (by omega), wk_i64 (x := (u : Int) + (k : Int) + 2) (by omega) (by omega)]
        by_cases hkm : (m : Int) < (u : Int) + (k : Int) + 2
        · rw [igt_t (by omega), condO_true]; exact stop
        rw [igt_f (by omega), condO_false]
        refine loop_ex (I := fun m' (h : Int × ByteArray × Int × Bool × List Put × List Int) => ∃ (i : Nat) (pos : Int) (bad : Bool) (ats : List Int), h = ((i : Int), mkB r, pos, bad, txOf (R.drop 1) p ats, ats) ∧ m' + i = k ∧ ats.length = i ∧ (bad = false → (∃ t' r', t' ++ r' = r ∧ pos = (t'.length : Int)) ∧ ∀ b ∈ ats, 0 ≤ b ∧ b ≤ 65535))
          (Q := fun e => ∃ (pos : Int) (bad : Bool) (ats : List Int), e = (mkB r, pos, bad, txOf (R.drop 1) p ats, ats) ∧ ats.length = k ∧ (bad = false → (∃ t' r', t' ++ r' = r ∧ pos = (t'.length : Int)) ∧ ∀ b ∈ ats, 0 ≤ b ∧ b ≤ 65535)) (P := RS R p s u m a) k (by omega) ?_ ?_ ?_
        · exact ⟨0, _, false, [], rfl, by omega, rfl, fun _ => ⟨⟨t2, r2, e2, rfl⟩, fun b hb => by cases hb⟩⟩
        · rintro m' h ⟨i, pos, bad, ats, rfl, hmi, hla, hg⟩
          by_cases hi : i < k
          · have wi : WK .i64 (WK .i64 ((p : Int) + 1) + (i : Int)) = ((p + 1 + i : Nat) : Int) := by
              rw [wk_i64 (x := (p : Int) + 1) (by omega) (by omega), wk_i64 (by omega) (by omega)]; omega
            have ht : Int.tmod ((p + 1 + i : Nat) : Int) (m : Int) = (((p + 1 + i) % m : Nat) : Int) := tmod_nat rfl
            have hlt := Nat.mod_lt (p + 1 + i) (show 0 < m by omega)
            have wt : WK .i64 (1 + (((p + 1 + i) % m : Nat) : Int)) = ((1 + (p + 1 + i) % m : Nat) : Int) := by rw [wk_i64 (by omega) (by omega)]; omega
            have l2 := txOf_len (R.drop 1) p ats
            obtain ⟨b, pos', bad', e, hg'⟩ : ∃ (b pos' : Int) (bad' : Bool), ref01_Scan_Num 1000 (65535, mkB r, pos, bad) = some (b, mkB r, pos', bad') ∧ (bad' = false → (∃ t' r', t' ++ r' = r ∧ pos' = (t'.length : Int)) ∧ ∀ z ∈ ats ++ [b], 0 ≤ z ∧ z ≤ 65535) := by
              cases bad with
              | true => exact ⟨0, pos, true, rnum_spoilt (by decide) (by decide) _ _, fun h => by cases h⟩
              | false =>
                obtain ⟨⟨t', r', rfl, rfl⟩, hat⟩ := hg rfl
                cases h3 : numL 65535 r' with
                | none =>
                  obtain ⟨v, hv⟩ := rnum_none 1000 (by decide) (p := t') (l := r') (by omega) (by decide) h3
                  exact ⟨0, v, true, hv, fun h => by cases h⟩
                | some z =>
                  obtain ⟨z, r3⟩ := z
                  have q3 := numL_le (by decide) h3
                  obtain ⟨t3, e3, n3⟩ := rnum_some 1000 (by decide) (p := t') (l := r') (by omega) (by decide) h3
                  refine ⟨z, _, false, n3, fun _ => ⟨⟨t3, r3, e3, rfl⟩, fun w hw => ?_⟩⟩
                  rcases List.mem_append.1 hw with hw | hw
                  · exact hat w hw
                  · obtain rfl := List.mem_singleton.1 hw
                    omega
            have hx1 : txOf (R.drop 1) p (ats ++ [b]) = txOf (R.drop 1) p ats ++ [(b, (R.drop 1).getD ((p + 1 + i) % m) str0)] := by
              unfold txOf
              rw [List.mapIdx_concat, hla, hdl]
            simp only [ilt_t (show (i : Int) < (k : Int) by omega), condO_true, e, Option.bind_some, wi, ht, wt, at_str]
            rw [guardO_pos (by unfold appOk; simp only [List.length_cons, List.length_nil]; omega), guardO_pos hnz, guardO_pos (hin _), guardO_pos (by unfold appOk; simp only [List.length_cons, List.length_nil]; omega), wk_i64 (x := (i : Int) + 1) (by omega) (by omega), drop_at]
            exact .on (m' - 1) (by omega) ⟨i + 1, pos', bad', ats ++ [b], by rw [hx1]; rfl, by omega, by rw [List.length_append, hla]; rfl, hg'⟩
          · simp only [ilt_f (show (k : Int) ≤ (i : Int) by omega), condO_false]
            exact .out ⟨pos, bad, ats, rfl, by omega, hg⟩
        · rintro _ ⟨pos, bad, ats, rfl, hla, hg⟩
          cases bad with
          | true =>
            simp only [end_bad, Option.bind_some, show ine 10 0 = true from rfl, condO_true]
            exact stop
          | false =>
            obtain ⟨⟨t', r', rfl, rfl⟩, hat⟩ := hg rfl
            simp only [end_ok, Option.bind_some]
            by_cases hre : r' = []
            case neg =>
              rw [if_neg hre]
              simp only [show ine 10 0 = true from rfl, condO_true]
              exact stop
            rw [if_pos hre]
            simp only [show ine 0 0 = false from rfl, condO_false]
            have wl : WK .i64 (WK .i64 ((p : Int) + (k : Int)) + 1) = ((p + k + 1 : Nat) : Int) := by
              rw [wk_i64 (x := (p : Int) + (k : Int)) (by omega) (by omega), wk_i64 (by omega) (by omega)]; omega
            have ht : Int.tmod ((p + k + 1 : Nat) : Int) (m : Int) = (((p + k + 1) % m : Nat) : Int) := tmod_nat rfl
            have hlt := Nat.mod_lt (p + k + 1) (show 0 < m by omega)
            have wt : WK .i64 (1 + (((p + k + 1) % m : Nat) : Int)) = ((1 + (p + k + 1) % m : Nat) : Int) := by rw [wk_i64 (by omega) (by omega)]; omega
            have kk1 := kput_le (s : Int) 1099511627776 (by decide)
            have kk2 := kput_le (k : Int) 1099511627776 (by decide)
            simp only [wl, ht, wt, at_str]
            rw [guardO_pos hinp, rfirst_ok (s : Int) ats (by omega)]
            simp only [Option.bind_some]
            by_cases hf : R.getD (1 + p) str0 = lineB (firstT (s : Int) ats)
            case neg =>
              have : sEq (lineB (firstT (s : Int) ats)) (mkB c) = false := by
                rw [← Bool.not_eq_true]; intro e; exact hf (em.trans (sEq_iff.1 e).symm)
              rw [this]
              simp only [Bool.not_false, condO_true]
              exact stop
            have : sEq (lineB (firstT (s : Int) ats)) (mkB c) = true := sEq_iff.2 (hf.symm.trans em)
            rw [this]
            simp only [Bool.not_true, condO_false]
            rw [guardO_pos hnz, guardO_pos (hin _), keep40]
            simp only [Option.bind_some]
            rw [rkput (s : Int) _ (by decide)]
            simp only [Option.bind_some]
            rw [kind3, guardO_pos (catOk_small (by decide) (by omega)), keep40]
            simp only [Option.bind_some]
            rw [rkput (k : Int) _ (by decide)]
            simp only [Option.bind_some, mkB_app]
            rw [guardO_pos (catOk_small (by simp only [List.length_append, List.length_cons, List.length_nil]; omega) (by omega)), rline_ok (t := [83, 67, 67] ++ putL (kpn (s : Int) 1099511627776) ++ putL (kpn (k : Int) 1099511627776)) (Nat.le_trans (lastT_len s k) (by decide)), drop_at]
            by_cases hl : (R.drop 1).getD ((p + k + 1) % m) str0 = lineB (lastT (s : Int) k)
            · have e : sEq (secB (sealL ([83, 67, 67] ++ putL (kpn (s : Int) 1099511627776) ++ putL (kpn (k : Int) 1099511627776)))).1 ((R.drop 1).getD ((p + k + 1) % m) str0) = true := sEq_iff.2 hl.symm
              rw [e]
              simp only [Bool.not_true, condO_false]
              have l2 := txOf_len (R.drop 1) p ats
              rw [guardO_pos (by unfold appOk; simp only [List.length_cons, List.length_nil]; omega), guardO_pos hnz]
              rw [drop_at] at hf
              exact ⟨_, rfl, .inr ⟨_, txOf_at (by omega) (by omega) hat hf (by rw [hla, hdl]; exact hl), by omega⟩⟩
            · have e : sEq (secB (sealL ([83, 67, 67] ++ putL (kpn (s : Int) 1099511627776) ++ putL (kpn (k : Int) 1099511627776)))).1 ((R.drop 1).getD ((p + k + 1) % m) str0) = false := by
                rw [← Bool.not_eq_true]; intro e; exact hl (sEq_iff.1 e).symm
              rw [e]
              simp only [Bool.not_false, condO_true]
              exact stop
/-- Both scans' rounds. -/
theorem scans_loop {step : Int × Int × Int × List (List Put) → Option ((Int × Int × Int × List (List Put)) ⊕ (Int × Int × List (List Put)))} (hstep : ∀ p s u a, step (p, s, u, a) = (redo_slots_found 1000 (p, s, R.drop 1, vgl_check_table)).bind fun r5 => condO (ieq (llen r5) 0) (some (.inr (p, s, a))) (condO (igt (WK .i64 (u + (WK .i64 ((llen r5) + 2)))) (llen (R.drop 1))) (some (.inr (p, s, a))) (guardO (appOk a ([r5] : List (List Put)) 24) (guardO (nz (llen (R.drop 1))) (some (.inl (Int.tmod (WK .i64 (WK .i64 (p + llen r5) + 2)) (llen (R.drop 1)), WK .i64 (s + 1), WK .i64 (u + WK .i64 (llen r5 + 2)), a ++ ([r5] : List (List Put)))))))))
    (hsm : Small R) (hlen : R.length = m + 1) (h3 : 3 ≤ m) (h62 : m ≤ 62) : ∀ (d p s u k : Nat) (a : List (List Put)), p < m → u ≤ m → m - u ≤ d → s + d ≤ 1000000000000 → a.length + d ≤ 100 → d < k →
      ∃ (p' s' : Int) (a' : List (List Put)), loopK k step ((p : Int), (s : Int), (u : Int), a) = some (p', s', a') ∧ loopK k (rstep R) ((p : Int), (s : Int), (u : Int), a) = some (p', s', true, a') ∧ a'.length ≤ 100 ∧ ((∀ t ∈ a, t.length ≤ 100) → ∀ t ∈ a', t.length ≤ 100) := by
  intro d
  induction d using Nat.strongRecOn with
  | _ d ih =>
    intro p s u k a hp hu hd hs ha hk
    obtain ⟨k, rfl⟩ : ∃ j, k = j + 1 := ⟨k - 1, by omega⟩
    have o : ROk R p s u m a := ⟨hsm, hlen, h3, h62, hp, by omega, hu, by omega⟩
    have hdl := o.dl
    have hsm' : Small (R.drop 1) := fun t ht => hsm t (List.mem_of_mem_drop ht)
    obtain ⟨tx, hf, hc⟩ := found_any (s := s) hsm' (by omega) (by omega) (show p < (R.drop 1).length by omega) (by omega)
    by_cases hT : ∃ tx, TxAt (R.drop 1) p s tx ∧ u + (tx.length + 2) ≤ m
    · obtain ⟨ty, hty, hfit⟩ := hT
      have hf2 := found_at (by omega) (by omega) (show p < (R.drop 1).length by omega) (by omega) hty
      have hr := rstep_tx o hty hfit
      have h1 := hty.len1
      have e0 : ieq (llen ty) 0 = false := ieq_f (by unfold llen; omega)
      have e1 : WK .i64 ((llen ty) + 2) = ((ty.length + 2 : Nat) : Int) := by unfold llen; rw [wk_i64 (by omega) (by omega)]; omega
      have e2 : WK .i64 ((u : Int) + ((ty.length + 2 : Nat) : Int)) = ((u + (ty.length + 2) : Nat) : Int) := by rw [wk_i64 (by omega) (by omega)]; omega
      have e3 : WK .i64 (WK .i64 ((p : Int) + llen ty) + 2) = ((p + (ty.length + 2) : Nat) : Int) := by
        unfold llen; rw [wk_i64 (x := (p : Int) + (ty.length : Int)) (by omega) (by omega), wk_i64 (by omega) (by omega)]; omega
      have e4 : WK .i64 ((s : Int) + 1) = ((s + 1 : Nat) : Int) := by rw [wk_i64 (by omega) (by omega)]; omega
      have e5 : igt ((u + (ty.length + 2) : Nat) : Int) (llen (R.drop 1)) = false := igt_f (by unfold llen; omega)
      have e6 : Int.tmod ((p + (ty.length + 2) : Nat) : Int) (llen (R.drop 1)) = (((p + (ty.length + 2)) % m : Nat) : Int) := by unfold llen; rw [hdl]; exact tmod_nat rfl
      have g1 : appOk a ([ty] : List (List Put)) 24 := by unfold appOk; simp only [List.length_cons, List.length_nil]; omega
      have g2 : nz (llen (R.drop 1)) := by unfold nz llen; omega
      obtain ⟨p', s', a', i1, i2, i3, i4⟩ := ih (d - 1) (by omega) ((p + (ty.length + 2)) % m) (s + 1) (u + (ty.length + 2)) k (a ++ [ty]) (Nat.mod_lt _ (by omega)) (by omega) (by omega) (by omega) (by rw [List.length_append]; simp only [List.length_cons, List.length_nil]; omega) (by omega)
      refine ⟨p', s', a', ?_, ?_, i3, fun h => i4 (fun t ht => ?_)⟩
      · simp only [loopK, hstep, hf2, Option.bind_some, e0, e1, e2, e3, e4, e5, e6, condO_false, guardO_pos g1, guardO_pos g2, caseS_inl]
        exact i1
      · simp only [loopK, hr, Option.bind_some, caseS_inl]
        exact i2
      · rcases List.mem_append.1 ht with ht | ht
        · exact h t ht
        · obtain rfl := List.mem_singleton.1 ht
          omega
    · obtain ⟨r, hr, hR⟩ := rstep_any o
      have hR := hR.resolve_right hT
      subst hR
      refine ⟨p, s, a, ?_, ?_, by omega, fun h => h⟩
      · have hx : step ((p : Int), (s : Int), (u : Int), a) = some (.inr ((p : Int), (s : Int), a)) := by
          rw [hstep, hf]
          simp only [Option.bind_some]
          rcases hc with rfl | hc
          · rfl
          · have h1 := hc.len1
            have h2 := hc.len
            have hn : ¬ (u + (tx.length + 2) ≤ m) := fun h => hT ⟨tx, hc, h⟩
            rw [ieq_f (by unfold llen; omega), condO_false, show WK .i64 ((llen tx) + 2) = ((tx.length + 2 : Nat) : Int) by unfold llen; rw [wk_i64 (by omega) (by omega)]; omega, wk_i64 (x := (u : Int) + ((tx.length + 2 : Nat) : Int)) (by omega) (by omega), igt_t (by unfold llen; omega), condO_true]
        simp only [loopK, hx, Option.bind_some, caseS_inr]
      · simp only [loopK, hr, Option.bind_some, caseS_inr]
end
/-- Any region: both scans are one. -/
theorem scans (R : List ByteArray) (hsm : Small R) (h63 : R.length ≤ 63) : ∃ (p s : Int) (is : Bool) (a : List (List Put)), redo_Scan 1000 (R, vgl_check_table) = some (p, s, is, a) ∧ ref07_Scan 1000 R = some (p, s, is, a) ∧ a.length ≤ 100 ∧ ∀ t ∈ a, t.length ≤ 100 := by
  by_cases h4 : R.length < 4
  · refine ⟨0, 0, false, [], ?_, ?_, by simp, fun t ht => by cases ht⟩
    · unfold redo_Scan
      simp only
      rw [ilt_t (by unfold llen; omega), condO_true]
    · unfold ref07_Scan
      rw [ilt_t (by unfold llen; rw [wk_i64 (by omega) (by omega)]; omega), condO_true]
  obtain ⟨m, hm⟩ : ∃ m, R.length = m + 1 := ⟨R.length - 1, by omega⟩
  obtain ⟨c, em, hcl⟩ := small_at hsm 0
  have hdr : ldrop 1 R = R.drop 1 := rfl
  have hdl : (R.drop 1).length = m := by rw [List.length_drop, hm]; omega
  have ha : at_ .str R 0 = mkB c := em
  have wm : WK .i64 (llen R - 1) = (m : Int) := by unfold llen; rw [wk_i64 (by omega) (by omega)]; omega
  have stop : ∀ {A B : Option (Int × Int × Bool × List (List Put))}, A = some (0, 0, false, []) → B = some (0, 0, false, []) → ∃ (p s : Int) (is : Bool) (a : List (List Put)), A = some (p, s, is, a) ∧ B = some (p, s, is, a) ∧ a.length ≤ 100 ∧ ∀ t ∈ a, t.length ≤ 100 := fun h1 h2 => ⟨0, 0, false, [], h1, h2, by simp, fun t ht => by cases ht⟩
  have hr3 : rstep R = rstep R := rfl
  unfold redo_Scan ref07_Scan
  simp only [ha, hdr, wm]
  rw [ilt_f (show (4 : Int) ≤ llen R by unfold llen; omega), condO_false, guardO_pos ⟨by decide, by unfold llen; omega, Int.le_refl _, rfl⟩, guardO_pos (show inR 0 (llen R) from ⟨by decide, by unfold llen; omega⟩), ilt_f (show (3 : Int) ≤ (m : Int) by omega), condO_false, guardO_pos (show inR 0 (llen R) from ⟨by decide, by unfold llen; omega⟩), kind3]
  cases hk : lineK [83, 67, 72] c with
  | none =>
    rw [text7_none hk, rtext7_none hcl hk]
    simp only [Option.bind_some, caseS_inl]
    refine stop ?_ ?_
    · rw [num_zero (by decide) (by decide)]
      simp only [Option.bind_some]
      rw [num_zero (by decide) (by decide)]
      rfl
    · rw [rnum_spoilt (by decide) (by decide)]
      simp only [Option.bind_some]
      rw [rnum_spoilt (by decide) (by decide)]
      simp only [Option.bind_some, end_bad, show ine 10 0 = true from rfl, condO_true]
  | some r =>
    have hrl := lineK_len hk
    rw [text_line3 hk, rtext_line3 hcl hk]
    simp only [Option.bind_some, caseS_inr]
    cases h1 : numL 65535 r with
    | none =>
      obtain ⟨t, ht⟩ := num_none 1000 (by decide) (by decide) h1
      obtain ⟨t', ht'⟩ := rnum_none 1000 (by decide) (p := []) (l := r) (by simp only [List.nil_append]; omega) (by decide) h1
      have ht' : ref01_Scan_Num 1000 (65535, mkB r, 0, false) = _ := ht'
      rw [ht, ht']
      simp only [Option.bind_some]
      rw [num_spoilt (by decide) (by decide), rnum_spoilt (by decide) (by decide)]
      refine stop ?_ ?_
      · simp only [Option.bind_some, Bool.not_true, Bool.not_false, condO_true, show ine 10 0 = true from rfl, caseS_inl]
      · simp only [Option.bind_some, end_bad, show ine 10 0 = true from rfl, condO_true]
    | some x =>
      obtain ⟨x, r1⟩ := x
      have q1 := numL_le (by decide) h1
      obtain ⟨t1, e1, n1⟩ := rnum_some 1000 (by decide) (p := []) (l := r) (by simp only [List.nil_append]; omega) (by decide) h1
      have n1 : ref01_Scan_Num 1000 (65535, mkB r, 0, false) = some ((x : Int), mkB r, (t1.length : Int), false) := n1
      rw [List.nil_append] at e1
      rw [(num_some 1000 (by decide) (by decide) h1).1, n1]
      simp only [Option.bind_some]
      cases h2 : numL 549755813888 r1 with
      | none =>
        obtain ⟨t, ht⟩ := num_none 1000 (by decide) (by decide) h2
        obtain ⟨t', ht'⟩ := rnum_none 1000 (by decide) (p := t1) (l := r1) (by rw [e1]; omega) (by decide) h2
        rw [e1] at ht'
        rw [ht, ht']
        refine stop ?_ ?_
        · simp only [Option.bind_some, Bool.not_true, Bool.not_false, condO_true, show ine 10 0 = true from rfl, caseS_inl]
        · simp only [Option.bind_some, end_bad, show ine 10 0 = true from rfl, condO_true]
      | some y =>
        obtain ⟨y, r2⟩ := y
        have q2 := numL_le (by decide) h2
        obtain ⟨t2, e2, n2⟩ := rnum_some 1000 (by decide) (p := t1) (l := r1) (by rw [e1]; omega) (by decide) h2
        rw [e1] at e2 n2
        rw [(num_some 1000 (by decide) (by decide) h2).1, n2]
        have he := end_ok (p := t2) (l := r2)
        rw [e2] at he
        simp only [Option.bind_some, Bool.not_true, Bool.not_false, condO_false, he]
        by_cases hre : r2 = []
        case neg =>
          have : sEq (mkB r2) str0 = false := by
            rw [← Bool.not_eq_true]; intro e
            exact hre (mkB_inj (show mkB r2 = mkB [] from sEq_iff.1 e))
          rw [if_neg hre, this]
          refine stop ?_ ?_
          · simp only [Bool.not_false, condO_true, show ine 10 0 = true from rfl, Option.bind_some, caseS_inl]
          · simp only [show ine 10 0 = true from rfl, condO_true]
        have hsE : sEq (mkB r2) str0 = true := by rw [hre]; rfl
        rw [if_pos hre, hsE]
        simp only [Bool.not_true, condO_false, show ine 0 0 = false from rfl]
        have hll : llen (R.drop 1) = (m : Int) := by unfold llen; rw [hdl]
        rw [hll]
        by_cases hx : (m : Int) ≤ (x : Int)
        · rw [ige_t hx]
          exact stop (by simp only [condO_true, Option.bind_some, caseS_inl]) (by simp only [condO_true])
        rw [ige_f (by omega)]
        simp only [condO_false]
        by_cases hy : (y : Int) < 1
        · rw [ilt_t hy]
          exact stop (by simp only [condO_true, Option.bind_some, caseS_inl]) (by simp only [condO_true])
        rw [ilt_f (by omega)]
        simp only [condO_false, Option.bind_some, caseS_inr]
        obtain ⟨p', s', a', i1, i2, i3, i4⟩ := scans_loop (R := R) (step := fun h => (redo_slots_found 1000 (h.1, h.2.1, R.drop 1, vgl_check_table)).bind fun r5 => condO (ieq (llen r5) 0) (some (.inr (h.1, h.2.1, h.2.2.2))) (condO (igt (WK .i64 (h.2.2.1 + (WK .i64 ((llen r5) + 2)))) (llen (R.drop 1))) (some (.inr (h.1, h.2.1, h.2.2.2))) (guardO (appOk h.2.2.2 ([r5] : List (List Put)) 24) (guardO (nz (llen (R.drop 1))) (some (.inl (Int.tmod (WK .i64 (WK .i64 (h.1 + llen r5) + 2)) (llen (R.drop 1)), WK .i64 (h.2.1 + 1), WK .i64 (h.2.2.1 + WK .i64 (llen r5 + 2)), h.2.2.2 ++ ([r5] : List (List Put))))))))) (fun p s u a => rfl) hsm hm (by omega) (by omega) m x y 0 1000 [] (by omega) (by omega) (by omega) (by omega) (by simp only [List.length_nil]; omega) (by omega)
        rw [hll] at i1
        refine ⟨p', s', true, a', ?_, ?_, i3, i4 (fun t ht => by cases ht)⟩
        · exact bind_of i1 rfl
        · refine bind_of (a := (p', s', true, a')) ?_ rfl
          rw [← i2]
          unfold rstep
          simp only [wm]
          rfl
end Go.Proofs.YtlidgpepppjeiaaGreatDoor
/- The plain law of RedoScans. No condition. -/
set_option linter.unusedVariables false
set_option linter.unusedSimpArgs false
namespace Go.Proofs.YtlidgpepppjeiaaGreatDoor
open Go
def RedoScansPure : Prop := ∀ (z0 : Ty.den (.arr 5 (.int .i64))) (z1 : Ty.den (.sl 49 (.pair (.int .i64) (.pair (.int .i64) (.pair (.int .i64) (.int .i64)))))), wfT (.arr 5 (.int .i64)) z0 → wfT (.sl 49 (.pair (.int .i64) (.pair (.int .i64) (.pair (.int .i64) (.int .i64))))) z1 → ∃ k, law07_RedoScans k (z0, z1, vgl_check_table) = some true
theorem loop_get {H E : Type} {step : H → Option (H ⊕ E)} (I : Nat → H → Prop) (Q : E → Prop) (n : Nat) {h0 : H} {k : Nat} (hk : n < k) (h : I n h0) (hs : ∀ n h, I n h → Goes I Q n (step h)) : ∃ e, loopK k step h0 = some e ∧ Q e :=
  loopK_inv (step := step) I Q (fun n h hi => by
    have g := hs n h hi
    generalize step h = o at g ⊢
    cases g with
    | on m lt i => exact .inl ⟨_, m, rfl, lt, i⟩
    | out q => exact .inr ⟨_, rfl, q⟩) n h0 h k hk
def SmL (N : Nat) (L : List ByteArray) : Prop := L.length = N ∧ Small L
theorem lset_ok {N : Nat} {L : List ByteArray} {i : Int} {x : ByteArray} (h : SmL N L) (hx : x.size ≤ 300) : SmL N (lset L i x) :=
  ⟨by rw [List.length_set]; exact h.1, fun s hs => by
    rcases List.mem_or_eq_of_mem_set hs with hs | rfl
    · exact h.2 s hs
    · exact hx⟩
theorem line_small {t : List UInt8} (h : t.length ≤ 240) : (lineB t).size ≤ 300 := by rw [line_size h]; decide
theorem region_ok {m p s : Nat} {l : List (Int × Int × Int × Int)} (h3 : 3 ≤ m) (h34 : m ≤ 34) (hp : p ≤ 40) (hs : s ≤ 549755813888) : ∃ L, law07_region 1000 ((m : Int), (p : Int), (s : Int), l) = some L ∧ SmL (m + 1) L := by
  have wm : WK .i64 ((m : Int) + 1) = ((m + 1 : Nat) : Int) := by rw [wk_i64 (by omega) (by omega)]; omega
  have k1 := kput_le p 65535 (by decide)
  have k2 := kput_le s 1099511627776 (by decide)
  have hnz : nz (m : Int) := by unfold nz; omega
  unfold law07_region
  simp only [wm]
  rw [guardO_pos ⟨by omega, rfl, by omega, by omega⟩, keep16]
  simp only [Option.bind_some]
  rw [rkput (p : Int) _ (by decide)]
  simp only [Option.bind_some]
  rw [kind3, guardO_pos (catOk_small (by decide) (by omega)), keep40]
  simp only [Option.bind_some]
  rw [rkput (s : Int) _ (by decide)]
  simp only [Option.bind_some, mkB_app]
  rw [guardO_pos (catOk_small (by simp only [List.length_append, List.length_cons, List.length_nil]; omega) (by omega)), rline_ok (t := [83, 67, 72] ++ putL (kpn (p : Int) 65535) ++ putL (kpn (s : Int) 1099511627776)) (Nat.le_trans (headT_len p s) (by decide))]
  have hL0 : SmL (m + 1) (lset (lrep ((m + 1 : Nat) : Int) str0) 0 (lineB (headT p s))) := lset_ok ⟨by simp, fun x hx => by
    rw [List.eq_of_mem_replicate hx]; decide⟩ (line_small (Nat.le_trans (headT_len p s) (by decide)))
  rw [guardO_pos ⟨by decide, by unfold llen; simp only [List.length_replicate]; omega⟩]
  refine loop_ex (I := fun j (h : Int × List ByteArray) => ∃ (i : Nat) (L : List ByteArray), h = ((i : Int), L) ∧ j + i = m + 1 ∧ SmL (m + 1) L) (Q := SmL (m + 1)) (P := SmL (m + 1)) m (by omega) ?_ ?_ ?_
  · exact ⟨1, _, rfl, by omega, hL0⟩
  · rintro j h ⟨i, L, rfl, hij, hL⟩
    by_cases hi : i ≤ m
    · simp only [ile_t (show (i : Int) ≤ (m : Int) by omega), condO_true, fill_with, Option.bind_some]
      rw [guardO_pos ⟨by omega, by unfold llen; rw [hL.1]; omega⟩, wk_i64 (x := (i : Int) + 1) (by omega) (by omega)]
      exact .on (j - 1) (by omega) ⟨i + 1, _, rfl, by omega, lset_ok hL (by rw [with_size]; decide)⟩
    · simp only [ile_f (show (m : Int) < (i : Int) by omega), condO_false]
      exact .out hL
  · intro L hL
    refine loop_ex (I := fun j (h : Int × Int × Int × List ByteArray) => ∃ (p nx i : Nat) (L : List ByteArray), h = ((p : Int), (nx : Int), (i : Int), L) ∧ j + i = 12 ∧ p ≤ 40 + 8 * i ∧ nx ≤ 549755813888 + i ∧ SmL (m + 1) L) (Q := SmL (m + 1)) (P := SmL (m + 1)) 12 (by omega) ?_ ?_ ?_
    · exact ⟨p, s, 0, L, rfl, by omega, by omega, by omega, hL⟩
    · rintro j h ⟨q, nx, i, L, rfl, hij, hq, hnx, hL⟩
      by_cases hi : (i : Int) < llen l
      case neg =>
        simp only [ilt_f (show llen l ≤ (i : Int) by omega), condO_false]
        exact .out hL
      by_cases hi2 : (i : Int) < 12
      case neg =>
        simp only [ilt_t hi, condO_true, ilt_f (show (12 : Int) ≤ (i : Int) by omega), condO_false]
        exact .out hL
      have hin : inR (i : Int) (llen l) := ⟨by omega, hi⟩
      have h6 : nz (6 : Int) := by decide
      have h5 : nz (5 : Int) := by decide
      have h33 : nz (3 : Int) := by decide
      generalize at_ T4 l (i : Int) = o
      obtain ⟨a1, a2, a3, a4⟩ := o
      obtain ⟨n, hn1, hn6, hn⟩ : ∃ n : Nat, 1 ≤ n ∧ n ≤ 6 ∧ WK .i64 (1 + Int.tmod (WK .i64 (Int.tmod a3 6 + 6)) 6) = (n : Int) := by
        have b1 := Int.tmod_lt_of_pos a3 (show (0 : Int) < 6 by decide)
        have b2 := Int.lt_tmod_of_pos a3 (show (0 : Int) < 6 by decide)
        rw [wk_i64 (x := Int.tmod a3 6 + 6) (by omega) (by omega)]
        have c1 := Int.tmod_lt_of_pos (Int.tmod a3 6 + 6) (show (0 : Int) < 6 by decide)
        have c2 := Int.tmod_nonneg 6 (show 0 ≤ Int.tmod a3 6 + 6 by omega)
        exact ⟨(1 + Int.tmod (Int.tmod a3 6 + 6) 6).toNat, by omega, by omega, by rw [wk_i64 (by omega) (by omega)]; omega⟩
      have hslot : ∀ z : Nat, z ≤ 1000 → WK .i64 (1 + Int.tmod (z : Int) (m : Int)) = ((1 + z % m : Nat) : Int) ∧ inR ((1 + z % m : Nat) : Int) ((m + 1 : Nat) : Int) := fun z hz => by
        have hlt := Nat.mod_lt z (show 0 < m by omega)
        rw [show Int.tmod (z : Int) (m : Int) = ((z % m : Nat) : Int) from tmod_nat rfl, wk_i64 (by omega) (by omega)]
        exact ⟨by omega, by omega, by omega⟩
      have hll : llen L = ((m + 1 : Nat) : Int) := by unfold llen; rw [hL.1]
      simp only [ilt_t hi, ilt_t hi2, condO_true, guardO_pos hin, guardO_pos h6, guardO_pos h5, guardO_pos h33, guardO_pos hnz, hn]
      refine Goes.bind (fun _ => True) ?_ ?_
      · by_cases h : a2 = 0
        · rw [ine_f h]; exact ⟨_, rfl, trivial⟩
        · rw [ine_t h]; exact ⟨_, rfl, trivial⟩
      rintro so -
      have w1 : WK .i64 ((q : Int) + 1) = ((q + 1 : Nat) : Int) := by rw [wk_i64 (by omega) (by omega)]; omega
      have wi : WK .i64 ((i : Int) + 1) = ((i + 1 : Nat) : Int) := by rw [wk_i64 (by omega) (by omega)]; omega
      have wx : WK .i64 ((nx : Int) + 1) = ((nx + 1 : Nat) : Int) := by rw [wk_i64 (by omega) (by omega)]; omega
      have wn1 : WK .i64 ((q : Int) + (n : Int)) = ((q + n : Nat) : Int) := by rw [wk_i64 (by omega) (by omega)]; omega
      have wn2 : WK .i64 (((q + n : Nat) : Int) + 2) = ((q + n + 2 : Nat) : Int) := by rw [wk_i64 (by omega) (by omega)]; omega
      have wn3 : WK .i64 (((q + n : Nat) : Int) + 1) = ((q + n + 1 : Nat) : Int) := by rw [wk_i64 (by omega) (by omega)]; omega
      simp only [w1, wi, wx, wn1, wn2, wn3, (hslot q (by omega)).1]
      generalize hK : Int.tmod (WK .i64 (Int.tmod a1 5 + 5)) 5 = K
      by_cases hK4 : K = 4
      · rw [ieq_t hK4, condO_true, fill_with]
        simp only [Option.bind_some]
        rw [hll, guardO_pos (hslot q (by omega)).2]
        exact .on (j - 1) (by omega) ⟨q + 1, nx, i + 1, _, rfl, by omega, by omega, by omega, lset_ok hL (by rw [with_size]; decide)⟩
      rw [ieq_f hK4, condO_false]
      refine Goes.bind (fun at' : List Int => at'.length ≤ 100) ?_ ?_
      · refine loop_get (I := fun j (h : Int × List Int) => ∃ (i' : Nat) (A : List Int), h = ((i' : Int), A) ∧ j + i' = n ∧ A.length = i') (Q := fun A : List Int => A.length ≤ 100) n (by omega) ⟨0, [], rfl, by omega, rfl⟩ ?_
        rintro j' h ⟨i', A, rfl, hij', hA⟩
        by_cases hi' : i' < n
        · simp only [ilt_t (show (i' : Int) < (n : Int) by omega), condO_true]
          rw [guardO_pos (by unfold appOk; simp only [List.length_cons, List.length_nil]; omega), wk_i64 (x := (i' : Int) + 1) (by omega) (by omega)]
          exact .on (j' - 1) (by omega) ⟨i' + 1, _, rfl, by omega, by rw [List.length_append, hA]; rfl⟩
        · simp only [ilt_f (show (n : Int) ≤ (i' : Int) by omega), condO_false]
          exact .out (by omega)
      intro A hA
      rw [rfirst_ok so A (by omega)]
      simp only [Option.bind_some]
      have hfz : (lineB (firstT so A)).size ≤ 300 := line_small (Nat.le_trans (firstT_len so A) (by decide))
      rw [hll, guardO_pos (hslot q (by omega)).2]
      by_cases hK3 : K = 3
      · rw [ieq_t hK3, condO_true]
        exact .on (j - 1) (by omega) ⟨q + 1, nx, i + 1, _, rfl, by omega, by omega, by omega, lset_ok hL hfz⟩
      rw [ieq_f hK3, condO_false]
      refine Goes.bind (SmL (m + 1)) ?_ ?_
      · refine loop_get (I := fun j (h : Int × List ByteArray) => ∃ (i' : Nat) (L' : List ByteArray), h = ((i' : Int), L') ∧ j + i' = n ∧ SmL (m + 1) L') (Q := SmL (m + 1)) n (by omega) ⟨0, _, rfl, by omega, lset_ok hL hfz⟩ ?_
        rintro j' h ⟨i', L', rfl, hij', hL'⟩
        by_cases hi' : i' < n
        · have hl' : llen L' = ((m + 1 : Nat) : Int) := by unfold llen; rw [hL'.1]
          have wz : WK .i64 (((q + 1 : Nat) : Int) + (i' : Int)) = ((q + 1 + i' : Nat) : Int) := by rw [wk_i64 (by omega) (by omega)]; omega
          simp only [ilt_t (show (i' : Int) < (n : Int) by omega), condO_true, fill_with, Option.bind_some, wz, (hslot (q + 1 + i') (by omega)).1, hl']
          rw [guardO_pos (hslot (q + 1 + i') (by omega)).2, wk_i64 (x := (i' : Int) + 1) (by omega) (by omega)]
          exact .on (j' - 1) (by omega) ⟨i' + 1, _, rfl, by omega, lset_ok hL' (by rw [with_size]; decide)⟩
        · simp only [ilt_f (show (n : Int) ≤ (i' : Int) by omega), condO_false]
          exact .out hL'
      intro L2 hL2
      refine Goes.bind (SmL (m + 1)) ?_ ?_
      · by_cases hK2 : K < 2
        · have kk1 := kput_le so 1099511627776 (by decide)
          have kk2 := kput_le (n : Int) 1099511627776 (by decide)
          have hl' : llen L2 = ((m + 1 : Nat) : Int) := by unfold llen; rw [hL2.1]
          rw [ilt_t hK2, condO_true, keep40]
          simp only [Option.bind_some]
          rw [rkput so _ (by decide)]
          simp only [Option.bind_some]
          rw [kind3, guardO_pos (catOk_small (by decide) (by omega)), keep40]
          simp only [Option.bind_some]
          rw [rkput (n : Int) _ (by decide)]
          simp only [Option.bind_some, mkB_app]
          rw [guardO_pos (catOk_small (by simp only [List.length_append, List.length_cons, List.length_nil]; omega) (by omega)), rline_ok (t := [83, 67, 67] ++ putL (kpn so 1099511627776) ++ putL (kpn (n : Int) 1099511627776)) (Nat.le_trans (lastT_len so n) (by decide)), (hslot (q + n + 1) (by omega)).1, hl', guardO_pos (hslot (q + n + 1) (by omega)).2]
          exact ⟨_, rfl, lset_ok hL2 (line_small (t := lastT so n) (Nat.le_trans (lastT_len so n) (by decide)))⟩
        · rw [ilt_f (by omega), condO_false]
          exact ⟨_, rfl, hL2⟩
      intro L3 hL3
      exact .on (j - 1) (by omega) ⟨q + n + 2, nx + 1, i + 1, _, rfl, by omega, by omega, by omega, hL3⟩
    · intro L hL
      exact ⟨_, rfl, hL⟩
theorem same_puts (t : List Put) (h : t.length ≤ 900) : ref07_SamePuts 1000 (t, t) = some true := by
  unfold ref07_SamePuts
  simp only
  rw [ine_f rfl, condO_false]
  refine bind_of (a := .inr ()) ?_ rfl
  refine loopK_run (fun i : Nat => (i : Int)) t.length _ 1000 ?_ ?_ (by omega)
  · intro i hi
    have hin : inR (i : Int) (llen t) := ⟨by omega, by unfold llen; omega⟩
    simp only [ilt_t (show (i : Int) < llen t by unfold llen; omega), condO_true, guardO_pos hin, ieq_t (show (at_ T0 t (i : Int)).1 = (at_ T0 t (i : Int)).1 from rfl), sEq_self, Bool.and_self, Bool.not_true, condO_false]
    rw [wk_i64 (by omega) (by omega)]
    rfl
  · simp only [ilt_f (show llen t ≤ (t.length : Int) by unfold llen; omega), condO_false]
theorem same_all (a : List (List Put)) (h : a.length ≤ 900) (ht : ∀ t ∈ a, t.length ≤ 900) : ref07_Same 1000 (a, a) = some true := by
  unfold ref07_Same
  simp only
  rw [ine_f rfl, condO_false]
  refine bind_of (a := .inr ()) ?_ rfl
  refine loopK_run (fun i : Nat => (i : Int)) a.length _ 1000 ?_ ?_ (by omega)
  · intro i hi
    have hin : inR (i : Int) (llen a) := ⟨by omega, by unfold llen; omega⟩
    have ea : at_ T3 a (i : Int) = a[i] := at_nat hi
    simp only [ilt_t (show (i : Int) < llen a by unfold llen; omega), condO_true, guardO_pos hin, ea, same_puts _ (ht _ (List.getElem_mem hi)), Option.bind_some, Bool.not_true, condO_false]
    rw [wk_i64 (by omega) (by omega)]
    rfl
  · simp only [ilt_f (show llen a ≤ (a.length : Int) by unfold llen; omega), condO_false]
theorem redoScans_law : RedoScansPure := by
  intro q l _ _
  refine ⟨1000, ?_⟩
  obtain ⟨l, rfl⟩ : ∃ l' : List (Int × Int × Int × Int), l' = l := ⟨l, rfl⟩
  obtain ⟨q, rfl⟩ : ∃ q' : Vector Int 5, q' = q := ⟨q, rfl⟩
  have aw : law07_awake 1000 vgl_check_table = some true := by kernel_rfl
  have hab := and_bound (vAt 0 q 0) 31 (by decide)
  have hab : 0 ≤ andK .i64 (vAt 0 q 0) 31 ∧ andK .i64 (vAt 0 q 0) 31 ≤ 31 := hab
  obtain ⟨m, h3, h34, hm⟩ : ∃ m : Nat, 3 ≤ m ∧ m ≤ 34 ∧ WK .i64 (3 + andK .i64 (vAt 0 q 0) 31) = (m : Int) := ⟨(3 + andK .i64 (vAt 0 q 0) 31).toNat, by omega, by omega, by rw [wk_i64 (by omega) (by omega)]; omega⟩
  have hac := and_bound (vAt 0 q 2) 549755813887 (by decide)
  have hac : 0 ≤ andK .i64 (vAt 0 q 2) 549755813887 ∧ andK .i64 (vAt 0 q 2) 549755813887 ≤ 549755813887 := hac
  obtain ⟨s, hs1, hs⟩ : ∃ s : Nat, s ≤ 549755813888 ∧ andK .i64 (vAt 0 q 2) 549755813887 = (s : Int) := ⟨(andK .i64 (vAt 0 q 2) 549755813887).toNat, by omega, by omega⟩
  obtain ⟨p, hp1, hp⟩ : ∃ p : Nat, p ≤ 40 ∧ Int.tmod (WK .i64 (Int.tmod (vAt 0 q 1) (m : Int) + (m : Int))) (m : Int) = (p : Int) := by
    have b1 := Int.tmod_lt_of_pos (vAt 0 q 1) (show (0 : Int) < (m : Int) by omega)
    have b2 := Int.lt_tmod_of_pos (vAt 0 q 1) (show (0 : Int) < (m : Int) by omega)
    rw [wk_i64 (by omega) (by omega)]
    have c1 := Int.tmod_lt_of_pos (Int.tmod (vAt 0 q 1) (m : Int) + (m : Int)) (show (0 : Int) < (m : Int) by omega)
    have c2 := Int.tmod_nonneg (m : Int) (show 0 ≤ Int.tmod (vAt 0 q 1) (m : Int) + (m : Int) by omega)
    exact ⟨(Int.tmod (Int.tmod (vAt 0 q 1) (m : Int) + (m : Int)) (m : Int)).toNat, by omega, by omega⟩
  obtain ⟨L, hL, hSL⟩ := region_ok (m := m) (p := p) (s := s) (l := l) h3 h34 hp1 hs1
  have hnz : nz (m : Int) := by unfold nz; omega
  have g0 : inR 0 5 := by decide
  have g1 : inR 1 5 := by decide
  have g2 : inR 2 5 := by decide
  have g3 : inR 3 5 := by decide
  have g4 : inR 4 5 := by decide
  unfold law07_RedoScans
  refine bind_of aw ?_
  simp only [hm, hs, hp, guardO_pos g0, guardO_pos g1, guardO_pos g2, guardO_pos g3, guardO_pos g4, guardO_pos hnz]
  refine bind_of hL ?_
  obtain ⟨L1, e1, h1⟩ : ∃ L1, (condO (ige (vAt 0 q 3) 0) (condO (ile (vAt 0 q 3) (m : Int)) ((ref05_Fill 1000 (strOfNums ([(WK .u8 (vAt 0 q 3))] : List Int))).bind fun r2 => guardO ((inR (vAt 0 q 3) (llen L))) (some ((lset L (vAt 0 q 3) r2.1)))) (some L)) (some L) : Option (List ByteArray)) = some L1 ∧ SmL (m + 1) L1 := by
    by_cases h : 0 ≤ vAt 0 q 3
    · rw [ige_t h, condO_true]
      by_cases h2 : vAt 0 q 3 ≤ (m : Int)
      · rw [ile_t h2, condO_true, fill_with]
        simp only [Option.bind_some]
        rw [guardO_pos ⟨h, by unfold llen; rw [hSL.1]; omega⟩]
        exact ⟨_, rfl, lset_ok hSL (by rw [with_size]; decide)⟩
      · rw [ile_f (by omega), condO_false]; exact ⟨_, rfl, hSL⟩
    · rw [ige_f (by omega), condO_false]; exact ⟨_, rfl, hSL⟩
  refine bind_of e1 ?_
  obtain ⟨L2, e2, h2⟩ : ∃ L2, (condO (ige (vAt 0 q 4) 0) (condO (ilt (vAt 0 q 4) (llen L1)) (guardO ((cutOk4 0 (vAt 0 q 4) (llen L1) (vAt 0 q 4))) (some ((ltake (vAt 0 q 4) L1)))) (some L1)) (some L1) : Option (List ByteArray)) = some L2 ∧ Small L2 ∧ L2.length ≤ 63 := by
    have hl1 := h1.1
    by_cases h : 0 ≤ vAt 0 q 4
    · rw [ige_t h, condO_true]
      by_cases h2 : vAt 0 q 4 < llen L1
      · rw [ilt_t h2, condO_true, guardO_pos ⟨by decide, h, by omega, rfl⟩]
        exact ⟨_, rfl, fun x hx => h1.2 x (List.mem_of_mem_take hx), by rw [List.length_take]; omega⟩
      · rw [ilt_f (by omega), condO_false]; exact ⟨_, rfl, h1.2, by omega⟩
    · rw [ige_f (by omega), condO_false]; exact ⟨_, rfl, h1.2, by omega⟩
  refine bind_of e2 ?_
  obtain ⟨a, b, is, all, s1, s2, s3, s4⟩ := scans L2 h2.1 h2.2
  refine bind_of s1 ?_
  refine bind_of s2 ?_
  refine bind_of (same_all all (by omega) (fun t ht => by have := s4 t ht; omega)) ?_
  simp only [condO_true, ieq_t (show a = a from rfl), ieq_t (show b = b from rfl)]
  cases is <;> rfl
end Go.Proofs.YtlidgpepppjeiaaGreatDoor
