/- Texts of the proof, put together: part 11. No condition. -/
import Derived.Test.YthdgllldpfeelaaGreatDoorT10
/- The plain law of ImageGoes. No condition. -/
set_option linter.unusedVariables false
set_option linter.unusedSimpArgs false
namespace Go.Proofs.YthdgllldpfeelaaGreatDoor
open Go
def ImageGoesPure : Prop := ∀ (z0 : Ty.den (.sl 26 (.pair .str .str))) (z1 : Ty.den (.sl 26 (.pair .str .str))), wfT (.sl 26 (.pair .str .str)) z0 → wfT (.sl 26 (.pair .str .str)) z1 → ∃ k, law21_ImageGoes k (z0, z1, vgl_strconv_uint64pow10, vgl_sha_keys, vgl_bits_deBruijn32tab, vgl_bits_deBruijn64tab) = some true
theorem size_pos {c : ByteArray} (h : c ≠ str0) : 0 < c.size := by
  rcases Nat.eq_zero_or_pos c.size with h0 | h0
  · refine absurd (bytes_ext ?_) h
    have : c.data.toList.length = 0 := by rw [Array.length_toList]; exact h0
    exact (List.length_eq_zero_iff.1 this).trans rfl
  · exact h0
theorem pre_rest {a b : ByteArray} (h : preS b a = true) : a ++ restS b a = b := by
  have hle := pre_le h
  unfold preS at h
  simp only [Bool.and_eq_true, decide_eq_true_eq] at h
  have e1 := congrArg (fun x : ByteArray => x.data.toList) (sEq_iff.1 h.2)
  have hz : b.data.toList.length = b.size := by rw [Array.length_toList]; rfl
  simp only [scut, ByteArray.data_extract, Int.toNat_natCast, Array.toList_extract, List.extract_eq_take_drop, Int.toNat_zero, List.drop_zero, Nat.sub_zero] at e1
  apply bytes_ext
  rw [data_app]
  simp only [restS, scut, ByteArray.data_extract, Int.toNat_natCast, Array.toList_extract, List.extract_eq_take_drop]
  rw [List.take_of_length_le (l := List.drop a.size b.data.toList) (by rw [List.length_drop, hz]; exact Nat.le_refl _), ← e1]
  conv => rhs; rw [← List.take_append_drop a.size b.data.toList]
theorem pre_cut {a b : ByteArray} (h : preS a b = true) : scut a 0 (blen b) = b := by
  unfold preS at h
  simp only [Bool.and_eq_true, decide_eq_true_eq] at h
  exact sEq_iff.1 h.2
theorem scut0 (a : ByteArray) : scut a 0 ((0 : Nat) : Int) = str0 := by
  apply bytes_ext
  simp [scut, str0]
theorem ex_gone {A R : List FileT} {name a : ByteArray} (x : At0 A R name) (ha : a.size ≤ 40) : ∃ c ≤ 1, Ex (A ++ (name, a) :: R) (chgG name a) (A ++ R) c := by
  unfold chgG
  by_cases h : a = str0
  · subst h
    rw [if_pos (sEq_self _)]
    exact ⟨0, by omega, .one x.drop⟩
  · rw [if_neg (by rw [sEq_f h]; decide)]
    have s1 := x.trim (a := a) (n := 0) (size_pos h) (by omega)
    rw [scut0] at s1
    exact ⟨1, by omega, .cons s1 (.one x.drop)⟩
theorem ex_both {A R : List FileT} {name a b : ByteArray} (x : At0 A R name) (ha : a.size ≤ 40) (hb : b.size ≤ 40) : ∃ c ≤ 1, Ex (A ++ (name, a) :: R) (chgB name a b) (A ++ (name, b) :: R) c := by
  unfold chgB
  by_cases h : preS b a = true
  · rw [if_pos h]
    by_cases hr : sEq (restS b a) str0 = true
    · rw [if_pos hr, pre_both h hr]
      exact ⟨0, by omega, .nil _⟩
    · rw [if_neg hr]
      have hne : restS b a ≠ str0 := fun e => hr (sEq_iff.2 e)
      have e := pre_rest h
      have hs := congrArg ByteArray.size e
      rw [size_app] at hs
      have s1 := x.append (a := a) hne (size_pos hne) (by omega)
      rw [e] at s1
      exact ⟨1, by omega, .one s1⟩
  · rw [if_neg h]
    by_cases h2 : preS a b = true
    · rw [if_pos h2]
      have hle := pre_le h2
      have hc := pre_cut h2
      have hlt : b.size < a.size := by
        rcases Nat.lt_or_ge b.size a.size with hl | hl
        · exact hl
        · exfalso
          have e : b = a := by
            rw [← hc]
            apply bytes_ext
            have hz : a.data.toList.length = a.size := by rw [Array.length_toList]; rfl
            simp only [scut, ByteArray.data_extract, Int.toNat_natCast, Array.toList_extract, List.extract_eq_take_drop, Int.toNat_zero, List.drop_zero, Nat.sub_zero, blen]
            exact List.take_of_length_le (by rw [hz]; exact hl)
          subst e
          exact h h2
      have s1 := x.trim (a := a) (n := b.size) hlt (by omega)
      rw [show scut a 0 ((b.size : Nat) : Int) = b from hc] at s1
      exact ⟨1, by omega, .one s1⟩
    · rw [if_neg h2]
      obtain ⟨c, hc, s1⟩ := x.set (a := a) (b := b) (by omega) (by omega)
      exact ⟨c, hc, .one s1⟩
theorem ex_new {A R : List FileT} {name b : ByteArray} (x : At0 A R name) (hb : b.size ≤ 40) : ∃ c ≤ 1, Ex (A ++ R) (chg name str0 b false true) (A ++ (name, b) :: R) c := by
  unfold chg
  obtain ⟨c, hc, e⟩ := ex_both (a := str0) (b := b) x (by decide) hb
  exact ⟨0 + c, by omega, .cons x.make (by simpa using e)⟩
/-- What the law's lists of files are. -/
def GoodF (L : List FileT) : Prop := Srt L ∧ ∀ f ∈ L, ref08_Name 1000 f.1 = some true ∧ f.2.size ≤ 40
theorem FilesOk.goodF {L : List FileT} (o : FilesOk 8 L) : GoodF L := ⟨o.srt, fun f hf => by
  obtain ⟨⟨j, b, hj, he⟩, hs⟩ := o.ok f hf
  exact ⟨by rw [he]; exact nm_ok ⟨j, hj⟩ b, hs⟩⟩
theorem GoodF.tail {f : FileT} {L : List FileT} (h : GoodF (f :: L)) : GoodF L ∧ (∀ g ∈ L, sLess f.1 g.1 = true) ∧ ref08_Name 1000 f.1 = some true ∧ f.2.size ≤ 40 := by
  obtain ⟨h1, h2⟩ := h
  have h3 := List.pairwise_cons.1 h1
  exact ⟨⟨h3.2, fun g hg => h2 g (List.mem_cons_of_mem _ hg)⟩, h3.1, h2 f (List.mem_cons_self ..)⟩
theorem sz100 {A L : List FileT} (hA : GoodF A) (hL : GoodF L) : ∀ f ∈ A ++ L, f.2.size ≤ 100 := fun f hf => by
  rcases List.mem_append.1 hf with hf | hf
  · have := (hA.2 f hf).2; omega
  · have := (hL.2 f hf).2; omega
theorem GoodF.snoc {A : List FileT} {f : FileT} (hA : GoodF A) (h : ∀ a ∈ A, sLess a.1 f.1 = true) (hf : ref08_Name 1000 f.1 = some true ∧ f.2.size ≤ 40) : GoodF (A ++ [f]) := ⟨by
  unfold Srt
  rw [List.pairwise_append]
  exact ⟨hA.1, List.pairwise_singleton _ _, fun a ha g hg => by obtain rfl := List.mem_singleton.1 hg; exact h a ha⟩, fun g hg => by
  rcases List.mem_append.1 hg with hg | hg
  · exact hA.2 g hg
  · obtain rfl := List.mem_singleton.1 hg; exact hf⟩
theorem ex_merge : ∀ (n : Nat) (A L M : List FileT), L.length + M.length ≤ n → A.length + L.length + M.length ≤ 28 → GoodF A → GoodF L → GoodF M → (∀ a ∈ A, ∀ b ∈ L ++ M, sLess a.1 b.1 = true) → ∃ c ≤ n, Ex (A ++ L) (mergeD L M) (A ++ M) c
  | n, A, [], [], _, _, _, _, _, _ => by rw [mergeD]; exact ⟨0, by omega, .nil _⟩
  | 0, A, l :: L, M, h, _, _, _, _, _ => by simp at h
  | 0, A, [], m :: M, h, _, _, _, _, _ => by simp at h
  | n + 1, A, l :: L, [], hn, hl, gA, gL, gM, hlt => by
    simp only [List.length_cons, List.length_nil] at hn hl
    obtain ⟨t1, t2, t3, t4⟩ := gL.tail
    have x : At0 A L l.1 := ⟨t3, fun a ha => hlt a ha l (by simp), t2, by omega, sz100 gA t1⟩
    obtain ⟨c, hc, e⟩ := ex_gone (a := l.2) x t4
    obtain ⟨d, hd, f⟩ := ex_merge n A L [] (by simp only [List.length_nil]; omega) (by simp only [List.length_nil]; omega) gA t1 gM (fun a ha b hb => hlt a ha b (by simp at hb ⊢; exact .inr hb))
    rw [mergeD]
    refine ⟨c + d, by omega, Ex.app ?_ f⟩
    unfold chg
    simpa using e
  | n + 1, A, [], m :: M, hn, hl, gA, gL, gM, hlt => by
    simp only [List.length_cons, List.length_nil] at hn hl
    obtain ⟨t1, t2, t3, t4⟩ := gM.tail
    have hAm : ∀ a ∈ A, sLess a.1 m.1 = true := fun a ha => hlt a ha m (by simp)
    have x : At0 A [] m.1 := ⟨t3, hAm, (fun r hr => by cases hr), by simp only [List.length_nil]; omega, sz100 gA gL⟩
    obtain ⟨c, hc, e⟩ := ex_new (b := m.2) x t4
    obtain ⟨d, hd, f⟩ := ex_merge n (A ++ [m]) [] M (by simp only [List.length_nil]; omega) (by rw [List.length_append]; simp only [List.length_cons, List.length_nil]; omega) (gA.snoc hAm ⟨t3, t4⟩) gL t1 (fun a ha b hb => by
      simp only [List.nil_append] at hb
      rcases List.mem_append.1 ha with ha | ha
      · exact hlt a ha b (by simp [hb])
      · obtain rfl := List.mem_singleton.1 ha; exact t2 b hb)
    rw [mergeD]
    refine ⟨c + d, by omega, Ex.app e ?_⟩
    simpa using f
  | n + 1, A, l :: L, m :: M, hn, hl, gA, gL, gM, hlt => by
    simp only [List.length_cons] at hn hl
    obtain ⟨t1, t2, t3, t4⟩ := gM.tail
    obtain ⟨s1, s2, s3, s4⟩ := gL.tail
    have hAm : ∀ a ∈ A, sLess a.1 m.1 = true := fun a ha => hlt a ha m (by simp)
    have hAl : ∀ a ∈ A, sLess a.1 l.1 = true := fun a ha => hlt a ha l (by simp)
    rw [mergeD]
    rcases sl_tri l.1 m.1 with h | h | h
    · rw [if_pos h]
      have x : At0 A L l.1 := ⟨s3, hAl, s2, by omega, sz100 gA s1⟩
      obtain ⟨c, hc, e⟩ := ex_gone (a := l.2) x s4
      obtain ⟨d, hd, f⟩ := ex_merge n A L (m :: M) (by simp only [List.length_cons]; omega) (by simp only [List.length_cons]; omega) gA s1 gM (fun a ha b hb => hlt a ha b (by
        rcases List.mem_append.1 hb with hb | hb
        · exact List.mem_append_left _ (List.mem_cons_of_mem _ hb)
        · exact List.mem_append_right _ hb))
      refine ⟨c + d, by omega, Ex.app ?_ f⟩
      unfold chg
      simpa using e
    · have hn1 : sLess l.1 m.1 = false := by rw [h]; exact sl_irrefl _
      have hn2 : sLess m.1 l.1 = false := by rw [h]; exact sl_irrefl _
      rw [if_neg (by rw [hn1]; decide), if_neg (by rw [hn2]; decide)]
      have x : At0 A L m.1 := ⟨t3, hAm, by rw [← h]; exact s2, by omega, sz100 gA s1⟩
      obtain ⟨c, hc, e⟩ := ex_both (a := l.2) (b := m.2) x s4 t4
      obtain ⟨d, hd, f⟩ := ex_merge n (A ++ [m]) L M (by omega) (by rw [List.length_append]; simp only [List.length_cons, List.length_nil]; omega) (gA.snoc hAm ⟨t3, t4⟩) s1 t1 (fun a ha b hb => by
        rcases List.mem_append.1 ha with ha | ha
        · refine hlt a ha b ?_
          rcases List.mem_append.1 hb with hb | hb
          · exact List.mem_append_left _ (List.mem_cons_of_mem _ hb)
          · exact List.mem_append_right _ (List.mem_cons_of_mem _ hb)
        · obtain rfl := List.mem_singleton.1 ha
          rcases List.mem_append.1 hb with hb | hb
          · rw [← h]; exact s2 b hb
          · exact t2 b hb)
      refine ⟨c + d, by omega, Ex.app ?_ (by simpa using f)⟩
      unfold chg
      have e1 : ((m.1, l.2) : FileT) = l := by rw [← h]
      rw [e1] at e
      simpa using e
    · rw [if_neg (by rw [sl_asymm h]; decide), if_pos h]
      have x : At0 A (l :: L) m.1 := ⟨t3, hAm, fun r hr => by
        rcases List.mem_cons.1 hr with rfl | hr
        · exact h
        · exact sl_trans h (s2 r hr), by simp only [List.length_cons]; omega, sz100 gA gL⟩
      obtain ⟨c, hc, e⟩ := ex_new (b := m.2) x t4
      obtain ⟨d, hd, f⟩ := ex_merge n (A ++ [m]) (l :: L) M (by simp only [List.length_cons]; omega) (by rw [List.length_append]; simp only [List.length_cons, List.length_nil]; omega) (gA.snoc hAm ⟨t3, t4⟩) gL t1 (fun a ha b hb => by
        rcases List.mem_append.1 ha with ha | ha
        · refine hlt a ha b ?_
          rcases List.mem_append.1 hb with hb | hb
          · exact List.mem_append_left _ hb
          · exact List.mem_append_right _ (List.mem_cons_of_mem _ hb)
        · obtain rfl := List.mem_singleton.1 ha
          rcases List.mem_append.1 hb with hb | hb
          · rcases List.mem_cons.1 hb with rfl | hb
            · exact h
            · exact sl_trans h (s2 b hb)
          · exact t2 b hb)
      refine ⟨c + d, by omega, Ex.app e ?_⟩
      simpa using f
abbrev DH := (Int × Int) ⊕ (Int × Int × Int × List FileT)
abbrev DE := Int ⊕ (Unit ⊕ (Int × List FileT))
def doStep (ops : List OpT) (F0 : List FileT) : DH → Option (DH ⊕ DE) := fun h0 => caseS h0 (fun h0 => condO (ilt h0.2 (llen ops)) (guardO ((inR h0.2 (llen ops))) ((ref08_Store_one 1000 ((at_ T6 ops h0.2).1, (at_ T6 ops h0.2).2.1, (at_ T6 ops h0.2).2.2.1, (at_ T6 ops h0.2).2.2.2, 500, F0)).bind fun r1 => caseS r1 (fun r1 => condO (ine r1.2 0) (some (.inr (.inl r1.2))) ((ref08_Store_Free 1000 (500, F0)).bind fun r2 => condO (ilt r2 0) (some (.inr (.inl 15))) (condO (igt (WK .i64 (h0.1 + r1.1)) 40) (some (.inr (.inl 11))) (some (.inl (.inl ((WK .i64 (h0.1 + r1.1)), (WK .i64 (h0.2 + 1)))))))))
       (fun r1 => condO (ine r1.2.1 0) (some (.inr (.inl r1.2.1))) ((ref08_Store_Free 1000 (r1.2.2.1, r1.2.2.2)).bind fun r2 => condO (ilt r2 0) (some (.inr (.inl 15))) (condO (igt (WK .i64 (h0.1 + r1.1)) 40) (some (.inr (.inl 11))) (some (.inl (.inr (((WK .i64 (h0.1 + r1.1)), (WK .i64 (h0.2 + 1)), r1.2.2.1, r1.2.2.2)))))))))) (some (.inr (.inr (.inl ())))))
      (fun h0 => condO (ilt h0.2.1 (llen ops)) (guardO ((inR h0.2.1 (llen ops))) ((ref08_Store_one 1000 ((at_ T6 ops h0.2.1).1, (at_ T6 ops h0.2.1).2.1, (at_ T6 ops h0.2.1).2.2.1, (at_ T6 ops h0.2.1).2.2.2, h0.2.2.1, h0.2.2.2)).bind fun r1 => caseS r1 (fun r1 => condO (ine r1.2 0) (some (.inr (.inl r1.2))) ((ref08_Store_Free 1000 (h0.2.2.1, h0.2.2.2)).bind fun r2 => condO (ilt r2 0) (some (.inr (.inl 15))) (condO (igt (WK .i64 (h0.1 + r1.1)) 40) (some (.inr (.inl 11))) (some (.inl (.inr (((WK .i64 (h0.1 + r1.1)), (WK .i64 (h0.2.1 + 1)), h0.2.2.1, h0.2.2.2))))))))
       (fun r1 => condO (ine r1.2.1 0) (some (.inr (.inl r1.2.1))) ((ref08_Store_Free 1000 (r1.2.2.1, r1.2.2.2)).bind fun r2 => condO (ilt r2 0) (some (.inr (.inl 15))) (condO (igt (WK .i64 (h0.1 + r1.1)) 40) (some (.inr (.inl 11))) (some (.inl (.inr (((WK .i64 (h0.1 + r1.1)), (WK .i64 (h0.2.1 + 1)), r1.2.2.1, r1.2.2.2)))))))))) (some (.inr (.inr (.inr ((h0.2.2.1, h0.2.2.2)))))))
/-- What Do has come to. -/
def DoI (F0 F : List FileT) (t i : Nat) (h : DH) : Prop := (h = .inl ((t : Int), (i : Int)) ∧ F = F0) ∨ h = .inr ((t : Int), (i : Int), 500, F)
theorem do_ok {F0 G : List FileT} {ops : List OpT} {c : Nat} (hx : Ex F0 ops G c) (hc : c ≤ 40) (hl : ops.length ≤ 900) (hs0 : SmF F0) : (ref08_Store_Do 1000 (500, ops, F0) = some (.inl 0) ∧ G = F0) ∨ ref08_Store_Do 1000 (500, ops, F0) = some (.inr (0, 500, G)) := by
  have key : ∃ e : DE, loopK 1000 (doStep ops F0) (.inl (0, 0)) = some e ∧ ((e = .inr (.inl ()) ∧ G = F0) ∨ e = .inr (.inr (500, G))) := loopK_inv
    (step := doStep ops F0)
    (fun n h => ∃ (F : List FileT) (t i d : Nat), DoI F0 F t i h ∧ n + i = ops.length ∧ Ex F (ops.drop i) G d ∧ t + d ≤ 40 ∧ SmF F) _ (by
      rintro n h ⟨F, t, i, d, hd, hn, ex, ht, hsF⟩
      by_cases hi : i < ops.length
      · left
        rw [List.drop_eq_getElem_cons hi] at ex
        cases ex with
        | @cons _ F' _ _ _ c1 d1 s r =>
          obtain ⟨sm, s⟩ := s
          obtain ⟨v, hv, hv0⟩ := free_ok sm
          have ea : at_ T6 ops (i : Int) = ops[i] := at_nat hi
          have hin : inR (i : Int) (llen ops) := ⟨by omega, by unfold llen; omega⟩
          have hlt := ilt_t (show (i : Int) < llen ops by unfold llen; omega)
          have wi : WK .i64 ((i : Int) + 1) = ((i + 1 : Nat) : Int) := by rw [wk_i64 (by omega) (by omega)]; omega
          have wt : WK .i64 ((t : Int) + (c1 : Int)) = ((t + c1 : Nat) : Int) := by rw [wk_i64 (by omega) (by omega)]; omega
          have wt0 : WK .i64 ((t : Int) + 0) = (t : Int) := by rw [wk_i64 (by omega) (by omega)]; omega
          have hg : igt ((t + c1 : Nat) : Int) 40 = false := igt_f (by omega)
          have hg0 : igt (t : Int) 40 = false := igt_f (by omega)
          have hvn := ilt_f hv0
          rcases s with s | ⟨rfl, rfl, s⟩
          · rcases hd with ⟨rfl, rfl⟩ | rfl
            · refine ⟨.inr (((t + c1 : Nat) : Int), ((i + 1 : Nat) : Int), 500, F'), n - 1, ?_, by omega, F', t + c1, i + 1, d1, .inr rfl, by omega, r, by omega, sm⟩
              simp only [doStep, caseS_inl, hlt, condO_true, guardO_pos hin, ea, s, Option.bind_some, caseS_inr, show ine 0 0 = false from rfl, condO_false, hv, hvn, wt, hg, wi]
            · refine ⟨.inr (((t + c1 : Nat) : Int), ((i + 1 : Nat) : Int), 500, F'), n - 1, ?_, by omega, F', t + c1, i + 1, d1, .inr rfl, by omega, r, by omega, sm⟩
              simp only [doStep, caseS_inr, hlt, condO_true, guardO_pos hin, ea, s, Option.bind_some, caseS_inr, show ine 0 0 = false from rfl, condO_false, hv, hvn, wt, hg, wi]
          · rcases hd with ⟨rfl, rfl⟩ | rfl
            · refine ⟨.inl ((t : Int), ((i + 1 : Nat) : Int)), n - 1, ?_, by omega, F', t, i + 1, d1, .inl ⟨rfl, rfl⟩, by omega, r, by omega, sm⟩
              simp only [doStep, caseS_inl, hlt, condO_true, guardO_pos hin, ea, s, Option.bind_some, show ine 0 0 = false from rfl, condO_false, hv, hvn, wt0, hg0, wi]
            · refine ⟨.inr ((t : Int), ((i + 1 : Nat) : Int), 500, F'), n - 1, ?_, by omega, F', t, i + 1, d1, .inr rfl, by omega, r, by omega, sm⟩
              simp only [doStep, caseS_inl, caseS_inr, hlt, condO_true, guardO_pos hin, ea, s, Option.bind_some, show ine 0 0 = false from rfl, condO_false, hv, hvn, wt0, hg0, wi]
      · right
        rw [List.drop_of_length_le (by omega)] at ex
        cases ex
        have hlt := ilt_f (show llen ops ≤ (i : Int) by unfold llen; omega)
        rcases hd with ⟨rfl, rfl⟩ | rfl
        · exact ⟨_, by simp only [doStep, caseS_inl, hlt, condO_false], .inl ⟨rfl, rfl⟩⟩
        · exact ⟨_, by simp only [doStep, caseS_inr, hlt, condO_false], .inr rfl⟩) ops.length _ ⟨F0, 0, 0, c, .inl ⟨rfl, rfl⟩, by omega, by rw [List.drop_zero]; exact hx, by omega, hs0⟩ 1000 (by omega)
  obtain ⟨e, he, hq⟩ := key
  rcases hq with ⟨rfl, hg⟩ | rfl
  · left
    refine ⟨?_, hg⟩
    unfold ref08_Store_Do
    refine bind_of (a := .inr (.inl ())) ?_ rfl
    refine bind_of he rfl
  · right
    unfold ref08_Store_Do
    refine bind_of (a := .inr (.inr (500, G))) ?_ rfl
    refine bind_of he rfl
theorem imageGoes_law : ImageGoesPure := by
  intro a b _ _
  refine ⟨1000, ?_⟩
  obtain ⟨a, rfl⟩ : ∃ a' : List FileT, a' = a := ⟨a, rfl⟩
  obtain ⟨b, rfl⟩ : ∃ b' : List FileT, b' = b := ⟨b, rfl⟩
  obtain ⟨L, hL, oL⟩ := files_ok a
  obtain ⟨M, hM, oM⟩ := files_ok b
  have hLl := oL.len
  have hMl := oM.len
  unfold law21_ImageGoes
  refine bind_of awake21 ?_
  refine bind_of hL ?_
  refine bind_of hM ?_
  refine bind_of (a := (500, L)) ?_ ?_
  · refine loopK_run (fun i : Nat => ((i : Int), (500 : Int), L.take i)) L.length _ 1000 ?_ ?_ (by omega)
    · intro i hi
      have ea : at_ T5 L (i : Int) = L[i] := at_nat hi
      have hin : inR (i : Int) (llen L) := ⟨by omega, by unfold llen; omega⟩
      simp only [ilt_t (show (i : Int) < llen L by unfold llen; omega), condO_true, guardO_pos hin, ea]
      rw [guardO_pos (by unfold appOk; rw [List.length_take]; simp only [List.length_cons, List.length_nil]; omega), wk_i64 (x := (i : Int) + 1) (by omega) (by omega), List.take_succ_eq_append_getElem hi]
      rfl
    · simp only [ilt_f (show llen L ≤ (L.length : Int) by unfold llen; omega), condO_false, List.take_length]
  have n1 := mergeD_len 40 L M (by omega)
  refine bind_of (diff_ok (by omega) (by omega)) ?_
  obtain ⟨c, hc, ex⟩ := ex_merge 16 [] L M (by omega) (by simp only [List.length_nil]; omega) ⟨List.Pairwise.nil, fun f hf => by cases hf⟩ oL.goodF oM.goodF (fun a ha => by cases ha)
  have cmp : ∀ G : List FileT, G = M → (loopK (H := Int) (E := (Bool) ⊕ (Unit)) 1000 (fun h6 => condO (ilt h6 (llen M)) (guardO ((inR h6 (llen G))) (guardO ((inR h6 (llen M))) (condO (!(sEq (at_ T5 G h6).1 (at_ T5 M h6).1)) (some (.inr (.inl false))) (guardO ((inR h6 (llen G))) (guardO ((inR h6 (llen M))) (condO (!(sEq (at_ T5 G h6).2 (at_ T5 M h6).2)) (some (.inr (.inl false))) (some (.inl ((WK .i64 (h6 + 1)))))))))) ) (some (.inr (.inr (()))))) 0) = some (.inr ()) := by
    intro G hG
    rw [hG]
    refine loopK_run (fun i : Nat => (i : Int)) M.length _ 1000 ?_ ?_ (by omega)
    · intro i hi
      have hin : inR (i : Int) (llen M) := ⟨by omega, by unfold llen; omega⟩
      simp only [ilt_t (show (i : Int) < llen M by unfold llen; omega), condO_true, guardO_pos hin, sEq_self, Bool.not_true, condO_false]
      rw [wk_i64 (by omega) (by omega)]; rfl
    · simp only [ilt_f (show llen M ≤ (M.length : Int) by unfold llen; omega), condO_false]
  have hsm : SmF L := ⟨by omega, fun f hf => by have := (oL.ok f hf).sz; omega⟩
  rcases do_ok (by simpa using ex) (by omega) (by omega) hsm with ⟨hd, hg⟩ | hd
  · refine bind_of hd ?_
    simp only [caseS_inl, show ine 0 0 = false from rfl, condO_false]
    rw [ine_f (by rw [hg]), condO_false]
    exact bind_of (cmp L hg.symm) rfl
  · refine bind_of hd ?_
    simp only [caseS_inr, show ine 0 0 = false from rfl, condO_false]
    rw [ine_f rfl, condO_false]
    exact bind_of (cmp M rfl) rfl
end Go.Proofs.YthdgllldpfeelaaGreatDoor
