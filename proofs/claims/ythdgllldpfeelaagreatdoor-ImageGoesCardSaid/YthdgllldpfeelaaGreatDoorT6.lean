/- Texts of the proof, put together: part 6. No condition. -/
import Derived.Test.YthdgllldpfeelaaGreatDoorT5
/- A range over slices.Backward, whole. No condition. -/
set_option linter.unusedVariables false
set_option linter.unusedSimpArgs false
namespace Go.Proofs.YthdgllldpfeelaaGreatDoor
open Go
section
variable {P : Program} {g : Env} {γ : Ghost} {S : St} {n : Nat} {a : Act} {w0 w : World} {D A : Nat → Prop}
theorem rangeG_spec {β : Type} {K : Ek → St → Option β} {out : β} {Q : Exit → Act → World → Prop} {B : Bk} (hB : BkOk P B) {gop : Operand} {ps : Array Tmp} {asg body : Code} {asgR bodyR : Run} {dA dB : Nat}
    {b o T e : Nat} {u : Ty} {xs : List u.den} {m : Md} {fu : Bool} {hd oc : Cls} {hs ns os : List Plan} (G : List (Int × u.den) → DenL hd.T → Prop) {x0 : DenL hd.T}
    (F : Fit g γ S n a) (C : Cx g S w0 D A w) (M : Mk γ w)
    (hg : a.eval gop = .func (.func B.gf) #[] #[.pointer (some ⟨(g b).b, 0, none⟩)]) (hb : S.ob b = .box T [.sl o]) (ho : S.ob o = .row e u xs m fu) (hTe : B.Te = e) (hsz : elemSz P B.Ts = some u.sz)
    (hps : ∀ p ∈ ps.toList, p < n)
    (hasg : ∀ l, RunOk n dA asgR (fun Q a w => asg.wpIn (FR (some l)) 3 P Q a w)) (hbody : ∀ l, RunOk n dB bodyR (fun Q a w => body.wpIn (FR (some l)) 3 P Q a w))
    (hx0 : injE (fresh S) 0 hd (fun _ => 0) .normal (fresh S) = some x0) (hG : G (backL xs) x0)
    (hG0 : ∀ x, G [] x → elimL hd.T x (afterE (optA β) S 0 hd.cls ns fun _ S' => K .normal S') = some out)
    (hG1 : ∀ p rest x, G (p :: rest) x → ∃ (δ : Type) (KK : Ek → St → Option δ) (z : δ), elimL hd.T x (afterE (optA δ) (fresh S) 0 hd.cls hs fun _ S' => roundE P S b o e u m ps.toList asgR bodyR p _ (optA δ) S' KK) = some z ∧
      ∀ e S2, KK e S2 = some z → (e = .normal ∧ ∃ x', injE (fresh S) 0 hd (fun _ => 0) .normal S2 = some x' ∧ G rest x') ∨
        (e ≠ .normal ∧ ∃ x', injE (fresh S) 0 oc (fun _ => 0) e S2 = some x' ∧ elimL oc.T x' (afterE (optA β) S 0 oc.cls os K) = some out))
    (hK : ∀ g' γ' S' e a' w', K e S' = some out → Fit g' γ' S' n a' → Cx g' S' w0 D A w' → Mk γ' w' → SameG γ' γ → Kp g S (bitP 0) g' S' → Q (toX e) a' w') :
    (Code.rangeFunc gop ps asg body).wpIn (FR none) 3 P Q a w := by
  refine wpIn_rangeFunc ?_
  intro fn hfn
  obtain ⟨rec, hrec⟩ : ∃ rec : LoopState → Option Code → Loop, rec = fun st pe => { state := st, pending := pe, fn, tmps := a.tmps, params := ps, assign := asg, body, defers := w.heap.size } := ⟨_, rfl⟩
  obtain ⟨W1, hW1⟩ : ∃ W1, (w.alloc (.deferred (some []))).alloc (.loop (rec .ready none)) = W1 := ⟨_, rfl⟩
  obtain ⟨l, hl⟩ : ∃ l, l = w.heap.size + 1 := ⟨_, rfl⟩
  have hL1 : W1.heap[l]? = some (.loop (rec .ready none)) := by
    rw [← hW1, hl]; have := World.alloc_heap_new (w.alloc (.deferred (some []))) (.loop (rec .ready none)); rwa [World.size_alloc] at this
  have hK1 : W1.heap[w.heap.size]? = some (.deferred (some [])) := by
    rw [← hW1]; exact (Go.RowKit.Below.heap_alloc _ _ _ (by simp)).trans (World.alloc_heap_new w _)
  have hFr1 : Fr nob w W1 := by rw [← hW1]; exact (Fr.alloc w _).then (Fr.alloc _ _)
  have C0 := cx_self C
  obtain ⟨DD, hDD⟩ : ∃ DD, DD = domF fun i => entL g i (S.ob i) := ⟨_, rfl⟩
  obtain ⟨AA, hAA⟩ : ∃ AA, AA = freeF fun i => entR g i (S.ob i) := ⟨_, rfl⟩
  rw [← hDD, ← hAA] at C0
  have C1 : Cx g (fresh S) w DD AA W1 := cf_still C0 hFr1
  obtain ⟨ar, har⟩ : ∃ ar : Act, ar = { a with defers := [] } := ⟨_, rfl⟩
  have F0 : Fit g ⟨γ.f, [], γ.lo, γ.gp⟩ (fresh S) n ar := by rw [har]; exact fit_ds (fit_fresh F)
  have hlen : xs.length ≤ 9223372036854775807 := by obtain ⟨ao, c, _, h1, h2, _⟩ := shp_of C ho; omega
  have hbl : b < S.obs.length := by
    rcases Nat.lt_or_ge b S.obs.length with h | h
    · exact h
    · rw [ob_ge h] at hb; cases hb
  have hol : o < S.obs.length := by
    rcases Nat.lt_or_ge o S.obs.length with h | h
    · exact h
    · rw [ob_ge h] at ho; cases ho
  obtain ⟨v, hv⟩ : ∃ v, v = (g o).v := ⟨_, rfl⟩
  have hshp : Shp v xs.length := by rw [hv]; exact shp_of C ho
  -- between rounds
  obtain ⟨J, hJ⟩ : ∃ J : Nat → World → Prop, J = fun k W => W.heap[l]? = some (.loop (rec .ready none)) ∧ W.heap[w.heap.size]? = some (.deferred (some [])) ∧ ∃ x, G (backL (xs.take k)) x ∧
      Stands .normal (fresh S) 0 hd x g ⟨γ.f, [], γ.lo, γ.gp⟩ n ar w DD AA W ∧ Stands .normal S 0 hd x g ⟨γ.f, [], γ.lo, γ.gp⟩ n ar w DD AA W := ⟨_, rfl⟩
  obtain ⟨X, hX⟩ : ∃ X : World → Prop, X = fun W => ∃ (e : Ek) (x : DenL oc.T), e ≠ .normal ∧ W.heap[l]? = some (.loop (rec .done (some (codeX e)))) ∧ W.heap[w.heap.size]? = some (.deferred (some [])) ∧
      elimL oc.T x (afterE (optA β) S 0 oc.cls os K) = some out ∧ Stands e S 0 oc x g ⟨γ.f, [], γ.lo, γ.gp⟩ n ar w DD AA W := ⟨_, rfl⟩
  -- what is left behind
  have oldM : ∀ {g' : Env} {S' : St} {W : World}, Cx g' S' w DD AA W → Mk γ W := fun {g' S' W} K => by
    rw [hDD, hAA] at K; exact mk_keep C K M
  have backC : ∀ {g' : Env} {S' : St} {W : World}, Cx g' S' w DD AA W → Cx g' S' w0 D A W := fun {g' S' W} K => by
    rw [hDD, hAA] at K; exact cf_then C K
  have leave : ∀ (e : Ek) (g' : Env) (γ' : Ghost) (S' : St) (W : World) (st : LoopState) (pe : Option Code), K e S' = some out → Fit g' γ' S' n ar → Cx g' S' w DD AA W → SameG γ' γ → Kp g S (bitP 0) g' S' → W.heap[l]? = some (.loop (rec st pe)) → W.heap[w.heap.size]? = some (.deferred (some [])) → ∀ o',
      Q (toX e) { a with defers := markOf w.heap.size :: a.defers } (W.putObj l o') := by
    intro e g' γ' S' W st pe h1 h2 h3 h4 h5 h6 h7 o'
    have hds : a.defers = γ.ds := F.defers
    have Fn : Fit g' ⟨γ'.f, markOf w.heap.size :: a.defers, γ'.lo, γ'.gp⟩ S' n { ar with defers := markOf w.heap.size :: a.defers } := fit_ds h2
    have Cn : Cx g' S' w DD AA (W.putObj l o') := cx_putobj h3 h6 rfl (by omega)
    have Mo : Mk γ (W.putObj l o') := oldM Cn
    rw [har] at Fn
    refine hK g' _ S' e _ _ h1 Fn (backC Cn) ?_ ⟨h4.f, h4.lo⟩ h5
    obtain ⟨d0, Ds, d1, d2, d3⟩ := Mo
    obtain ⟨e0, Ds0, e1, e2, e3⟩ := M
    have hsame : Ds = Ds0 := by
      have : Ds.map markOf = Ds0.map markOf := by rw [← d1, ← e1]
      exact (List.map_inj_right (fun x y h => by simp [markOf] at h; exact h)).1 this
    refine ⟨by simp only [h4.lo]; exact d0, w.heap.size :: Ds, by rw [hds, d1]; rfl, List.pairwise_cons.2 ⟨fun D hD e => ?_, d2⟩, fun D hD => ?_⟩
    · subst hsame
      have := (Array.getElem?_eq_some_iff.1 (e3 D hD).2).1
      omega
    · rcases List.mem_cons.1 hD with rfl | hD
      · rw [World.putObj_heap_other (by omega)]; exact ⟨by simp only [h4.lo]; exact e0, h7⟩
      · exact ⟨by simp only [h4.lo]; exact (d3 D hD).1, (d3 D hD).2⟩
  refine ⟨l, [markOf w.heap.size], W1, { target := .fn (.func B.gf) #[.pointer (some ⟨(g b).b, 0, none⟩)], args := #[.func (.yield l) #[] #[]] }, W1, B.gf,
    #[.func (.yield l) #[] #[]] ++ #[.pointer (some ⟨(g b).b, 0, none⟩)], W1, ?_, ?_, fun _ _ => trivial, ?_, fun _ => by decide, callsIn_wide.2 ?_⟩
  · rw [← hW1, hrec, hl]; exact run_enterLoop_outer _ _ _ _ _
  · simp only [resolve, hg]
    simp [go_sem]
  · simp [invoke, go_sem, run_callFunc hB.en]
  have key := back_walk hB (l := l) (bb := (g b).b) (W1 := W1) (N := xs.length) (v := v) J X hsz hshp hlen ?_ ?_ ?_
  · refine Calls.mono (by simpa [yieldV] using key) ?_
    rintro e W ⟨⟨v, rfl⟩, h⟩
    rcases h with h | h
    · rw [hJ] at h
      obtain ⟨h1, h2, x, hx, _, st⟩ := h
      refine ⟨_, _, run_endLoop h1 (by rw [hrec]; simp), ?_⟩
      rw [hrec]
      simp only
      obtain ⟨g8, γ8, S8, k1, k2, k3, k4, k5, k6⟩ := st _ _ _ _ (hG0 x (by simpa [backL] using hx))
      exact leave .normal g8 γ8 S8 W _ _ k1 k2 k3 ⟨k5.f, k5.lo⟩ k6 h1 h2 _
    · rw [hX] at h
      obtain ⟨e, x, he, h1, h2, hx, st⟩ := h
      refine ⟨_, _, run_endLoop h1 (by rw [hrec]; simp), ?_⟩
      obtain ⟨g8, γ8, S8, k1, k2, k3, k4, k5, k6⟩ := st _ _ _ _ hx
      have fin := fun o' => leave e g8 γ8 S8 W _ _ k1 k2 k3 ⟨k5.f, k5.lo⟩ k6 h1 h2 o'
      rw [hrec]
      simp only
      cases e with
      | normal => exact absurd rfl he
      | exit i => exact c_exit rfl (fin _)
      | ret => exact c_ret rfl (fin _)
  · rw [hJ]
    refine ⟨hL1, hK1, x0, by rw [List.take_length]; exact hG, ?_, ?_⟩
    · exact injE_spec (S := fresh S) (base := fresh S) rfl rfl F0 F0 C1 (mk_nil (Nat.le_trans M.1 hFr1.size)) (SameG.refl _) (Kp.refl g (fresh S) (bitP 0)) (fun _ => id) hx0
    · exact injE_spec (S := S) (base := fresh S) rfl rfl F0 F0 C1 (mk_nil (Nat.le_trans M.1 hFr1.size)) (SameG.refl _) (Kp.refl g (fresh S) (bitP 0)) (fun _ => id) hx0
  · have h := C1.okL b
    have h : (entL g b (S.ob b)).ok W1 := h
    rw [hb] at h
    have h : W1.heap[(g b).b]? = some (.cells (encL g [.sl o]).toArray T (0, 0)) := h
    rw [hv]
    exact (cell_of_row W1 (g b).b 0 _ T (0, 0) h).trans (by simp [encL, encA])
  · intro k W hk hj
    rw [hJ] at hj
    obtain ⟨hL, hDf, x, hx, st, _⟩ := hj
    rw [backL_succ xs k hk] at hx
    obtain ⟨δ, KK, z, hz, hKK⟩ := hG1 _ _ _ hx
    obtain ⟨g2, γ2, S2, hr, F2, C2, M2, f2, Z2⟩ := st _ _ _ _ hz
    unfold roundE at hr
    split at hr
    · simp [optA] at hr
    rename_i hmods
    simp only [Bool.or_eq_true, not_or, Bool.not_eq_true] at hmods
    have hmb : b ∉ S2.mods := by have := hmods.1; simpa using this
    have hmo : o ∉ S2.mods := by have := hmods.2; simpa using this
    obtain ⟨sb1, sb2⟩ := Z2.same b hbl hmb
    obtain ⟨so1, so2⟩ := Z2.same o hol hmo
    have sb1 : S2.ob b = .box T [.sl o] := sb1.trans hb
    have so1 : S2.ob o = .row e u xs m fu := so1.trans ho
    split at hr
    · rename_i q p r hq hps2
      obtain rfl : ps = #[p, r] := by apply Array.toList_inj.1; rw [hps2]
      have hat : at_ u xs (k : Int) = xs[k] := by simp [at_, List.getD_eq_getElem?_getD, hk]
      -- the element, read
      obtain ⟨X0, hX0⟩ : ∃ X0 : Operand, X0 = .const (encV g2 (.elp o u.sz (k : Int) 0)) := ⟨_, rfl⟩
      have hX1 : ar.eval X0 = encS g2 (.v (.elp o u.sz (k : Int) 0)) := by rw [hX0]; rfl
      have hok : okS S2 (.v (.elp o u.sz (k : Int) 0)) := by
        intro e' t' xs' m' fu' he'
        rw [so1] at he'
        cases he'
        exact ⟨by omega, by omega, rfl⟩
      have hld : ldS P S2 e (.v (.elp o u.sz (k : Int) 0)) = some q := by
        rw [ldAt_ldS so1, hat]; exact hq
      obtain ⟨g3, LK⟩ := ldS_spec F2 hX1 hok (fun x hx => by
        simp only [refS, refV, List.mem_singleton] at hx
        subst hx
        exact Nat.lt_of_lt_of_le hol Z2.len) hld
      obtain ⟨hnew, hrun⟩ := LK.run _ _ _ _ C2
      have C3 : Cx g3 (S2.add q.news) w DD AA W := cx_add F2 LK.ext hnew C2
      refine ⟨?_, encS g3 q.v, fun ρ y hy => ?_, ?_⟩
      · have h := C2.okL b
        have h : (entL g2 b (S2.ob b)).ok W := h
        rw [sb1] at h
        have h : W.heap[(g2 b).b]? = some (.cells (encL g2 [.sl o]).toArray T (0, 0)) := h
        rw [sb2] at h
        rw [hv]
        exact (cell_of_row W (g b).b 0 _ T (0, 0) h).trans (by simp [encL, encA, so2])
      · rw [hTe]
        refine load_any hrun ?_
        rw [hy, hX1]
        simp only [encS, encV, so2, ← hv]
        simp only [Int.toNat_natCast]
        obtain ⟨ao, c, hve, h3, h4, h5⟩ := hshp
        cases ao with
        | none => have := h5 rfl; omega
        | some ad => rw [hve]; simp only [elemA, add_add, Nat.add_zero]
      · -- the round
        obtain ⟨S3, hS3⟩ : ∃ S3, S3 = ((S2.add q.news).put (some p) (.int .i64 (k : Int))).put (some r) q.v := ⟨_, rfl⟩
        obtain ⟨a3, ha3⟩ : ∃ a3, a3 = (ar.put (some p) (.int .i64 (k : Int))).put (some r) (encS g3 q.v) := ⟨_, rfl⟩
        have F3 : Fit g3 γ2 S3 n a3 := by
          rw [hS3, ha3]
          refine fit_put (fit_put LK.fit (v := .int .i64 (k : Int)) (fun t ht => ?_) trivial (by simp [SV.int, refS, refV, refA])) (fun t ht => ?_) ?_ ?_
          · cases ht; exact hps p (by simp)
          · cases ht; exact hps r (by simp)
          · have := LK.ok
            cases hqv : q.v <;> rw [hqv] at this <;> exact this
          · exact LK.rs
        have C3' : Cx g3 S3 w DD AA W := by rw [hS3]; exact C3
        have Z3 : Kp g (fresh S) (fun _ => True) g3 S3 := by
          have Za : Kp g2 S2 (fun _ => True) g3 (S2.add q.news) := Kp.add _ LK.ext
          have Zb := Z2.trans (d := fun _ => True) Za (fun _ _ => trivial) (fun _ _ => trivial)
          rw [hS3]
          exact ⟨Zb.len, Zb.vb, Zb.same, Zb.mods, fun t ht => absurd trivial ht, Zb.rows⟩
        have hy := run_yield (P := P) (args := #[.int .i64 (k : Int), encS g3 q.v]) hL (by simp [hrec])
        refine ⟨fn, _, asg, body, by rw [hy, hrec], roundIn_of_wpIn trivial ?_⟩
        have hact : ({ tmps := (((rec .ready none).params).zip #[.int .i64 (k : Int), encS g3 q.v]).foldl (fun t (p, v) => t.setIfInBounds p v) (rec .ready none).tmps, defers := [] } : Act) = a3 := by
          rw [ha3, har, hrec]; simp [Act.put]
        rw [hrec] at hact
        rw [hact]
        rw [← hS3] at hr
        refine wide_n (ro := some l) (m := 3) (k := 2) (hasg l hr F3 (cx_self C3') M2 (fun g4 γ4 S4 e4 a4 w4 h1 F4 C4 M4 f4 Z4 => ?_))
        by_cases he4 : e4 = .normal
        · subst he4
          rw [if_pos rfl] at h1
          have hL4 := cx_lies C3' C4 hL rfl
          have hD4 := cx_lies C3' C4 hDf rfl
          have C4' := cf_then C3' C4
          have hlt := (Array.getElem?_eq_some_iff.1 hL4).1
          obtain ⟨W5, hW5⟩ : ∃ W5, W5 = w4.putObj l (.loop { rec .ready none with state := .busy }) := ⟨_, rfl⟩
          have hL5 : W5.heap[l]? = some (.loop { rec .ready none with state := .busy }) := by rw [hW5]; exact World.putObj_heap_same hlt
          have hD5 : W5.heap[w.heap.size]? = some (.deferred (some [])) := by rw [hW5, World.putObj_heap_other (by omega)]; exact hD4
          have C5 : Cx g4 S4 w DD AA W5 := by rw [hW5]; exact cx_putobj C4' hL4 rfl (by omega)
          have M5 : Mk γ4 W5 := by rw [hW5]; exact mk_put M4 hL4 (by simp)
          refine ⟨W5, by rw [hW5]; exact run_beginRound hL4 (by rw [hrec]), ?_⟩
          refine wide_n (ro := some l) (m := 3) (k := 2) (hbody l h1 F4 (cx_self C5) M5 (fun g6 γ6 S6 e6 a6 w6 h6 F6 C6 M6 f6 Z6 => ?_))
          have hL6 := cx_lies C5 C6 hL5 rfl
          have hD6 := cx_lies C5 C6 hD5 rfl
          have C6' := cf_then C5 C6
          have hlt6 := (Array.getElem?_eq_some_iff.1 hL6).1
          have Zall : Kp g (fresh S) (fun _ => True) g6 S6 := (Z3.trans (d := fun _ => True) Z4 (fun _ _ => trivial) (fun _ _ => trivial)).trans Z6 (fun _ _ => trivial) (fun _ _ => trivial)
          have Fb : Fit g6 ⟨γ.f, [], γ.lo, γ.gp⟩ { S6 with slots := S.slots } n ar := by rw [har]; exact fit_back (S := fresh S) (fit_fresh F) F6 Zall []
          have Kb : Kp g (fresh S) (bitP 0) g6 { S6 with slots := S.slots } := kp_back (S := S) Zall rfl _
          have fin : ∀ (jump : Option Code), ∃ W7, (Instr.endRound l jump).run P w6 = .ok (.bool jump.isNone) W7 ∧ W7.heap[l]? = some (.loop (rec (if jump.isNone then .ready else .done) jump)) ∧ W7.heap[w.heap.size]? = some (.deferred (some [])) ∧ Cx g6 { S6 with slots := S.slots } w DD AA W7 := by
            intro jump
            refine ⟨_, run_endRound jump hL6, ?_, ?_, cx_putobj C6' hL6 rfl (by omega)⟩
            · rw [World.putObj_heap_same hlt6, hrec]
            · rw [World.putObj_heap_other (by omega)]; exact hD6
          rcases hKK e6 _ h6 with ⟨rfl, x', hi, hgr⟩ | ⟨hne, x', hi, hout⟩
          · obtain ⟨W7, q1, q2, q3, q4⟩ := fin none
            refine ⟨_, W7, q1, .inl ⟨rfl, ?_⟩⟩
            rw [hJ]
            refine ⟨q2, q3, x', hgr, ?_, ?_⟩
            · exact injE_spec (S := fresh S) (base := fresh S) rfl rfl F0 Fb q4 (mk_nil (Nat.le_trans M.1 q4.fr.size)) (SameG.refl _) Kb (fun _ => id) hi
            · exact injE_spec (S := S) (base := fresh S) rfl rfl F0 Fb q4 (mk_nil (Nat.le_trans M.1 q4.fr.size)) (SameG.refl _) Kb (fun _ => id) hi
          · have st : ∀ W7, Cx g6 { S6 with slots := S.slots } w DD AA W7 → Stands e6 S 0 oc x' g ⟨γ.f, [], γ.lo, γ.gp⟩ n ar w DD AA W7 := fun W7 q4 =>
              injE_spec (S := S) (base := fresh S) rfl rfl F0 Fb q4 (mk_nil (Nat.le_trans M.1 q4.fr.size)) (SameG.refl _) Kb (fun _ => id) hi
            cases e6 with
            | normal => exact absurd rfl hne
            | exit i =>
              obtain ⟨W7, q1, q2, q3, q4⟩ := fin (some (.exit i))
              exact ⟨_, W7, q1, .inr ⟨rfl, by rw [hX]; exact ⟨.exit i, x', hne, q2, q3, hout, st W7 q4⟩⟩⟩
            | ret =>
              obtain ⟨W7, q1, q2, q3, q4⟩ := fin (some .ret)
              exact ⟨_, W7, q1, .inr ⟨rfl, by rw [hX]; exact ⟨.ret, x', hne, q2, q3, hout, st W7 q4⟩⟩⟩
        · rw [if_neg he4] at h1
          simp [optA] at h1
    · simp [optA] at hr
theorem rangeE_spec {β : Type} {K : Ek → St → Option β} {out : β} {Q : Exit → Act → World → Prop} {B : Bk} (hB : BkOk P B) {gop : Operand} {ps : Array Tmp} {asg body : Code} {asgR bodyR : Run} {dA dB : Nat}
    {b o T e : Nat} {u : Ty} {xs : List u.den} {m : Md} {fu : Bool} {hd oc : Cls} {hs ns os : List Plan}
    (h : rangeE (optA β) S (backL xs) (roundE P S b o e u m ps.toList asgR bodyR) K hd oc hs ns os = some out)
    (F : Fit g γ S n a) (C : Cx g S w0 D A w) (M : Mk γ w)
    (hg : a.eval gop = .func (.func B.gf) #[] #[.pointer (some ⟨(g b).b, 0, none⟩)]) (hb : S.ob b = .box T [.sl o]) (ho : S.ob o = .row e u xs m fu) (hTe : B.Te = e) (hsz : elemSz P B.Ts = some u.sz)
    (hps : ∀ p ∈ ps.toList, p < n)
    (hasg : ∀ l, RunOk n dA asgR (fun Q a w => asg.wpIn (FR (some l)) 3 P Q a w)) (hbody : ∀ l, RunOk n dB bodyR (fun Q a w => body.wpIn (FR (some l)) 3 P Q a w))
    (hK : ∀ g' γ' S' e a' w', K e S' = some out → Fit g' γ' S' n a' → Cx g' S' w0 D A w' → Mk γ' w' → SameG γ' γ → Kp g S (bitP 0) g' S' → Q (toX e) a' w') :
    (Code.rangeFunc gop ps asg body).wpIn (FR none) 3 P Q a w := by
  unfold rangeE at h
  split at h
  · rename_i hnil
    obtain ⟨y, hy, h⟩ := Option.bind_eq_some_iff.1 h
    obtain ⟨x0, hx0, hy⟩ := Option.bind_eq_some_iff.1 hy
    refine rangeG_spec hB (hd := hd) (oc := oc) (hs := hs) (ns := ns) (os := os) (fun l x => ∃ y, foldL l (fun h x => foldStep (fresh S) (roundE P S b o e u m ps.toList asgR bodyR x) hd hs h) x = some y ∧ elimL hd.T y (afterE (optA β) S 0 hd.cls ns fun _ S' => K .normal S') = some out)
      F C M hg hb ho hTe hsz hps hasg hbody hx0 ⟨y, hy, h⟩ ?_ ?_ hK
    · rintro x ⟨y, hy, h⟩
      simp only [foldL, Option.some.injEq] at hy
      subst hy; exact h
    · rintro p rest x ⟨y, hy, h⟩
      simp only [foldL] at hy
      obtain ⟨z, hz, hy⟩ := Option.bind_eq_some_iff.1 hy
      refine ⟨_, _, z, hz, fun e S2 he => .inl ?_⟩
      split at he
      · rename_i e0; exact ⟨e0, z, he, y, hy, h⟩
      · cases he
  · obtain ⟨y, hy, h⟩ := Option.bind_eq_some_iff.1 h
    obtain ⟨x0, hx0, hy⟩ := Option.bind_eq_some_iff.1 hy
    refine rangeG_spec hB (hd := hd) (oc := oc) (hs := hs) (ns := ns) (os := os) (fun l x => ∃ y, iterL l (fun h x => loopStep (fresh S) 0 (fun _ => 0) (roundE P S b o e u m ps.toList asgR bodyR x) hd oc hs h) x = some y ∧
        caseS y (fun a => elimL hd.T a (afterE (optA β) S 0 hd.cls ns fun _ S' => K .normal S')) (fun b => elimL oc.T b (afterE (optA β) S 0 oc.cls os K)) = some out)
      F C M hg hb ho hTe hsz hps hasg hbody hx0 ⟨y, hy, h⟩ ?_ ?_ hK
    · rintro x ⟨y, hy, h⟩
      simp only [iterL, Option.some.injEq] at hy
      subst hy; exact h
    · rintro p rest x ⟨y, hy, h⟩
      simp only [iterL] at hy
      obtain ⟨z, hz, hy⟩ := Option.bind_eq_some_iff.1 hy
      refine ⟨_, _, z, hz, fun e S2 he => ?_⟩
      split at he
      · rename_i e0
        obtain ⟨x', hx', rfl⟩ := Option.map_eq_some_iff.1 he
        exact .inl ⟨e0, x', hx', y, hy, h⟩
      · rename_i e0
        obtain ⟨x', hx', rfl⟩ := Option.map_eq_some_iff.1 he
        simp only [caseS, Option.some.injEq] at hy
        subst hy
        exact .inr ⟨e0, x', hx', h⟩
end
end Go.Proofs.YthdgllldpfeelaaGreatDoor
/- Code, walked. No condition. -/
set_option linter.unusedVariables false
set_option linter.unusedSimpArgs false
namespace Go.Proofs.YthdgllldpfeelaaGreatDoor
open Go
theorem okOps_spec {n : Nat} {os : List Oper} (h : okOps n os = true) : ∀ o ∈ os, ∀ d, o.dst = some d → d < n := by
  intro o ho d hd
  have := List.all_eq_true.1 h o ho
  simp only [hd, Bool.and_eq_true, decide_eq_true_eq] at this
  exact this.1
theorem okOps_def {n : Nat} {os : List Oper} (h : okOps n os = true) : ∀ o ∈ os, noDef o.op = true := by
  intro o ho
  have := List.all_eq_true.1 h o ho
  simp only [Bool.and_eq_true] at this
  exact this.2
theorem Kp.of_to {g g' : Env} {S S' : St} {p : Plan} {d : Nat → Prop} (h : Kp g (S.to p) d g' S') : Kp g S d g' S' := ⟨h.len, h.vb, h.same, h.mods, h.slots, h.rows⟩
theorem Kp.bits {g g' : Env} {S S' : St} {ops : List Oper} (h : Kp g S (dsts ops) g' S') : Kp g S (bitP (defsOps ops)) g' S' := h.mono (fun t => dsts_bit)
section
variable {P : Program} {γ : Ghost} {n : Nat} {Γ : List Con} {inl : List Nat} {bk : List Bk} {H : Inl} {k : Nat}
theorem kp_mods {g g' : Env} {S S' : St} {d : Nat → Prop} (h : Kp g (fresh S) d g' S') : Kp g S d g' { S' with mods := S'.mods ++ S.mods } :=
  ⟨h.len, h.vb, fun i hi hm => h.same i hi (fun hx => hm (by simp only [List.mem_append]; exact .inl hx)), fun i hi => by simp only [List.mem_append]; exact .inr hi, h.slots, h.rows⟩
theorem drawE_spec {α : Type} {K : St → Option α} {out : α} {Q : Exit → Act → World → Prop} {g : Env} {S : St} {a : Act} {w w0 : World} {D A : Nat → Prop} {ro : Option Nat} {id : Nat} {ops : Array Oper} (hm : P.follows .mixedOrders = true)
    (hc : CallOk P (fun R A S f xs K => callF A P Γ k S f xs K)) (hi : CallOk P (fun R A S f xs K => H f (typeArgs P f xs) R A S K)) (hd : okOps n ops.toList = true)
    {st : List Nat} {ex : List (Nat × List Nat)} {tab : List (Nat × Nat)} {p : Plan} (h : drawE P Γ inl H k (optA α) ops S st ex tab p K = some out) (F : Fit g γ S n a) (C : Cx g S w0 D A w)
    (hK : ∀ g' S' a' w', K S' = some out → Fit g' γ S' n a' → Cx g' S' w0 D A w' → Kp g S (bitP (defsOps ops.toList)) g' S' → Q .normal a' w') : (Code.region id ops true).wpIn (FR ro) 3 P Q a w := by
  unfold drawE at h
  simp only at h
  split at h
  · rename_i hn
    obtain ⟨⟨hn, hst0⟩, htab⟩ := hn
    rw [show (fun l => readyT (lmask ops.size l) tab 0) = fun l => Region.ready .any ops (mask ops.size l) from funext fun l => readyT_eq htab l, show (fun l j => canT tab (lmask ops.size l) j) = canB ops from funext fun l => funext fun j => canT_eq htab l j] at h
    generalize hq : (if lastB ops (ops.size - 1) = true then ops.size - 1 else ops.size) = q at h
    have hst : ∀ i ∈ st, i < S.obs.length := fun i hi => by simpa using List.all_eq_true.1 hst0 i (List.mem_append_left _ hi)
    have hex : ∀ i, ∀ o ∈ exl ex i, o < S.obs.length := fun i o ho => by
      obtain ⟨p, hp, _, ho⟩ := mem_exl.1 ho
      simpa using List.all_eq_true.1 hst0 o (List.mem_append_right _ (List.mem_flatMap.2 ⟨p, hp, ho⟩))
    have hl : lastB ops q = true := by
      rw [← hq]
      split
      · assumption
      · simp [lastB]
    refine c_drawsR (q := q) (N := ops.size) rfl hm (fun i w' => ∃ w0 D A, Cx g (restrict (fresh S) (st ++ exl ex i)) w0 D A w') rfl (by simp [Code.ops, hl, hn]) (okOps_def hd) (fun w' hw' => ?_)
    intro _ _ hcl
    have C1 : Cx g (fresh S) w0 D A w' := cf_still C hw'
    exact execDr_spec (Q := tameQ Q) (g0 := g) (S0 := fresh S) (a0 := a) (w0 := w0) (D := D) (A := A) hc hi (okOps_spec hd) hl hn hst hex (fit_fresh F)
      (fun g' S' a' w' h1 h2 h3 h4 => hK g' { S' with mods := S'.mods ++ S.mods } a' w' h1 ⟨h2.size, h2.lo, h2.defers, h2.sl, h2.ob, h2.ok, h2.rs, h2.rb⟩ h3 (kp_mods h4).bits)
      _ _ [] [] st h hcl (fit_to (fit_fresh F) _) C1 (kp_to (Kp.refl ..) _) (fun i hi => ⟨hi, rfl, rfl⟩) (fun _ _ _ _ => ⟨rfl, rfl⟩) hst (fun _ _ _ h => h)
  · simp [optA] at h
theorem exec_sound (hm : P.follows .mixedOrders = true) (hc : CallOk P (fun R A S f xs K => callF A P Γ k S f xs K)) (hi : CallOk P (fun R A S f xs K => H f (typeArgs P f xs) R A S K)) (hbk : ∀ B ∈ bk, BkOk P B) :
    ∀ (c : Code) (ro : Option Nat) (ex : List (Nat × Nat)) (rl outl : Nat), okC n c = true → (ro = none ∨ noRange c = true) →
      RunOk n (defsC c) (fun R A S K => exec P Γ inl H bk k A c ex rl outl S K) (fun Q a w => c.wpIn (FR ro) 3 P Q a w) := by
  intro c
  induction c with
  | skip =>
    intro ro ex rl outl hok hro α K out Q g γ S a w w0 D A h F C M hK
    simp only [exec] at h
    exact c_skip rfl (hK g γ S .normal a w h F C M (SameG.refl _) (Kp.refl ..))
  | label l =>
    intro ro ex rl outl hok hro α K out Q g γ S a w w0 D A h F C M hK
    simp only [exec] at h
    exact c_label rfl (hK g γ S .normal a w h F C M (SameG.refl _) (Kp.refl ..))
  | ret =>
    intro ro ex rl outl hok hro α K out Q g γ S a w w0 D A h F C M hK
    simp only [exec] at h
    exact c_ret rfl (hK g γ S .ret a w h F C M (SameG.refl _) (Kp.refl ..))
  | exit i =>
    intro ro ex rl outl hok hro α K out Q g γ S a w w0 D A h F C M hK
    simp only [exec] at h
    exact c_exit rfl (hK g γ S (.exit i) a w h F C M (SameG.refl _) (Kp.refl ..))
  | goto l =>
    intro ro ex rl outl hok hro α K out Q g γ S a w w0 D A h F C M hK
    simp [exec, optA] at h
  | refuse l =>
    intro ro ex rl outl hok hro α K out Q g γ S a w w0 D A h F C M hK
    simp [exec, optA] at h
  | rangeFunc f ps x y ihx ihy =>
    intro ro ex rl outl hok hro α K out Q g γ S a w w0 D A h F C M hK
    obtain rfl : ro = none := hro.resolve_right (by simp [noRange])
    simp only [okC, Bool.and_eq_true] at hok
    obtain ⟨⟨⟨⟨hps, hx⟩, hy⟩, nx⟩, ny⟩ := hok
    simp only [exec] at h
    split at h
    · rename_i gf b hop
      split at h
      · rename_i B hB
        split at h
        · rename_i T o hb
          split at h
          · rename_i e u xs m fu ho
            split at h
            · rename_i hc2
              split at h
              case h_2 => simp [optA] at h
              rename_i hd oc hs ns os hpl
              have hfb : ∀ {l : List Bk}, findBk gf l = some B → B ∈ l ∧ B.gf = gf := by
                intro l
                induction l with
                | nil => intro h; cases h
                | cons B' l ih =>
                  intro h
                  simp only [findBk] at h
                  split at h
                  · rename_i he; cases h; exact ⟨List.mem_cons_self .., he⟩
                  · exact ⟨List.mem_cons_of_mem _ (ih h).1, (ih h).2⟩
              obtain ⟨hmem, hgf⟩ := hfb hB
              refine rangeE_spec (hbk B hmem) h F C M ?_ hb ho hc2.1 hc2.2 (fun p hp => ?_) (fun l => ihx (some l) [] 0 _ hx (.inr nx)) (fun l => ihy (some l) ex rl 0 hy (.inr ny)) (fun g' γ' S' e a' w' h1 h2 h3 h4 h5 h6 => ?_)
              · rw [(opA_spec F hop).1, hgf]; rfl
              · have := Array.all_eq_true'.1 hps p (by simpa using hp)
                simpa using this
              · exact hK g' γ' S' e a' w' h1 h2 h3 h4 h5 (h6.mono (fun t ht => by simp [bitP, bit] at ht))
            · simp [optA] at h
          · simp [optA] at h
        · simp [optA] at h
      · simp [optA] at h
    · simp [optA] at h
    · simp [optA] at h
  | scope b ih =>
    intro ro ex rl outl hok hro α K out Q g γ S a w w0 D A h F C M hK
    simp only [exec] at h
    simp only [okC, noRange] at hok hro
    refine c_scope rfl (ih ro ex rl outl hok hro h F C M (fun g' γ' S' e a' w' h1 h2 h3 h5 h6 h4 => ?_))
    have := hK g' γ' S' e a' w' h1 h2 h3 h5 h6 h4
    cases e <;> exact this
  | block i b ih =>
    intro ro ex rl outl hok hro α K out Q g γ S a w w0 D A h F C M hK
    simp only [exec] at h
    simp only [okC, noRange] at hok hro
    refine c_block (i := i) rfl (ih ro ((i, outl) :: ex) rl outl hok hro h F C M (fun g' γ' S' e a' w' h1 h2 h3 h5 h6 h4 => ?_))
    by_cases he : e = .exit i
    · subst he
      rw [if_pos rfl] at h1
      exact q_inx (hK g' γ' S' .normal a' w' h1 h2 h3 h5 h6 h4)
    · rw [if_neg he] at h1
      have := hK g' γ' S' e a' w' h1 h2 h3 h5 h6 h4
      cases e with
      | normal => exact this
      | exit j => exact q_iny (fun hj => he (by rw [hj])) this
      | ret => exact this
  | cond c x y ihx ihy =>
    intro ro ex rl outl hok hro α K out Q g γ S a w w0 D A h F C M hK
    simp only [okC, noRange, Bool.and_eq_true] at hok hro
    simp only [exec] at h
    have kx : ∀ {g' S'}, Kp g S (bitP (defsC x)) g' S' → Kp g S (bitP (defsC (.cond c x y))) g' S' := fun h => h.mono (fun t ht => bit_or.2 (.inl ht))
    have ky : ∀ {g' S'}, Kp g S (bitP (defsC y)) g' S' → Kp g S (bitP (defsC (.cond c x y))) g' S' := fun h => h.mono (fun t ht => bit_or.2 (.inr ht))
    have gx : ∀ p, exec P Γ inl H bk k (optA α) x ex rl outl (S.to p) K = some out → x.wpIn (FR ro) 3 P Q a w := fun p h =>
      ihx ro ex rl outl hok.1 (hro.imp id (·.1)) h (fit_to F p) C M (fun g' γ' S' e a' w' h1 h2 h3 h5 h6 h4 => hK g' γ' S' e a' w' h1 h2 h3 h5 h6 (kx h4.of_to))
    have gy : ∀ p, exec P Γ inl H bk k (optA α) y ex rl outl (S.to p) K = some out → y.wpIn (FR ro) 3 P Q a w := fun p h =>
      ihy ro ex rl outl hok.2 (hro.imp id (·.2)) h (fit_to F p) C M (fun g' γ' S' e a' w' h1 h2 h3 h5 h6 h4 => hK g' γ' S' e a' w' h1 h2 h3 h5 h6 (ky h4.of_to))
    split at h
    · rename_i b hb
      have hv : a.eval c = .bool b := (opA_spec F hb).1
      refine c_cond (t := b) rfl hv (fun hb => gx S.pl ?_) (fun hb => gy S.pl ?_)
      · subst hb; simp only [if_true] at h; exact h
      · subst hb; simp only [Bool.false_eq_true, if_false] at h; exact h
    · rename_i b hb
      have hv : a.eval c = .bool b := (opA_spec F hb).1
      refine c_cond (t := b) rfl hv (fun hb => gx (S.pl.kid 0) ?_) (fun hb => gy (S.pl.kid 1) ?_)
      · subst hb; exact h
      · subst hb; exact h
    · simp [optA] at h
  | region id ops dr =>
    intro ro ex rl outl hok hro
    simp only [okC] at hok
    refine @run_lift _ _ _ _ ?_
    intro γ α K out Q g S a w w0 D A h F C hK
    simp only [exec] at h
    cases dr with
    | true =>
      simp only [if_true] at h
      split at h
      · exact drawE_spec hm hc hi hok h F C (fun g' S' a' w' h1 h2 h3 h4 => hK g' S' .normal a' w' h1 h2 h3 h4)
      · rename_i st ex2 tab p _
        have Z := freezeL_spec (((ex2.flatMap (·.2)).map .sl)) F
        exact drawE_spec hm hc hi hok h Z.fit (Z.cx _ _ _ _ C) (fun g' S' a' w' h1 h2 h3 h4 => hK g' S' .normal a' w' h1 h2 h3 (Z.kp.trans h4 (fun _ h => h.elim) (fun _ h => h)))
      · simp [optA] at h
    | false =>
      simp only [Bool.false_eq_true, if_false] at h
      refine c_region rfl ?_
      have := execOps_spec (ro := ro) (ops := ops) (Q := Q) (g0 := g) (S0 := S) hc hi (okOps_spec hok) (fun g' S' a' w' h1 h2 h3 h4 => hK g' S' .normal a' w' h1 h2 h3 h4.bits) ops.toList (fun o ho => ho) h F C (Kp.refl ..)
      simpa [wl, Code.ops] using this
  | loop b ih =>
    intro ro ex rl outl hok hro α K out Q g γ S a w w0 D A h F C M hK
    simp only [okC, noRange] at hok hro
    simp only [exec] at h
    split at h
    · exact loopE_spec (ih ro ex rl _ hok hro) h F C M hK
    · simp [optA] at h
  | seq x y ihx ihy =>
    intro ro ex rl outl hok hro α K out Q g γ S a w w0 D A h F C M hK
    simp only [okC, noRange, Bool.and_eq_true] at hok hro
    simp only [exec] at h
    have tail : ∀ g' γ' S' e a' w', (if e = Ek.normal then exec P Γ inl H bk k (optA α) y ex rl outl S' K else K e S') = some out → Fit g' γ' S' n a' → Cx g' S' w0 D A w' → Mk γ' w' → SameG γ' γ → Kp g S (bitP (defsC x)) g' S' →
        Exit.then (fun a w => y.wpIn (FR ro) 3 P Q a w) Q (toX e) a' w' := by
      intro g' γ' S' e a' w' h1 h2 h3 h5 h6 h4
      by_cases he : e = .normal
      · subst he
        rw [if_pos rfl] at h1
        exact ihy ro ex rl outl hok.2 (hro.imp id (·.2)) h1 h2 h3 h5 (fun g2 γ2 S2 e2 a2 w2 k1 k2 k3 k5 k6 k4 => hK g2 γ2 S2 e2 a2 w2 k1 k2 k3 k5 (k6.trans h6) (h4.trans k4 (fun t ht => bit_or.2 (.inl ht)) (fun t ht => bit_or.2 (.inr ht))))
      · rw [if_neg he] at h1
        have := hK g' γ' S' e a' w' h1 h2 h3 h5 h6 (h4.mono (fun t ht => bit_or.2 (.inl ht)))
        cases e with
        | normal => exact absurd rfl he
        | exit i => exact this
        | ret => exact this
    refine c_seq rfl ?_
    split at h
    · exact ihx ro ex rl _ hok.1 (hro.imp id (·.1)) h F C M tail
    split at h
    · exact ihx ro ex rl _ hok.1 (hro.imp id (·.1)) h (fit_to F _) C M (fun g' γ' S' e a' w' h1 h2 h3 h4 h5 h6 => tail g' γ' S' e a' w' h1 h2 h3 h4 h5 ⟨h6.len, h6.vb, h6.same, h6.mods, h6.slots, h6.rows⟩)
    case h_3 => simp [optA] at h
    · exact joinE_spec (W := fun Q a w => x.wpIn (FR ro) 3 P Q a w) (ihx ro ex rl _ hok.1 (hro.imp id (·.1))) h F C M tail
end
end Go.Proofs.YthdgllldpfeelaaGreatDoor
/- Calls: what is given. No condition. -/
set_option linter.unusedVariables false
set_option linter.unusedSimpArgs false
namespace Go.Proofs.YthdgllldpfeelaaGreatDoor
open Go
/-! ### parts moved to other numbers -/
theorem mvA_enc {g g' : Env} {f : Nat → Nat} (a : At) (h : ∀ o ∈ refA a, (g' (f o)).v = (g o).v ∧ (g' (f o)).b = (g o).b) : encA g' (mvA f a) = encA g a ∧ val1 g' (mvA f a) = val1 g a ∧ stor (mvA f a) = stor a ∧ refA (mvA f a) = (refA a).map f := by
  cases a with
  | fl t x => cases t <;> exact ⟨rfl, rfl, rfl, rfl⟩
  | sl o => simp only [refA, List.mem_singleton, forall_eq] at h; exact ⟨by simp only [mvA, encA, h.1], by simp only [mvA, val1, h.1], rfl, rfl⟩
  | ptr b off => simp only [refA, List.mem_singleton, forall_eq] at h; exact ⟨by simp only [mvA, encA, h.2], by simp only [mvA, val1, h.2], rfl, rfl⟩
  | asl b off n => simp only [refA, List.mem_singleton, forall_eq] at h; exact ⟨by simp only [mvA, encA, h.2], by simp only [mvA, val1, h.2], rfl, rfl⟩
  | _ => exact ⟨rfl, rfl, rfl, rfl⟩
theorem mvL_enc {g g' : Env} {f : Nat → Nat} : ∀ (ls : List At), (∀ o ∈ ls.flatMap refA, (g' (f o)).v = (g o).v ∧ (g' (f o)).b = (g o).b) →
    encL g' (ls.map (mvA f)) = encL g ls ∧ (ls.map (mvA f)).map (val1 g') = ls.map (val1 g) ∧ (ls.all stor = true → (ls.map (mvA f)).all stor = true) ∧ (ls.map (mvA f)).flatMap refA = (ls.flatMap refA).map f
  | [], _ => ⟨rfl, rfl, id, rfl⟩
  | a :: ls, h => by
    simp only [List.flatMap_cons, List.mem_append] at h
    obtain ⟨a1, a2, a3, a4⟩ := mvA_enc (g := g) (g' := g') (f := f) a (fun o ho => h o (.inl ho))
    obtain ⟨l1, l2, l3, l4⟩ := mvL_enc (g := g) (g' := g') (f := f) ls (fun o ho => h o (.inr ho))
    refine ⟨?_, by simp only [List.map_cons, a2, l2], fun hs => ?_, by simp only [List.map_cons, List.flatMap_cons, a4, l4, List.map_append]⟩
    · simp only [encL] at l1 ⊢
      simp only [List.map_cons, List.flatMap_cons, a1, l1]
    · simp only [List.map_cons, List.all_cons, Bool.and_eq_true] at hs ⊢
      exact ⟨a3.trans hs.1, l3 hs.2⟩
theorem mvV_enc {g g' : Env} {f : Nat → Nat} (x : V1) (hn : nrmV x = true) (h : ∀ o ∈ refV x, (g' (f o)).v = (g o).v ∧ (g' (f o)).b = (g o).b) : encV g' (mvV f x) = encV g x ∧ refV (mvV f x) = (refV x).map f ∧ ∀ S, okV S (mvV f x) := by
  cases x with
  | a x => obtain ⟨a1, a2, a3, a4⟩ := mvA_enc (g := g) (g' := g') (f := f) x h; exact ⟨a2, a4, fun _ => trivial⟩
  | fn q fs cs =>
    simp only [refV, List.mem_append] at h
    obtain ⟨_, a2, _, a4⟩ := mvL_enc (g := g) (g' := g') (f := f) fs (fun o ho => h o (.inl ho))
    obtain ⟨_, l2, _, l4⟩ := mvL_enc (g := g) (g' := g') (f := f) cs (fun o ho => h o (.inr ho))
    exact ⟨by simp only [mvV, encV, a2, l2], by simp only [mvV, refV, a4, l4, List.map_append], fun _ => trivial⟩
  | st ls => obtain ⟨a1, a2, a3, a4⟩ := mvL_enc (g := g) (g' := g') (f := f) ls h; exact ⟨by simp only [mvV, encV, a1], a4, fun _ => trivial⟩
  | elp o sz i off => cases hn
  | arp b off t n i => cases hn
theorem mvS_enc {g g' : Env} {f : Nat → Nat} (x : SV) (hn : nrmS x = true) (h : ∀ o ∈ refS x, (g' (f o)).v = (g o).v ∧ (g' (f o)).b = (g o).b) : encS g' (mvS f x) = encS g x ∧ refS (mvS f x) = (refS x).map f ∧ ∀ S, okS S (mvS f x) := by
  cases x with
  | v x => exact mvV_enc x hn h
  | tup xs =>
    have hx : ∀ x ∈ xs, encV g' (mvV f x) = encV g x ∧ refV (mvV f x) = (refV x).map f ∧ ∀ S, okV S (mvV f x) := fun x hx => mvV_enc x (List.all_eq_true.1 hn x hx) (fun o ho => h o (List.mem_flatMap.2 ⟨x, hx, ho⟩))
    refine ⟨?_, ?_, fun S y hy => ?_⟩
    · simp only [mvS, encS, List.map_map]
      congr 2
      exact List.map_congr_left (fun x hm => (hx x hm).1)
    · simp only [mvS, refS, List.flatMap_map]
      have : ∀ (l : List V1), (∀ x ∈ l, refV (mvV f x) = (refV x).map f) → l.flatMap (fun x => refV (mvV f x)) = (l.flatMap refV).map f := by
        intro l
        induction l with
        | nil => intro _; rfl
        | cons a l ih => intro hl; simp only [List.flatMap_cons, List.map_append, hl a (List.mem_cons_self ..), ih (fun x hx => hl x (List.mem_cons_of_mem _ hx))]
      exact this xs (fun x hm => (hx x hm).2.1)
    · obtain ⟨x, hm, rfl⟩ := List.mem_map.1 hy
      exact (hx x hm).2.2 S
/-! ### a contract -/
/-- What is told of some objects and slots. -/
structure Cal (g : Env) (S : St) : Prop where
  ob : ∀ i, obP g i (S.ob i)
  ok : ∀ p ∈ S.slots, nrmS p.2 = true
  rs : ∀ p ∈ S.slots, ∀ o ∈ refS p.2, o < S.obs.length
  rb : ∀ i T ls, S.ob i = .box T ls → ∀ o ∈ ls.flatMap refA, o < S.obs.length
/-- The callee's state behind a call: N' against S. -/
def afterS (S : St) (N : Nst) : St := ⟨N.slots, N.boxes.foldl (fun l p => l.set p.1 p.2) S.obs ++ N.news, [], .nil⟩
/-- A contract holds. -/
def ConOk (P : Program) (c : Con) : Prop :=
  ∀ (k : Nat) (x : HL c.pat.codes) (y : DenL (c.out.map NSh.codes)) (S : St) (m : Nat) (gs : List Nat), c.f k x = some y → patSt c.pat x = some S → S.slots.map (·.1) = List.range m ++ gs.map (rG + ·) → (∀ b ∈ gs, b < shift) →
    ∀ (g : Env) (w : World) (D A : Nat → Prop), Cal g S → Cx g S w D A w → (∀ p ∈ S.slots.drop m, encS g p.2 = .pointer (some ⟨p.1 - rG, 0, none⟩)) →
      Fn P c.fn ((S.slots.take m).map fun p => encS g p.2) w (fun v w' => ∃ (i : Nat) (ds : List Dyn) (s : NSh) (N : Nst) (r : SV) (g' : Env), (∀ (R : Type) (f : Nat → List Dyn → R), elimL (c.out.map NSh.codes) y f = f i ds) ∧ c.out[i]? = some s ∧ fiN s ds = some N ∧
        results N.slots = some r ∧ v = encS g' r ∧ nrmS r = true ∧ (∀ o ∈ refS r, o < (afterS S N).obs.length) ∧ Cal g' (afterS S N) ∧ Cx g' (afterS S N) w D A w' ∧ Kp g { S with slots := [], mods := [] } (fun _ => True) g' { afterS S N with mods := N.boxes.map (·.1) })
end Go.Proofs.YthdgllldpfeelaaGreatDoor
/- Calls: what is given stands with the callee. No condition. -/
set_option linter.unusedVariables false
set_option linter.unusedSimpArgs false
namespace Go.Proofs.YthdgllldpfeelaaGreatDoor
open Go
def nilOb : Src → Ob
  | .nil e t => .row e t [] .own false
  | .ob _ => .gone
theorem nilObs_get : ∀ (pl : List Src) (j : Nat), (nilObs pl)[j]? = (pl[j]?).map nilOb
  | [], j => by simp [nilObs]
  | .nil e t :: pl, 0 => rfl
  | .ob o :: pl, 0 => rfl
  | .nil e t :: pl, j + 1 => by simpa [nilObs] using nilObs_get pl j
  | .ob o :: pl, j + 1 => by simpa [nilObs] using nilObs_get pl j
theorem nilObs_len : ∀ (pl : List Src), (nilObs pl).length = pl.length
  | [] => rfl
  | .nil e t :: pl => by simp [nilObs, nilObs_len pl]
  | .ob o :: pl => by simp [nilObs, nilObs_len pl]
def srcOf (n : Nat) : Src → Nat
  | .nil _ _ => n
  | .ob o => o
theorem noNil_get : ∀ (n : Nat) (pl : List Src) (j : Nat), (noNil n pl)[j]? = (pl[j]?).map (srcOf (n + j))
  | n, [], j => by simp [noNil]
  | n, .nil e t :: pl, 0 => rfl
  | n, .ob o :: pl, 0 => rfl
  | n, .nil e t :: pl, j + 1 => by
    have := noNil_get (n + 1) pl j
    simp only [noNil, List.getElem?_cons_succ, this, show n + 1 + j = n + (j + 1) by omega]
  | n, .ob o :: pl, j + 1 => by
    have := noNil_get (n + 1) pl j
    simp only [noNil, List.getElem?_cons_succ, this, show n + 1 + j = n + (j + 1) by omega]
theorem noNil_len : ∀ (n : Nat) (pl : List Src), (noNil n pl).length = pl.length
  | n, [] => rfl
  | n, .nil e t :: pl => by simp [noNil, noNil_len (n + 1) pl]
  | n, .ob o :: pl => by simp [noNil, noNil_len (n + 1) pl]
theorem plB_spec {n : Nat} : ∀ {pl : List Src} {j o : Nat}, plB n pl = true → pl[j]? = some (.ob o) → o < n
  | [], j, o, h, hj => by simp at hj
  | .ob p :: pl, 0, o, h, hj => by
    simp only [plB, Bool.and_eq_true, decide_eq_true_eq] at h
    simp only [List.getElem?_cons_zero, Option.some.injEq, Src.ob.injEq] at hj
    subst hj; exact h.1
  | .ob p :: pl, j + 1, o, h, hj => by
    simp only [plB, Bool.and_eq_true] at h
    exact plB_spec h.2 (j := j) (by simpa using hj)
  | .nil e t :: pl, 0, o, h, hj => by simp at hj
  | .nil e t :: pl, j + 1, o, h, hj => plB_spec (pl := pl) (j := j) h (by simpa using hj)
theorem look_numbered (xs : List SV) : ∀ (b i : Nat), lookS (numbered b xs) (b + i) = xs[i]? := by
  induction xs with
  | nil => intro b i; simp [numbered, lookS]
  | cons x xs ih =>
    intro b i
    cases i with
    | zero => simp [numbered, lookS]
    | succ i =>
      simp only [numbered, lookS]
      rw [if_neg (by simp)]
      have := ih (b + 1) i
      rw [show b + 1 + i = b + (i + 1) by omega] at this
      simpa using this
/-- What is given, out of what. -/
structure Given (g1 gp : Env) (S1 : St) (pl1 : List Nat) (os : List Ob) : Prop where
  len : os.length = pl1.length
  src : ∀ (j : Nat) o, pl1[j]? = some o → o < S1.obs.length ∧ gp j = g1 o
  made : ∀ (j : Nat) ob, os[j]? = some ob → ob ≠ .gone ∧ ∃ o, pl1[j]? = some o ∧ Made g1 gp (S1.ob o) ob pl1.length
  once : ∀ (j j' : Nat) o, j ≠ j' → pl1[j]? = some o → pl1[j']? = some o → shared (S1.ob o)
section
variable {P : Program} {g g' g1 gp : Env} {γ : Ghost} {S S1 Sd : St} {n : Nat} {a : Act} {w0 w w' : World} {D A : Nat → Prop}
theorem give_spec (F : Fit g γ S n a) (C : Cx g S w0 D A w) {Ls : List (Nat × SV)} {ks : List Nat} {N : Nst} {pl : List Src} (hN : norm 0 [] [] ks { S with slots := Ls } = some (N, pl))
    (hp : plB S.obs.length pl = true) :
    ∃ g1 gp : Env, Fit g1 γ (S.add (nilObs pl)) n a ∧ Cx g1 (S.add (nilObs pl)) w0 D A w ∧ Kp g S noD g1 (S.add (nilObs pl)) ∧ Given g1 gp (S.add (nilObs pl)) (noNil S.obs.length pl) N.news ∧
      N.boxes = [] ∧ (∀ p ∈ N.slots, ∃ sv, lookS Ls p.1 = some sv ∧ encS gp p.2 = encS g sv) ∧ ∀ p ∈ N.slots, nrmS p.2 = true ∧ ∀ o ∈ refS p.2, o < pl.length := by
  unfold norm at hN
  split at hN
  · rename_i bx pl1 hbx
    obtain ⟨⟨os, plq⟩, hos, he⟩ := Option.map_eq_some_iff.1 hN
    simp only [Prod.mk.injEq] at he
    obtain ⟨rfl, rfl⟩ := he
    obtain ⟨Sx, hSx⟩ : ∃ Sx : St, Sx = { S with slots := Ls } := ⟨_, rfl⟩
    rw [← hSx] at hbx hos
    have hob : ∀ i, Sx.ob i = S.ob i := fun i => by rw [hSx]; rfl
    have P0 : PlOk Sx 0 [] [] := fun j o h => by simp at h
    have R1 := renSlots_spec (S := Sx) (nb := 0) (sy := []) ks P0
    obtain ⟨e2, R2⟩ := renBoxes_spec R1.ok hbx
    obtain ⟨e3, R3⟩ := renNews_spec R2.ok (Nat.zero_le _) hos
    rw [Nat.zero_add] at e3
    obtain ⟨gp, hgp⟩ : ∃ gp, gp = newG g 0 plq := ⟨_, rfl⟩
    have G3 := newG_good g 0 plq
    rw [← hgp] at G3
    have G2 := G3.pre R3.pre
    have G1 := G2.pre R2.pre
    obtain ⟨g1, hg1⟩ : ∃ g1 : Env, g1 = fun i => if i < S.obs.length then g i else nilG := ⟨_, rfl⟩
    have hlo : ∀ i, i < S.obs.length → g1 i = g i := fun i hi => by simp [hg1, hi]
    have hhi : ∀ i, S.obs.length ≤ i → g1 i = nilG := fun i hi => by simp [hg1, Nat.not_lt.2 hi]
    have hext : Ext g g1 S.obs.length := hlo
    have obHi : ∀ j, (S.add (nilObs plq)).ob (S.obs.length + j) = ((plq[j]?).map nilOb).getD .gone := fun j => by
      rw [ob_add_ge (by omega), show S.obs.length + j - S.obs.length = j by omega, List.getD_eq_getElem?_getD, nilObs_get]
    have F1 : Fit g1 γ (S.add (nilObs plq)) n a := by
      refine fit_add F hext (fun j ob hj => ?_) (fun j T ls hj => ?_)
      · rw [nilObs_get] at hj
        obtain ⟨s, hs, rfl⟩ := Option.map_eq_some_iff.1 hj
        cases s with
        | nil e t =>
          have := hhi (S.obs.length + j) (by omega)
          exact ⟨by rw [this]; exact ⟨rfl, rfl⟩, by rw [this]; exact ⟨none, 0, rfl, fun _ => rfl⟩, fun h => by cases h⟩
        | ob o => trivial
      · rw [nilObs_get] at hj
        obtain ⟨s, hs, h⟩ := Option.map_eq_some_iff.1 hj
        cases s <;> cases h
    have R : Ren g S g1 (S.add (nilObs plq)) S.obs.length id (fun i => i < S.obs.length) := by
      refine ⟨fun i => ?_, fun i hi => ⟨hlo i hi, ?_⟩, fun i k hik _ _ h => absurd h hik⟩
      · rcases Nat.lt_or_ge i S.obs.length with h | h
        · exact .inr (.inr h)
        · have := obHi (i - S.obs.length)
          rw [show S.obs.length + (i - S.obs.length) = i by omega] at this
          rw [this]
          cases hk : plq[i - S.obs.length]? with
          | none => exact .inl rfl
          | some s => cases s with
            | ob o => exact .inl rfl
            | nil e t => exact .inr (.inl ⟨e, t, .own, rfl, hhi i h⟩)
      · rw [ob_add_lt hi]
        show Made g g1 (S.ob i) (S.ob i) _
        cases ho : S.ob i with
        | gone => trivial
        | box T ls => exact ⟨ls, rfl, encL_ext ls (fun o hoo => hlo o (F.rb i T ls ho o hoo)), id, F.rb i T ls ho⟩
        | row e t xs m fu => exact ⟨m, fu, rfl, leM_refl m, id⟩
    have hnn : ∀ {j o : Nat}, (noNil S.obs.length plq)[j]? = some o → (plq[j]? = some (.ob o) ∧ o < S.obs.length) ∨ ((∃ e t, plq[j]? = some (.nil e t)) ∧ o = S.obs.length + j) := fun {j o} h => by
      rw [noNil_get] at h
      obtain ⟨s, hs, rfl⟩ := Option.map_eq_some_iff.1 h
      cases s with
      | ob o => exact .inl ⟨hs, plB_spec hp hs⟩
      | nil e t => exact .inr ⟨⟨e, t, hs⟩, rfl⟩
    refine ⟨g1, gp, F1, cx_ren R C, Kp.add _ hext, ⟨by rw [e3, noNil_len], fun j o ho => ?_, fun j ob hj => ?_, fun j j' o hne ho ho' => ?_⟩, ?_, ?_, ?_⟩
    · rcases hnn ho with ⟨h1, h2⟩ | ⟨⟨e, t, h1⟩, rfl⟩
      · refine ⟨by simp only [St.add, List.length_append]; omega, ?_⟩
        have := (G3.2 j).1 o h1
        rw [Nat.zero_add] at this
        rw [this, hlo o h2]
      · have hlt := (List.getElem?_eq_some_iff.1 h1).1
        refine ⟨by simp only [St.add, List.length_append, nilObs_len]; omega, ?_⟩
        have := (G3.2 j).2 e t h1
        rw [Nat.zero_add] at this
        rw [this, hhi _ (by omega)]
    · obtain ⟨_, q⟩ := R3.enc g gp G3 j ob hj
      rw [Nat.zero_add, Nat.zero_add] at q
      rcases q with ⟨o, h1, h2, h3⟩ | ⟨e, t, h1, rfl⟩
      · refine ⟨h2, o, by rw [noNil_get, h1]; rfl, ?_⟩
        have hol := plB_spec hp h1
        rw [ob_add_lt hol, noNil_len]
        rw [hob] at h3
        cases ob with
        | gone => trivial
        | box T ls =>
          obtain ⟨ls0, q1, q2, q3, q4⟩ := h3
          exact ⟨ls0, q1, by rw [q2, encL_ext ls0 (fun x hx => hlo x (F.rb o T ls0 q1 x hx))], q3, q4⟩
        | row e t xs m fu => exact h3
      · refine ⟨by simp, S.obs.length + j, by rw [noNil_get, h1]; rfl, ?_⟩
        rw [obHi, h1]
        exact ⟨.own, false, rfl, rfl, id⟩
    · rcases hnn ho with ⟨h1, h2⟩ | ⟨_, rfl⟩
      · rcases hnn ho' with ⟨h1', _⟩ | ⟨_, rfl⟩
        · rw [ob_add_lt h2, ← hob]
          exact (R3.ok j o h1).2.2 j' (fun h => hne h.symm) h1'
        · omega
      · rcases hnn ho' with ⟨_, h⟩ | ⟨_, h⟩
        · omega
        · omega
    · have : bx.map (·.1) = [] := e2
      simpa using this
    · intro p hp'
      have hp'' : p ∈ (renSlots Sx 0 [] ks []).1 := by rw [hSx]; exact hp'
      obtain ⟨_, _, sv, h1, h2⟩ := R1.enc g gp G1 p hp''
      rw [hSx] at h1
      exact ⟨sv, h1, h2⟩
    · intro p hp'
      have hp'' : p ∈ (renSlots Sx 0 [] ks []).1 := by rw [hSx]; exact hp'
      refine ⟨(R1.enc g gp G1 p hp'').2.1, fun o ho => ?_⟩
      have h1 := R1.refs o (List.mem_flatMap.2 ⟨p, hp'', ho⟩)
      have h2 := (R2.pre.trans R3.pre).length_le
      omega
  · cases hN
/-- What is to be read by the callee is read from now on. -/
theorem demote_spec : ∀ (pl : List Nat) (os : List OSh) {S : St}, Fit g γ S n a →
    Fit g γ (demote S pl os) n a ∧ (∀ w0 D A w, Cx g S w0 D A w → Cx g (demote S pl os) w0 D A w) ∧ Kp g S noD g (demote S pl os) ∧ (demote S pl os).slots = S.slots ∧ (demote S pl os).obs.length = S.obs.length ∧
      (∀ o, (demote S pl os).ob o = S.ob o ∨ ∃ e t xs fu, S.ob o = .row e t xs .own fu ∧ (demote S pl os).ob o = .row e t xs .rd fu ∧ ∃ (j : Nat) (e' : Nat) (t' : Ty), pl[j]? = some o ∧ os[j]? = some (.row e' t' .rd)) ∧
      (∀ (j o : Nat) e' t', pl[j]? = some o → os[j]? = some (.row e' t' .rd) → ∀ e t xs fu, (demote S pl os).ob o ≠ .row e t xs .own fu)
  | [], os, S, F => by
    have : demote S [] os = S := by cases os <;> rfl
    rw [this]
    exact ⟨F, fun _ _ _ _ h => h, Kp.refl .., rfl, rfl, fun _ => .inl rfl, fun j o e' t' h => by simp at h⟩
  | o :: pl, [], S, F => ⟨F, fun _ _ _ _ h => h, Kp.refl .., rfl, rfl, fun _ => .inl rfl, fun j o e' t' _ h => by simp at h⟩
  | o :: pl, s :: os, S, F => by
    have skip : demote S (o :: pl) (s :: os) = demote S pl os → (∀ e t, s = .row e t .rd → ∀ e t xs fu, S.ob o ≠ .row e t xs .own fu) →
        Fit g γ (demote S (o :: pl) (s :: os)) n a ∧ (∀ w0 D A w, Cx g S w0 D A w → Cx g (demote S (o :: pl) (s :: os)) w0 D A w) ∧ Kp g S noD g (demote S (o :: pl) (s :: os)) ∧ (demote S (o :: pl) (s :: os)).slots = S.slots ∧ (demote S (o :: pl) (s :: os)).obs.length = S.obs.length ∧
        (∀ p, (demote S (o :: pl) (s :: os)).ob p = S.ob p ∨ ∃ e t xs fu, S.ob p = .row e t xs .own fu ∧ (demote S (o :: pl) (s :: os)).ob p = .row e t xs .rd fu ∧ ∃ (j : Nat) (e' : Nat) (t' : Ty), (o :: pl)[j]? = some p ∧ (s :: os)[j]? = some (.row e' t' .rd)) ∧
        (∀ (j p : Nat) e' t', (o :: pl)[j]? = some p → (s :: os)[j]? = some (.row e' t' .rd) → ∀ e t xs fu, (demote S (o :: pl) (s :: os)).ob p ≠ .row e t xs .own fu) := by
      intro e hno
      rw [e]
      obtain ⟨h1, h2, h3, h4, h5, h6, h7⟩ := demote_spec pl os F
      refine ⟨h1, h2, h3, h4, h5, fun p => ?_, fun j p e' t' hj hs => ?_⟩
      · rcases h6 p with h | ⟨e, t, xs, fu, q1, q2, j, e', t', q3, q4⟩
        · exact .inl h
        · exact .inr ⟨e, t, xs, fu, q1, q2, j + 1, e', t', by simpa using q3, by simpa using q4⟩
      · cases j with
        | zero =>
          simp only [List.getElem?_cons_zero, Option.some.injEq] at hj hs
          subst hj
          intro e t xs fu he
          rcases h6 o with h | ⟨e2, t2, xs2, fu2, q1, q2, _⟩
          · rw [h] at he; exact hno e' t' hs e t xs fu he
          · rw [q2] at he; cases he
        | succ j => exact h7 j p e' t' (by simpa using hj) (by simpa using hs)
    cases s with
    | row e0 t0 m0 =>
      cases m0 with
      | rd =>
        cases ho : S.ob o with
        | row e t xs m fu =>
          cases m with
          | own =>
            have e1 : demote S (o :: pl) (.row e0 t0 .rd :: os) = demote (S.setOb o (.row e t xs .rd fu)) pl os := by simp only [demote, ho]
            rw [e1]
            have holt := ob_lt (S := S) (i := o) (by rw [ho]; simp)
            obtain ⟨f1, f2, f3, _⟩ := freeze1 F ho holt
            obtain ⟨h1, h2, h3, h4, h5, h6, h7⟩ := demote_spec pl os f1
            have obo : ∀ p, (S.setOb o (.row e t xs .rd fu)).ob p = if o = p then .row e t xs .rd fu else S.ob p := fun p => by
              rw [ob_setOb]
              by_cases h : o = p
              · rw [if_pos ⟨h, holt⟩, if_pos h]
              · rw [if_neg (fun x => h x.1), if_neg h]
            refine ⟨h1, fun w0 D A w C => h2 _ _ _ _ (f2 _ _ _ _ C), f3.trans h3 (fun _ => id) (fun _ => id), h4, by rw [h5]; simp [St.setOb], fun p => ?_, fun j p e' t' hj hs => ?_⟩
            · rcases h6 p with h | ⟨e2, t2, xs2, fu2, q1, q2, j, e', t', q3, q4⟩
              · rw [obo] at h
                split at h
                · rename_i hp; subst hp; exact .inr ⟨e, t, xs, fu, ho, h, 0, e0, t0, rfl, rfl⟩
                · exact .inl h
              · rw [obo] at q1
                split at q1
                · cases q1
                · exact .inr ⟨e2, t2, xs2, fu2, q1, q2, j + 1, e', t', by simpa using q3, by simpa using q4⟩
            · cases j with
              | zero =>
                simp only [List.getElem?_cons_zero, Option.some.injEq] at hj hs
                subst hj
                intro e3 t3 xs3 fu3 he
                rcases h6 o with h | ⟨e2, t2, xs2, fu2, q1, q2, _⟩
                · rw [obo, if_pos rfl] at h; rw [h] at he; cases he
                · rw [q2] at he; cases he
              | succ j => exact h7 j p e' t' (by simpa using hj) (by simpa using hs)
          | rd => exact skip (by simp only [demote, ho]) (fun _ _ _ e t xs fu h => by rw [ho] at h; cases h)
          | lent => exact skip (by simp only [demote, ho]) (fun _ _ _ e t xs fu h => by rw [ho] at h; cases h)
        | box T ls => exact skip (by simp only [demote, ho]) (fun _ _ _ e t xs fu h => by rw [ho] at h; cases h)
        | gone => exact skip (by simp only [demote, ho]) (fun _ _ _ e t xs fu h => by rw [ho] at h; cases h)
      | own => exact skip rfl (fun _ _ h => by cases h)
      | lent => exact skip rfl (fun _ _ h => by cases h)
    | box T ls => exact skip rfl (fun _ _ h => by cases h)
    | gone => exact skip rfl (fun _ _ h => by cases h)
end
end Go.Proofs.YthdgllldpfeelaaGreatDoor
/- Calls: what is lent. No condition. -/
set_option linter.unusedVariables false
set_option linter.unusedSimpArgs false
namespace Go.Proofs.YthdgllldpfeelaaGreatDoor
open Go
/-- How an object passes. -/
def Pass (g1 gp : Env) (o0 ob : Ob) : Prop :=
  match ob with
  | .gone => False
  | .box T ls => ∃ ls0, o0 = .box T ls0 ∧ encL gp ls = encL g1 ls0
  | .row e t xs .own _ => ∃ fu0, o0 = .row e t xs .own fu0
  | .row e t xs .rd _ => ∃ fu0, o0 = .row e t xs .rd fu0
  | .row e t xs .lent _ => ∃ m0 fu0, o0 = .row e t xs m0 fu0
section
variable {P : Program} {g g' g1 gp : Env} {γ : Ghost} {S S1 Sd S0 : St} {n : Nat} {a : Act} {w0 w w' : World} {D A : Nat → Prop} {pl1 : List Nat} {os os0 : List Ob} {ss : List OSh}
theorem pass_spec (G : Given g1 gp S1 pl1 os) (W : All2 Wk os os0) (hss : ∀ (j : Nat) e t xs m fu, os0[j]? = some (.row e t xs m fu) → ss[j]? = some (.row e t m))
    (h6 : ∀ o, Sd.ob o = S1.ob o ∨ ∃ e t xs fu, S1.ob o = .row e t xs .own fu ∧ Sd.ob o = .row e t xs .rd fu ∧ ∃ (j : Nat) (e' : Nat) (t' : Ty), pl1[j]? = some o ∧ ss[j]? = some (.row e' t' .rd))
    (h7 : ∀ (j o : Nat) e' t', pl1[j]? = some o → ss[j]? = some (.row e' t' .rd) → ∀ e t xs fu, Sd.ob o ≠ .row e t xs .own fu) {j : Nat} {ob : Ob} (hj : os0[j]? = some ob) :
    ∃ o, pl1[j]? = some o ∧ o < S1.obs.length ∧ gp j = g1 o ∧ Pass g1 gp (Sd.ob o) ob ∧ Made g1 gp (S1.ob o) ob pl1.length := by
  obtain ⟨ob', h1, hw⟩ := W.get hj
  obtain ⟨hne, o, ho, hM⟩ := G.made j ob' h1
  obtain ⟨q1, q2⟩ := G.src j o ho
  have hM := made_wk hM hw
  refine ⟨o, ho, q1, q2, ?_, hM⟩
  cases ob with
  | gone =>
    cases ob' with
    | gone => exact hne rfl
    | box T ls => cases (show Ob.gone = _ from hw)
    | row e t xs m fu => obtain ⟨_, h, _⟩ := hw; cases h
  | box T ls =>
    obtain ⟨ls0, m1, m2, _⟩ := hM
    rcases h6 o with h | ⟨e, t, xs, fu, h, _⟩
    · exact ⟨ls0, h.trans m1, m2⟩
    · rw [m1] at h; cases h
  | row e t xs m fu =>
    obtain ⟨m0, fu0, m1, m2, _⟩ := hM
    have hs := hss j e t xs m fu hj
    cases m with
    | own =>
      cases m0 <;> simp [leM] at m2
      rcases h6 o with h | ⟨e2, t2, xs2, fu2, h, _, j', e', t', hj', hs'⟩
      · exact ⟨fu0, h.trans m1⟩
      · have hne' : j ≠ j' := fun e => by subst e; rw [hs] at hs'; cases hs'
        obtain ⟨_, _, _, m, _, hsh, hm⟩ := G.once j j' o hne' ho hj'
        rw [m1] at hsh; cases hsh; exact absurd rfl hm
    | rd =>
      rcases h6 o with h | ⟨e2, t2, xs2, fu2, h, h', _⟩
      · cases m0 with
        | own => exact absurd (h.trans m1) (h7 j o e t ho hs _ _ _ _)
        | rd => exact ⟨fu0, h.trans m1⟩
        | lent => simp [leM] at m2
      · rw [m1] at h; cases h; exact ⟨fu0, h'⟩
    | lent =>
      rcases h6 o with h | ⟨e2, t2, xs2, fu2, h, h', _⟩
      · exact ⟨m0, fu0, h.trans m1⟩
      · rw [m1] at h; cases h; exact ⟨.rd, fu0, h'⟩
theorem lend_spec (G : Given g1 gp S1 pl1 os) (W : All2 Wk os os0) (hss : ∀ (j : Nat) e t xs m fu, os0[j]? = some (.row e t xs m fu) → ss[j]? = some (.row e t m))
    (h6 : ∀ o, Sd.ob o = S1.ob o ∨ ∃ e t xs fu, S1.ob o = .row e t xs .own fu ∧ Sd.ob o = .row e t xs .rd fu ∧ ∃ (j : Nat) (e' : Nat) (t' : Ty), pl1[j]? = some o ∧ ss[j]? = some (.row e' t' .rd))
    (h7 : ∀ (j o : Nat) e' t', pl1[j]? = some o → ss[j]? = some (.row e' t' .rd) → ∀ e t xs fu, Sd.ob o ≠ .row e t xs .own fu)
    (hS0 : S0.obs = os0) (C : Cx g1 Sd w0 D A w) :
    Lend w (fun i => entL g1 i (Sd.ob i)) (fun i => entR g1 i (Sd.ob i)) (fun j => entL gp j (S0.ob j)) (fun j => entR gp j (S0.ob j)) (fun j => pl1.getD j j) := by
  have get : ∀ j, (os0[j]? = none ∧ S0.ob j = .gone) ∨ ∃ ob, os0[j]? = some ob ∧ S0.ob j = ob := fun j => by
    cases h : os0[j]? with
    | none => left; simp [St.ob, hS0, List.getD_eq_getElem?_getD, h]
    | some ob => right; exact ⟨ob, rfl, by simp [St.ob, hS0, List.getD_eq_getElem?_getD, h]⟩
  have gd : ∀ {j o : Nat}, pl1[j]? = some o → pl1.getD j j = o := fun h => by simp [List.getD_eq_getElem?_getD, h]
  -- who has a block of one's own
  have ownd : ∀ k, (∃ b, (entL gp k (S0.ob k)).dom b) → ∃ o, pl1[k]? = some o ∧ ¬ shared (S1.ob o) := by
    rintro k ⟨b, hb⟩
    rcases get k with ⟨_, h⟩ | ⟨ob, h1, h2⟩
    · rw [h] at hb; exact hb.elim
    · rw [h2] at hb
      obtain ⟨o, q1, q2, q3, q4, q5⟩ := pass_spec G W hss h6 h7 h1
      refine ⟨o, q1, ?_⟩
      rintro ⟨e, t, xs, m, fu, hs, hm⟩
      cases ob with
      | gone => exact hb.elim
      | box T ls => obtain ⟨_, h, _⟩ := q5; rw [hs] at h; cases h
      | row e' t' xs' m' fu' =>
        cases m' with
        | own => obtain ⟨m0, fu0, h, hl, _⟩ := q5; rw [hs] at h; cases h; cases m <;> simp_all [leM]
        | rd => exact hb.elim
        | lent => exact hb.elim
  refine ⟨fun j => ?_, fun i j hij hi hj hs => ?_, fun j => ?_⟩
  · rcases get j with ⟨_, h⟩ | ⟨ob, h1, h2⟩
    · simp only [h]; exact .inl ⟨fun b hb => hb.elim, trivial⟩
    · simp only [h2]
      obtain ⟨o, q1, q2, q3, q4, _⟩ := pass_spec G W hss h6 h7 h1
      simp only [gd q1]
      cases ob with
      | gone => exact q4.elim
      | box T ls => obtain ⟨ls0, m1, m2⟩ := q4; exact .inr (by simp only [m1, entL, boxT, q3, m2])
      | row e t xs m fu =>
        cases m with
        | own => obtain ⟨fu0, m1⟩ := q4; exact .inr (by simp only [m1, entL, q3])
        | rd => exact .inl ⟨fun b hb => hb.elim, trivial⟩
        | lent => exact .inl ⟨fun b hb => hb.elim, trivial⟩
  · obtain ⟨o, h1, h2⟩ := ownd i hi
    obtain ⟨o', h1', _⟩ := ownd j hj
    rw [gd h1, gd h1'] at hs
    subst hs
    exact h2 (G.once i j o hij h1 h1')
  · rcases get j with ⟨_, h⟩ | ⟨ob, h1, h2⟩
    · simp only [h]; exact ⟨trivial, fun b hb => hb.elim⟩
    · simp only [h2]
      obtain ⟨o, q1, q2, q3, q4, _⟩ := pass_spec G W hss h6 h7 h1
      have hR := C.okR o
      have hL := C.okL o
      cases ob with
      | gone => exact q4.elim
      | box T ls => exact ⟨trivial, fun b hb => hb.elim⟩
      | row e t xs m fu =>
        cases m with
        | own =>
          obtain ⟨fu0, m1⟩ := q4
          simp only [m1] at hR
          simp only [entR, q3]
          exact ⟨hR, fun b hb => .inl ⟨o, by simp only [m1, entR]; exact hb, fun _ => by simp only [m1]; rfl⟩⟩
        | rd =>
          obtain ⟨fu0, m1⟩ := q4
          simp only [m1] at hR
          simp only [entR, q3]
          exact ⟨hR, fun b hb => .inl ⟨o, by simp only [m1, entR]; exact hb, fun _ => by simp only [m1]; rfl⟩⟩
        | lent =>
          obtain ⟨m0, fu0, m1⟩ := q4
          simp only [m1] at hR hL
          simp only [entR, q3]
          cases m0 with
          | own =>
            refine ⟨fun f hf => ?_, fun b ⟨f, hf, x1, x2⟩ => ?_⟩
            · rcases List.mem_cons.1 hf with rfl | hf
              · exact rds_own hL
              · exact hR f hf
            · rcases List.mem_cons.1 hf with rfl | hf
              · refine .inr ⟨rfl, o, ?_, fun k hk e' => ?_⟩
                · simp only [m1, entL]
                  exact row_dom (σ0 := o) (u := t) hL x2
                · obtain ⟨o', k1, k2⟩ := ownd k hk
                  rw [gd k1] at e'
                  subst e'
                  by_cases hkj : k = j
                  · subst hkj
                    obtain ⟨b', hb'⟩ := hk
                    rw [h2] at hb'
                    exact hb'.elim
                  · exact k2 (G.once k j _ hkj k1 q1)
              · exact .inl ⟨o, by simp only [m1, entR]; exact ⟨f, hf, x1, x2⟩, fun hl => by cases hl⟩
          | rd => exact ⟨hR, fun b hb => .inl ⟨o, by simp only [m1, entR]; exact hb, fun hl => by cases hl⟩⟩
          | lent => exact ⟨hR, fun b hb => .inl ⟨o, by simp only [m1, entR]; exact hb, fun hl => by cases hl⟩⟩
end
/-- What fills a shape has it. -/
theorem fiO_sh {s : OSh} {ds ds' : List Dyn} {ob : Ob} (h : fiO s ds = some (ob, ds')) {e : Nat} {t : Ty} {xs : List t.den} {m : Md} {fu : Bool} (ho : ob = .row e t xs m fu) : s = .row e t m := by
  subst ho
  cases s with
  | box T ls => simp only [fiO, Option.map_eq_some_iff, Prod.mk.injEq] at h; obtain ⟨_, _, h, _⟩ := h; cases h
  | gone => simp [fiO] at h
  | row e' t' m' =>
    cases ds with
    | nil => simp [fiO] at h
    | cons d ds => simp only [fiO, Option.map_eq_some_iff, Prod.mk.injEq] at h; obtain ⟨_, _, h, _⟩ := h; cases h; rfl
theorem fiOs_sh : ∀ {ss : List OSh} {ds ds' : List Dyn} {os : List Ob}, fiList fiO ss ds = some (os, ds') → ∀ (j : Nat) e t xs m fu, os[j]? = some (.row e t xs m fu) → ss[j]? = some (.row e t m)
  | [], ds, ds', os, h, j, e, t, xs, m, fu, hj => by simp only [fiList, Option.some.injEq, Prod.mk.injEq] at h; obtain ⟨rfl, _⟩ := h; simp at hj
  | s :: ss, ds, ds', os, h, j, e, t, xs, m, fu, hj => by
    simp only [fiList] at h
    split at h
    · rename_i o ds1 h1
      split at h
      · rename_i os1 ds2 h2
        simp only [Option.some.injEq, Prod.mk.injEq] at h
        obtain ⟨rfl, _⟩ := h
        cases j with
        | zero => simp only [List.getElem?_cons_zero, Option.some.injEq] at hj ⊢; exact fiO_sh h1 hj
        | succ j => simpa using fiOs_sh h2 j e t xs m fu (by simpa using hj)
      · cases h
    · cases h
theorem fiN_news {s : NSh} {ds : List Dyn} {N : Nst} (h : fiN s ds = some N) : ∃ d1 d2, fiList fiO s.news d1 = some (N.news, d2) := by
  unfold fiN at h
  split at h
  · split at h
    · obtain ⟨⟨os, d⟩, h1, rfl⟩ := Option.map_eq_some_iff.1 h
      exact ⟨_, _, h1⟩
    · cases h
  · cases h
end Go.Proofs.YthdgllldpfeelaaGreatDoor
/- Calls. No condition. -/
set_option linter.unusedVariables false
set_option linter.unusedSimpArgs false
namespace Go.Proofs.YthdgllldpfeelaaGreatDoor
open Go
theorem vsOf_map (f : Nat → Nat) : ∀ l : List (Nat × SV), vsOf (l.map fun p => (p.1, mvS f p.2)) = (vsOf l).map (List.map (mvV f))
  | [] => rfl
  | (t, .v x) :: l => by
    show (vsOf (l.map fun p => (p.1, mvS f p.2))).map (mvV f x :: ·) = ((vsOf l).map (x :: ·)).map (List.map (mvV f))
    rw [vsOf_map f l, Option.map_map, Option.map_map]
    rfl
  | (t, .tup x) :: l => rfl
theorem results_map (f : Nat → Nat) (l : List (Nat × SV)) : results (l.map fun p => (p.1, mvS f p.2)) = (results l).map (mvS f) := by
  match l with
  | [] => rfl
  | [(t, v)] => rfl
  | p :: q :: l =>
    have := vsOf_map f (p :: q :: l)
    simp only [results, List.map_cons] at this ⊢
    rw [this, Option.map_map, Option.map_map]
    rfl
theorem findCon_spec {f : Nat} {s : NSh} : ∀ {Γ : List Con} {c : Con}, findCon f s Γ = some c → c ∈ Γ ∧ c.fn = f ∧ leN s c.pat = true
  | [], c, h => by simp [findCon] at h
  | c' :: r, c, h => by
    simp only [findCon] at h
    split at h
    · rename_i hc; cases h; exact ⟨List.mem_cons_self .., hc.1, hc.2⟩
    · obtain ⟨h1, h2, h3⟩ := findCon_spec h
      exact ⟨List.mem_cons_of_mem _ h1, h2, h3⟩
theorem nodupB_inj {β : Type} {f : β → Nat} : ∀ {l : List β} {p q : β}, nodupB (l.map f) = true → p ∈ l → q ∈ l → f p = f q → p = q
  | [], p, q, _, h, _, _ => by cases h
  | x :: l, p, q, hn, hp, hq, he => by
    simp only [List.map_cons, nodupB, Bool.and_eq_true, Bool.not_eq_true', List.elem_eq_mem, decide_eq_false_iff_not] at hn
    rcases List.mem_cons.1 hp with e1 | hp1
    · rcases List.mem_cons.1 hq with e2 | hq1
      · rw [e1, e2]
      · exact absurd (by rw [← e1, he]; exact List.mem_map_of_mem hq1) hn.1
    · rcases List.mem_cons.1 hq with e2 | hq1
      · exact absurd (by rw [← e2, ← he]; exact List.mem_map_of_mem hp1) hn.1
      · exact nodupB_inj hn.2 hp1 hq1 he
theorem fold_setF {β : Type} (f : β → Nat) (h : β → Ob) : ∀ (bx : List β) (l : List Ob), (bx.foldl (fun l p => l.set (f p) (h p)) l).length = l.length ∧
    (∀ i, i ∉ bx.map f → (bx.foldl (fun l p => l.set (f p) (h p)) l).getD i .gone = l.getD i .gone) ∧
    (nodupB (bx.map f) = true → ∀ p ∈ bx, f p < l.length → (bx.foldl (fun l p => l.set (f p) (h p)) l).getD (f p) .gone = h p)
  | [], l => ⟨rfl, fun _ _ => rfl, fun _ p hp => by cases hp⟩
  | p :: bx, l => by
    obtain ⟨h1, h2, h3⟩ := fold_setF f h bx (l.set (f p) (h p))
    simp only [List.foldl_cons]
    refine ⟨by rw [h1]; simp, fun i hi => ?_, fun hn q hq hlt => ?_⟩
    · simp only [List.map_cons, List.mem_cons, not_or] at hi
      rw [h2 i hi.2]
      simp [List.getD_eq_getElem?_getD, List.getElem?_set, Ne.symm hi.1]
    · simp only [List.map_cons, nodupB, Bool.and_eq_true, Bool.not_eq_true', List.elem_eq_mem, decide_eq_false_iff_not] at hn
      rcases List.mem_cons.1 hq with rfl | hq
      · rw [h2 _ hn.1]
        simp [List.getD_eq_getElem?_getD, hlt]
      · exact h3 hn.2 q hq (by simpa using hlt)
section
variable {P : Program} {Γ : List Con} {k : Nat}
/-- The caller's state behind a call. -/
theorem back_spec {g1 gp g' : Env} {γ : Ghost} {Sd S0 : St} {n : Nat} {a : Act} {w0 w w' : World} {D A : Nat → Prop} {pl1 : List Nat} {N : Nst} {r sv : SV} {S2 : St}
    (F : Fit g1 γ Sd n a) (C : Cx g1 Sd w0 D A w) {σ : Nat → Nat} (hσ : ∀ j, j < pl1.length → σ j = pl1.getD j 0)
    (LD : Lend w (fun i => entL g1 i (Sd.ob i)) (fun i => entR g1 i (Sd.ob i)) (fun j => entL gp j (S0.ob j)) (fun j => entR gp j (S0.ob j)) σ)
    (hlen : S0.obs.length = pl1.length) (hsrc : ∀ j, j < pl1.length → pl1.getD j 0 < Sd.obs.length ∧ gp j = g1 (pl1.getD j 0))
    (hself : ∀ j, j < pl1.length → (∃ b, (entL gp j (S0.ob j)).dom b) → (fun j => entL gp j (S0.ob j)) j = (fun i => entL g1 i (Sd.ob i)) (pl1.getD j 0))
    (hrows : ∀ j, j < pl1.length → ∀ e t xs m fu, S0.ob j = .row e t xs m fu → ∃ m0 fu0, Sd.ob (pl1.getD j 0) = .row e t xs m0 fu0)
    (hrb : ∀ i T ls, S0.ob i = .box T ls → ∀ o ∈ ls.flatMap refA, o < S0.obs.length) (hr : results N.slots = some r) (hnr : nrmS r = true) (hrr : ∀ o ∈ refS r, o < (afterS S0 N).obs.length) (CA : Cal g' (afterS S0 N)) (CC : CtxF w (domF fun j => entL gp j (S0.ob j)) (freeF fun j => entR gp j (S0.ob j)) (fun j => entL g' j ((afterS S0 N).ob j)) (fun j => entR g' j ((afterS S0 N).ob j)) w')
    (KA : Kp gp { S0 with slots := [], mods := [] } (fun _ => True) g' { afterS S0 N with mods := N.boxes.map (·.1) }) (hi : instOut Sd pl1 N = some (S2, sv)) :
    ∃ g2, encS g2 sv = encS g' r ∧ Fit g2 γ S2 n a ∧ Cx g2 S2 w0 D A w' ∧ okS S2 sv ∧ (∀ o ∈ refS sv, o < S2.obs.length) ∧ Kp g1 Sd noD g2 S2 := by
  unfold instOut at hi
  split at hi
  · rename_i hc
    simp only [Bool.and_eq_true, List.all_eq_true, decide_eq_true_eq] at hc
    obtain ⟨⟨hbx, hnw⟩, hnd⟩ := hc
    rw [results_map, hr] at hi
    simp only [Option.map_some, Option.some.injEq, Prod.mk.injEq] at hi
    obtain ⟨rfl, rfl⟩ := hi
    obtain ⟨gm, hgm⟩ : ∃ gm, gm = srcId Sd pl1 := ⟨_, rfl⟩
    rw [← hgm]
    rw [← hgm] at hnd
    obtain ⟨np, hnp⟩ : ∃ np, np = pl1.length := ⟨_, rfl⟩
    rw [← hnp] at hσ hlen hsrc hself hrows hbx
    have gmLo : ∀ j, j < np → gm j = pl1.getD j 0 := fun j hj => by simp [hgm, srcId, ← hnp, hj]
    have gmHi : ∀ j, np ≤ j → gm j = Sd.obs.length + (j - np) := fun j hj => by simp [hgm, srcId, ← hnp, Nat.not_lt.2 hj]
    have gmLt : ∀ j, j < np → gm j < Sd.obs.length := fun j hj => by rw [gmLo j hj]; exact (hsrc j hj).1
    -- the callee's state
    obtain ⟨S1, hS1⟩ : ∃ S1, S1 = afterS S0 N := ⟨_, rfl⟩
    rw [← hS1] at hrr CA CC
    have KA' : Kp gp { S0 with slots := [], mods := [] } (fun _ => True) g' { S1 with mods := N.boxes.map (·.1) } := by rw [hS1]; exact KA
    have hnd1 : nodupB (N.boxes.map (·.1)) = true := by
      have : ∀ l : List (Nat × Ob), nodupB (l.map fun p => gm p.1) = true → nodupB (l.map (·.1)) = true := by
        intro l
        induction l with
        | nil => intro _; rfl
        | cons p l ih =>
          intro h
          simp only [List.map_cons, nodupB, Bool.and_eq_true, Bool.not_eq_true', List.elem_eq_mem, decide_eq_false_iff_not] at h ⊢
          refine ⟨fun hm => h.1 ?_, ih h.2⟩
          obtain ⟨q, hq, he⟩ := List.mem_map.1 hm
          exact List.mem_map.2 ⟨q, hq, by rw [he]⟩
      exact this _ hnd
    obtain ⟨f1, f2, f3⟩ := fold_setF (fun p : Nat × Ob => p.1) (fun p => p.2) N.boxes S0.obs
    have hl1 : S1.obs.length = np + N.news.length := by simp only [hS1, afterS, List.length_append, f1, hlen]
    have ob1Lo : ∀ j, j < np → S1.ob j = (N.boxes.foldl (fun l p => l.set p.1 p.2) S0.obs).getD j .gone := fun j hj => by
      simp only [hS1, afterS, St.ob, List.getD_eq_getElem?_getD]
      rw [List.getElem?_append_left (by rw [f1, hlen]; exact hj)]
    have ob1W : ∀ p ∈ N.boxes, S1.ob p.1 = p.2 := fun p hp => by
      have hlt := (hbx p hp).1
      rw [ob1Lo p.1 hlt]
      exact f3 hnd1 p hp (by rw [hlen]; exact hlt)
    have ob1N : ∀ j, j < np → j ∉ N.boxes.map (·.1) → S1.ob j = S0.ob j ∧ g' j = gp j := fun j hj hm => KA'.same j (by show j < S0.obs.length; rw [hlen]; exact hj) hm
    have ob1Hi : ∀ q, S1.ob (np + q) = N.news.getD q .gone := fun q => by
      simp only [hS1, afterS, St.ob, List.getD_eq_getElem?_getD]
      rw [List.getElem?_append_right (by rw [f1, hlen]; omega), f1, hlen, show np + q - np = q by omega]
    have vb1 : ∀ j, j < np → (g' j).v = (gp j).v ∧ (g' j).b = (gp j).b := fun j hj => KA'.vb j (by show j < S0.obs.length; rw [hlen]; exact hj)
    -- the caller's
    obtain ⟨S2, hS2⟩ : ∃ S2 : St, S2 = ⟨Sd.slots, N.boxes.foldl (fun l p => l.set (gm p.1) (mvO gm p.2)) Sd.obs ++ N.news.map (mvO gm), N.boxes.map (fun p => gm p.1) ++ Sd.mods, Sd.pl⟩ := ⟨_, rfl⟩
    rw [← hS2]
    obtain ⟨f4, f5, f6⟩ := fold_setF (fun p : Nat × Ob => gm p.1) (fun p => mvO gm p.2) N.boxes Sd.obs
    have hl2 : S2.obs.length = Sd.obs.length + N.news.length := by simp only [hS2, List.length_append, List.length_map, f4]
    have ob2Lo : ∀ i, i < Sd.obs.length → S2.ob i = (N.boxes.foldl (fun l p => l.set (gm p.1) (mvO gm p.2)) Sd.obs).getD i .gone := fun i hi => by
      simp only [hS2, St.ob, List.getD_eq_getElem?_getD]
      rw [List.getElem?_append_left (by rw [f4]; exact hi)]
    have ob2W : ∀ p ∈ N.boxes, S2.ob (gm p.1) = mvO gm p.2 := fun p hp => by
      have hlt := gmLt p.1 (hbx p hp).1
      rw [ob2Lo _ hlt]
      exact f6 hnd p hp hlt
    have ob2N : ∀ i, i < Sd.obs.length → i ∉ N.boxes.map (fun p => gm p.1) → S2.ob i = Sd.ob i := fun i hi hm => by rw [ob2Lo i hi]; exact f5 i hm
    have ob2Hi : ∀ q, S2.ob (Sd.obs.length + q) = mvO gm (S1.ob (np + q)) := fun q => by
      rw [ob1Hi q]
      simp only [hS2, St.ob, List.getD_eq_getElem?_getD]
      rw [List.getElem?_append_right (by rw [f4]; omega), f4, show Sd.obs.length + q - Sd.obs.length = q by omega, List.getElem?_map]
      cases N.news[q]? <;> rfl
    obtain ⟨g2, hg2⟩ : ∃ g2 : Env, g2 = fun i => if i < Sd.obs.length then (match N.boxes.find? (fun p => gm p.1 == i) with | some p => g' p.1 | none => g1 i) else g' (np + (i - Sd.obs.length)) := ⟨_, rfl⟩
    have g2W : ∀ p ∈ N.boxes, g2 (gm p.1) = g' p.1 := fun p hp => by
      simp only [hg2, if_pos (gmLt p.1 (hbx p hp).1)]
      cases hf : N.boxes.find? (fun q => gm q.1 == gm p.1) with
      | none => have := List.find?_eq_none.1 hf p hp; simp at this
      | some q =>
        have h1 := List.find?_some hf
        have h2 := List.mem_of_find?_eq_some hf
        have : q = p := nodupB_inj (f := fun p : Nat × Ob => gm p.1) hnd h2 hp (by simpa using h1)
        rw [this]
    have g2N : ∀ i, i < Sd.obs.length → i ∉ N.boxes.map (fun p => gm p.1) → g2 i = g1 i := fun i hi hm => by
      simp only [hg2, if_pos hi]
      cases hf : N.boxes.find? (fun q => gm q.1 == i) with
      | none => rfl
      | some q =>
        have h1 := List.find?_some hf
        have h2 := List.mem_of_find?_eq_some hf
        exact absurd (List.mem_map.2 ⟨q, h2, by simpa using h1⟩) hm
    have g2Hi : ∀ q, g2 (Sd.obs.length + q) = g' (np + q) := fun q => by
      simp only [hg2, if_neg (show ¬ Sd.obs.length + q < Sd.obs.length by omega), show Sd.obs.length + q - Sd.obs.length = q by omega]
    have memW : ∀ i, i ∈ N.boxes.map (fun p => gm p.1) → ∃ p ∈ N.boxes, gm p.1 = i := fun i h => by obtain ⟨p, hp, he⟩ := List.mem_map.1 h; exact ⟨p, hp, he⟩
    -- places and values stay
    have vb2 : ∀ i, i < Sd.obs.length → (g2 i).v = (g1 i).v ∧ (g2 i).b = (g1 i).b := fun i hi => by
      by_cases hm : i ∈ N.boxes.map (fun p => gm p.1)
      · obtain ⟨p, hp, rfl⟩ := memW i hm
        have hlt := (hbx p hp).1
        rw [g2W p hp]
        have h1 := vb1 p.1 hlt
        rw [(hsrc p.1 hlt).2, ← gmLo p.1 hlt] at h1
        exact h1
      · rw [g2N i hi hm]; exact ⟨rfl, rfl⟩
    have vbm : ∀ j, (g2 (gm j)).v = (g' j).v ∧ (g2 (gm j)).b = (g' j).b := fun j => by
      rcases Nat.lt_or_ge j np with h | h
      · have h1 := vb2 (gm j) (gmLt j h)
        have h2 := vb1 j h
        rw [(hsrc j h).2, ← gmLo j h] at h2
        exact ⟨h1.1.trans h2.1.symm, h1.2.trans h2.2.symm⟩
      · rw [gmHi j h, g2Hi, show np + (j - np) = j by omega]; exact ⟨rfl, rfl⟩
    have refsm : ∀ j, j < S1.obs.length → gm j < S2.obs.length := fun j hj => by
      rw [hl2]
      rcases Nat.lt_or_ge j np with h | h
      · have := gmLt j h; omega
      · rw [gmHi j h]; rw [hl1] at hj; omega
    -- an object of the callee's with the caller
    have entm : ∀ j, g2 (gm j) = g' j → entL g2 (gm j) (mvO gm (S1.ob j)) = entL g' j (S1.ob j) ∧ entR g2 (gm j) (mvO gm (S1.ob j)) = entR g' j (S1.ob j) ∧ obP g2 (gm j) (mvO gm (S1.ob j)) := fun j hg => by
      have hp := CA.ob j
      cases ho : S1.ob j with
      | gone => exact ⟨rfl, rfl, trivial⟩
      | box T ls =>
        rw [ho] at hp
        obtain ⟨l1, _, l3, _⟩ := mvL_enc (g := g') (g' := g2) (f := gm) ls (fun o _ => vbm o)
        exact ⟨by simp only [mvO, entL, boxT, hg, l1], rfl, l3 hp⟩
      | row e t xs m fu =>
        rw [ho] at hp
        refine ⟨?_, ?_, ?_⟩
        · cases m <;> simp only [mvO, entL, hg]
        · cases m <;> simp only [mvO, entR, hg]
        · simp only [mvO, obP, hg]; exact hp
    have entsame : ∀ i, i < Sd.obs.length → i ∉ N.boxes.map (fun p => gm p.1) → entL g2 i (S2.ob i) = entL g1 i (Sd.ob i) ∧ entR g2 i (S2.ob i) = entR g1 i (Sd.ob i) := fun i hi hm => by
      rw [ob2N i hi hm]
      exact ⟨entL_vb (g2N i hi hm) (fun T ls e x hx => vb2 x (F.rb i T ls e x hx)), entR_ext (g2N i hi hm)⟩
    have entLent : ∀ (g : Env) i o, noLent o = true → (entR g i o).lent = false := fun g i o h => by
      cases o with
      | gone => rfl
      | box T ls => rfl
      | row e t xs m fu => cases m <;> first | rfl | (simp [noLent] at h)
    refine ⟨g2, (mvS_enc (g := g') (g' := g2) (f := gm) r hnr (fun o _ => vbm o)).1, ?_, ?_, (mvS_enc (g := g') (g' := g2) (f := gm) r hnr (fun o _ => vbm o)).2.2 S2, ?_, ?_⟩
    · refine ⟨F.size, F.lo, F.defers, fun t s h => ?_, fun i => ?_, fun t s h => ?_, fun t s h o ho => ?_, fun i T ls h o ho => ?_⟩
      · have h' : lookS Sd.slots t = some s := by rw [hS2] at h; exact h
        have := F.sl t s h'
        rwa [encS_vb (g := g1) (g' := g2) s (fun o ho => vb2 o (F.rs t s h' o ho))]
      · rcases Nat.lt_or_ge i Sd.obs.length with hi | hi
        · by_cases hm : i ∈ N.boxes.map (fun p => gm p.1)
          · obtain ⟨p, hp, rfl⟩ := memW i hm
            rw [ob2W p hp, ← ob1W p hp]
            exact (entm p.1 (g2W p hp)).2.2
          · rw [ob2N i hi hm]; exact obP_ext (g2N i hi hm) (F.ob i)
        · have e1 : i = Sd.obs.length + (i - Sd.obs.length) := by omega
          have e2 : gm (np + (i - Sd.obs.length)) = i := by rw [gmHi _ (by omega)]; omega
          have := (entm (np + (i - Sd.obs.length)) (by rw [e2]; rw [e1, g2Hi]; congr 1; omega)).2.2
          rw [e2] at this
          rw [e1, ob2Hi, ← e1]
          exact this
      · have h' : lookS Sd.slots t = some s := by rw [hS2] at h; exact h
        have hok := F.ok t s h'
        have okE : ∀ v : V1, (∀ o ∈ refV v, o < Sd.obs.length) → okV Sd v → okV S2 v := fun v hr' hv => by
          cases v with
          | elp o sz i off =>
            intro e t xs m fu he
            have hlt : o < Sd.obs.length := hr' o (by simp [refV])
            by_cases hm : o ∈ N.boxes.map (fun p => gm p.1)
            · obtain ⟨p, hp, rfl⟩ := memW o hm
              have hlt' := (hbx p hp).1
              rw [ob2W p hp] at he
              cases hp2 : p.2 with
              | gone => rw [hp2] at he; cases he
              | box T ls => rw [hp2] at he; cases he
              | row e' t' xs' m' fu' =>
                rw [hp2] at he
                cases he
                obtain ⟨e0, xs0, m0, fu0, q1, q2⟩ := KA'.rows p.1 (by show p.1 < S0.obs.length; rw [hlen]; exact hlt') e t xs m fu (by show S1.ob p.1 = _; rw [ob1W p hp, hp2])
                obtain ⟨m3, fu3, q3⟩ := hrows p.1 hlt' _ _ _ _ _ (show S0.ob p.1 = _ from q1)
                rw [gmLo p.1 hlt'] at hv
                have := hv _ _ _ _ _ q3
                rw [q2] at this
                exact this
            · rw [ob2N o hlt hm] at he; exact hv e t xs m fu he
          | arp b off t n i => exact hv
          | _ => trivial
        cases s with
        | v x => exact okE x (fun o ho => F.rs t _ h' o ho) hok
        | tup xs => exact fun x hx => okE x (fun o ho => F.rs t _ h' o (List.mem_flatMap.2 ⟨x, hx, ho⟩)) (hok x hx)
      · have h' : lookS Sd.slots t = some s := by rw [hS2] at h; exact h
        have := F.rs t s h' o ho
        rw [hl2]; omega
      · -- boxes
        have boxm : ∀ j, S1.ob j = S1.ob j → ∀ T ls, mvO gm (S1.ob j) = .box T ls → ∀ o ∈ ls.flatMap refA, o < S2.obs.length := fun j _ T ls h o ho => by
          cases h1 : S1.ob j with
          | gone => rw [h1] at h; cases h
          | row e t xs m fu => rw [h1] at h; cases h
          | box T' ls' =>
            rw [h1] at h
            cases h
            rw [(mvL_enc (g := g') (g' := g2) (f := gm) ls' (fun o _ => vbm o)).2.2.2] at ho
            obtain ⟨o', ho', rfl⟩ := List.mem_map.1 ho
            exact refsm o' (CA.rb j _ ls' h1 o' ho')
        rcases Nat.lt_or_ge i Sd.obs.length with hi | hi
        · by_cases hm : i ∈ N.boxes.map (fun p => gm p.1)
          · obtain ⟨p, hp, rfl⟩ := memW i hm
            rw [ob2W p hp, ← ob1W p hp] at h
            exact boxm p.1 rfl T ls h o ho
          · rw [ob2N i hi hm] at h
            have := F.rb i T ls h o ho
            rw [hl2]; omega
        · rw [show i = Sd.obs.length + (i - Sd.obs.length) by omega, ob2Hi] at h
          exact boxm _ rfl T ls h o ho
    · refine cf_back (fc := fun i j => gm j = i) (Lo := fun j => entL g' j (S1.ob j)) (Ro := fun j => entR g' j (S1.ob j)) C LD CC (fun i => ?_) (fun i i' j h h' => h.symm.trans h') (fun i => ?_)
      · rcases Nat.lt_or_ge i Sd.obs.length with hi | hi
        · by_cases hm : i ∈ N.boxes.map (fun p => gm p.1)
          · obtain ⟨p, hp, rfl⟩ := memW i hm
            refine .inr (.inl ⟨p.1, rfl, ?_⟩)
            have := (entm p.1 (g2W p hp)).1
            rw [ob1W p hp] at this
            simp only [ob2W p hp, ob1W p hp]
            exact this
          · have hs := (entsame i hi hm).1
            by_cases hk : ∃ k, (∃ b, (entL gp k (S0.ob k)).dom b) ∧ σ k = i
            · obtain ⟨j, hdom, hj⟩ := hk
              have hjn : j < np := by
                rcases Nat.lt_or_ge j np with h | h
                · exact h
                · obtain ⟨b, hb⟩ := hdom
                  rw [ob_ge (by rw [hlen]; exact h)] at hb
                  exact hb.elim
              have hgj : gm j = i := by rw [gmLo j hjn, ← hσ j hjn]; exact hj
              have hjm : j ∉ N.boxes.map (·.1) := fun h => hm (by
                obtain ⟨p, hp, he⟩ := List.mem_map.1 h
                exact List.mem_map.2 ⟨p, hp, by rw [he]; exact hgj⟩)
              refine .inr (.inl ⟨j, hgj, ?_⟩)
              obtain ⟨q1, q2⟩ := ob1N j hjn hjm
              have q3 := hself j hjn hdom
              simp only at q3
              rw [← gmLo j hjn, hgj] at q3
              simp only [q1]
              rw [hs, ← q3]
              refine (entL_vb q2 (fun T ls e x hx => ?_)).symm
              exact vb1 x (by rw [← hlen]; exact hrb j T ls e x hx)
            · exact .inr (.inr ⟨hs, fun k hd e => hk ⟨k, hd, e⟩⟩)
        · have e1 : i = Sd.obs.length + (i - Sd.obs.length) := by omega
          have e2 : gm (np + (i - Sd.obs.length)) = i := by rw [gmHi _ (by omega)]; omega
          have := (entm (np + (i - Sd.obs.length)) (by rw [e2]; rw [e1, g2Hi]; congr 1; omega)).1
          rw [e2] at this
          refine .inr (.inl ⟨np + (i - Sd.obs.length), e2, ?_⟩)
          have e3 : S2.ob i = mvO gm (S1.ob (np + (i - Sd.obs.length))) := by rw [← ob2Hi, ← e1]
          simp only [e3]
          exact this
      · rcases Nat.lt_or_ge i Sd.obs.length with hi | hi
        · by_cases hm : i ∈ N.boxes.map (fun p => gm p.1)
          · obtain ⟨p, hp, rfl⟩ := memW i hm
            have := (entm p.1 (g2W p hp)).2.1
            rw [ob1W p hp] at this
            refine .inr (.inr ⟨p.1, ?_, ?_⟩)
            · simp only [ob2W p hp, ob1W p hp]; exact this
            · simp only [ob2W p hp]
              rw [this]
              exact entLent _ _ _ (hbx p hp).2
          · exact .inr (.inl (entsame i hi hm).2)
        · have e1 : i = Sd.obs.length + (i - Sd.obs.length) := by omega
          have e2 : gm (np + (i - Sd.obs.length)) = i := by rw [gmHi _ (by omega)]; omega
          have := (entm (np + (i - Sd.obs.length)) (by rw [e2]; rw [e1, g2Hi]; congr 1; omega)).2.1
          rw [e2] at this
          have e3 : S2.ob i = mvO gm (S1.ob (np + (i - Sd.obs.length))) := by rw [← ob2Hi, ← e1]
          refine .inr (.inr ⟨np + (i - Sd.obs.length), ?_, ?_⟩)
          · simp only [e3]; exact this
          · simp only [e3]
            rw [this]
            refine entLent _ _ _ ?_
            rw [ob1Hi]
            cases h : N.news[i - Sd.obs.length]? with
            | none => simp [List.getD_eq_getElem?_getD, h, noLent]
            | some ob => simp only [List.getD_eq_getElem?_getD, h, Option.getD_some]; exact hnw ob (List.mem_of_getElem? h)
    · intro o ho
      rw [(mvS_enc (g := g') (g' := g2) (f := gm) r hnr (fun o _ => vbm o)).2.1] at ho
      obtain ⟨o', ho', rfl⟩ := List.mem_map.1 ho
      exact refsm o' (hrr o' ho')
    · refine ⟨by rw [hl2]; omega, vb2, fun i hi hm => ?_, fun i hi => by rw [hS2]; exact List.mem_append_right _ hi, fun _ _ => by rw [hS2], fun i hi e t xs m fu h => ?_⟩
      · have hm' : i ∉ N.boxes.map (fun p => gm p.1) := fun h => hm (by rw [hS2]; exact List.mem_append_left _ h)
        exact ⟨ob2N i hi hm', g2N i hi hm'⟩
      · by_cases hm : i ∈ N.boxes.map (fun p => gm p.1)
        · obtain ⟨p, hp, rfl⟩ := memW i hm
          have hlt' := (hbx p hp).1
          rw [ob2W p hp] at h
          cases hp2 : p.2 with
          | gone => rw [hp2] at h; cases h
          | box T ls => rw [hp2] at h; cases h
          | row e' t' xs' m' fu' =>
            rw [hp2] at h
            cases h
            obtain ⟨e0, xs0, m0, fu0, q1, q2⟩ := KA'.rows p.1 (by show p.1 < S0.obs.length; rw [hlen]; exact hlt') e t xs m fu (by show S1.ob p.1 = _; rw [ob1W p hp, hp2])
            obtain ⟨m3, fu3, q3⟩ := hrows p.1 hlt' _ _ _ _ _ (show S0.ob p.1 = _ from q1)
            rw [gmLo p.1 hlt']
            exact ⟨_, _, _, _, q3, q2⟩
        · rw [ob2N i hi hm] at h; exact ⟨_, _, _, _, h, rfl⟩
  · cases hi
end
end Go.Proofs.YthdgllldpfeelaaGreatDoor
/- Calls, whole. No condition. -/
set_option linter.unusedVariables false
set_option linter.unusedSimpArgs false
namespace Go.Proofs.YthdgllldpfeelaaGreatDoor
open Go
theorem Fn.mono {P : Program} {f : FuncId} {args : List Value} {w : World} {K K' : Value → World → Prop} (h : Fn P f args w K) (hk : ∀ v w', K v w' → K' v w') : Fn P f args w K' :=
  Calls.mono h fun e w' ⟨v, he, hv⟩ => ⟨v, he, hk v w' hv⟩
theorem pseudo_spec {S : St} : ∀ {gs : List Nat} {t : Nat} {sv : SV}, lookS (pseudo S gs) t = some sv → ∃ b, t = rG + b ∧ lookG S.slots b = some sv
  | [], t, sv, h => by cases h
  | b :: gs, t, sv, h => by
    unfold pseudo at h
    rw [List.filterMap_cons] at h
    cases hb : lookG S.slots b with
    | none =>
      rw [hb] at h
      exact pseudo_spec (gs := gs) h
    | some v =>
      rw [hb] at h
      simp only [Option.map_some, lookS] at h
      split at h
      · rename_i he
        cases h
        exact ⟨b, by simpa using (beq_iff_eq.1 he).symm, hb⟩
      · exact pseudo_spec (gs := gs) h
theorem callG_spec {P : Program} {Γ : List Con} {k : Nat} (hΓ : ∀ c ∈ Γ, ConOk P c) (gs : List Nat) : CallOk P (fun R A S f xs K => callG A P Γ k gs S f xs K) := by
  intro α K out g γ S n a w0 w D A f ys h F C hxs'
  simp only [callG] at h
  split at h
  · rename_i N pl hN
    split at h
    · rename_i hc
      obtain ⟨hs, hp, hgb⟩ := hc
      simp only [Bool.and_eq_true, List.all_eq_true, decide_eq_true_eq] at hgb
      split at h
      · rename_i c hfc
        split at h
        · rename_i x hx
          obtain ⟨y, hy, h⟩ := Option.bind_eq_some_iff.1 h
          obtain ⟨hcm, hcf, hle⟩ := findCon_spec hfc
          obtain ⟨g1, gp, F1, C1, K1, G, hb, henc, hsl⟩ := give_spec F C hN hp
          obtain ⟨n1, n2, n3⟩ := norm_nrm hN
          obtain ⟨N0, hf0, W⟩ := fiN_co n1 n2 n3 hle
          have hN0b : N0.boxes = [] := by
            have := all2_fst W.boxes
            rw [hb] at this
            simpa using this
          obtain ⟨S0, hS0⟩ : ∃ S0, S0 = fillB ⟨[], [], [], .nil⟩ 0 N0 := ⟨_, rfl⟩
          have hpat : patSt c.pat x = some S0 := by
            unfold patSt
            rw [fromD_spec _ _ _ hx, hf0, hS0]; rfl
          have hobs : S0.obs = N0.news := by rw [hS0]; simp [fillB, hN0b]
          have hslots : S0.slots = N.slots := by rw [hS0]; simp [fillB, W.slots]
          obtain ⟨d1, d2, hss0⟩ := fiN_news hf0
          have hss := fiOs_sh hss0
          obtain ⟨D1, D2, D3, D4, D5, D6, D7⟩ := demote_spec (noNil S.obs.length pl) c.pat.news F1
          obtain ⟨pl1, hpl1⟩ : ∃ pl1, pl1 = noNil S.obs.length pl := ⟨_, rfl⟩
          rw [← hpl1] at h G D1 D2 D3 D4 D5 D6 D7
          obtain ⟨S1, hS1⟩ : ∃ S1, S1 = S.add (nilObs pl) := ⟨_, rfl⟩
          rw [← hS1] at h F1 C1 K1 G D1 D2 D3 D4 D5 D6 D7
          obtain ⟨Sd, hSd⟩ : ∃ Sd, Sd = demote S1 pl1 c.pat.news := ⟨_, rfl⟩
          rw [← hSd] at h D1 D2 D3 D4 D5 D6 D7
          have C2 := D2 _ _ _ _ C1
          have LD := lend_spec (S0 := S0) G W.news hss D6 D7 hobs C2
          have hlen : S0.obs.length = pl1.length := by rw [hobs, ← W.news.len, G.len]
          have hpll : pl1.length = pl.length := by rw [hpl1, noNil_len]
          have get : ∀ j, S0.ob j = .gone ∨ N0.news[j]? = some (S0.ob j) := fun j => by
            cases hj : N0.news[j]? with
            | none => left; simp [St.ob, hobs, List.getD_eq_getElem?_getD, hj]
            | some ob => right; simp [St.ob, hobs, List.getD_eq_getElem?_getD, hj]
          have CAL : Cal gp S0 := by
            refine ⟨fun i => ?_, fun p hp' => (hsl p (by rw [← hslots]; exact hp')).1, fun p hp' o ho => ?_, fun i T ls hi o ho => ?_⟩
            · rcases get i with h1 | h1
              · rw [h1]; trivial
              · obtain ⟨o, q1, q2, q3, q4, q5⟩ := pass_spec G W.news hss D6 D7 h1
                have hp1 := F1.ob o
                cases hi : S0.ob i with
                | gone => trivial
                | box T ls => rw [hi] at q5; obtain ⟨ls0, m1, _, m3, _⟩ := q5; rw [m1] at hp1; exact m3 hp1
                | row e t xs m fu =>
                  rw [hi] at q5
                  obtain ⟨m0, fu0, m1, _, m3⟩ := q5
                  rw [m1] at hp1
                  exact ⟨by rw [q3]; exact hp1.1, by rw [q3]; exact hp1.2.1, fun hf => by rw [q3]; exact hp1.2.2 (m3 hf)⟩
            · rw [hlen, hpll]; exact (hsl p (by rw [← hslots]; exact hp')).2 o ho
            · rcases get i with h1 | h1
              · rw [h1] at hi; cases hi
              · obtain ⟨o', q1, q2, q3, q4, q5⟩ := pass_spec G W.news hss D6 D7 h1
                rw [hi] at q5
                obtain ⟨_, _, _, _, m4⟩ := q5
                rw [hlen]; exact m4 o ho
          have hkeys : S0.slots.map (·.1) = List.range ys.length ++ gs.map (rG + ·) := by rw [hslots, hs]
          have hnl : N.slots.length = ys.length + gs.length := by
            have := congrArg List.length hs
            simpa using this
          have hkey : ∀ i, i < ys.length → ∀ p, N.slots[i]? = some p → p.1 = i := fun i hi p hp' => by
            have := congrArg (·[i]?) hs
            simp only [List.getElem?_map, hp', Option.map_some] at this
            rw [List.getElem?_append_left (by simpa using hi), List.getElem?_range hi] at this
            simpa using this
          have harg : ((N.slots.take ys.length).map fun p => encS gp p.2) = ys.map (encS g) := by
            apply List.ext_getElem?
            intro i
            simp only [List.getElem?_map]
            rcases Nat.lt_or_ge i ys.length with hi | hi
            · rw [List.getElem?_take_of_lt hi]
              obtain ⟨p, hp'⟩ : ∃ p, N.slots[i]? = some p := ⟨_, List.getElem?_eq_getElem (by omega)⟩
              obtain ⟨sv, h1, h2⟩ := henc p (List.mem_of_getElem? hp')
              rw [hkey i hi p hp', look_app] at h1
              have h3 : lookS (numbered 0 ys) i = ys[i]? := by have := look_numbered ys 0 i; rwa [Nat.zero_add] at this
              rw [h3, List.getElem?_eq_getElem hi] at h1
              rw [hp', List.getElem?_eq_getElem hi]
              simp only [Option.map_some, h2]
              simp only [Option.some_or, Option.some.injEq] at h1
              rw [h1]
            · rw [List.getElem?_eq_none (by rw [List.length_take]; omega), List.getElem?_eq_none hi]
              rfl
          have hglob : ∀ p ∈ S0.slots.drop ys.length, encS gp p.2 = .pointer (some ⟨p.1 - rG, 0, none⟩) := by
            intro p hp'
            rw [hslots] at hp'
            obtain ⟨i, hi⟩ := List.mem_iff_getElem?.1 hp'
            rw [List.getElem?_drop] at hi
            have hk := congrArg (·[ys.length + i]?) hs
            simp only [List.getElem?_map, hi, Option.map_some] at hk
            rw [List.getElem?_append_right (by simp), List.length_range, Nat.add_sub_cancel_left, List.getElem?_map] at hk
            obtain ⟨b, hb1, hb2⟩ := Option.map_eq_some_iff.1 hk.symm
            obtain ⟨sv, h1, h2⟩ := henc p (List.mem_of_getElem? hi)
            rw [look_app] at h1
            have h0 : lookS (numbered 0 ys) p.1 = none := by
              have := look_numbered ys 0 p.1
              rw [Nat.zero_add] at this
              rw [this, List.getElem?_eq_none (by omega)]
            rw [h0, Option.none_or] at h1
            obtain ⟨b', hb', hl⟩ := pseudo_spec h1
            have h3 := (opA_spec (x := .global b') F (show opA S (.global b') = some sv from hl)).1
            rw [h2, ← h3, hb', Nat.add_sub_cancel_left]
            rfl
          have hfn := hΓ c hcm k x y S0 ys.length gs hy hpat hkeys (fun b hb => hgb.1 b hb) gp w _ _ CAL (cf_lend C2 LD) hglob
          rw [hcf, hslots, harg] at hfn
          refine hfn.mono ?_
          rintro v w' ⟨i, ds, s, N', r, g', q1, q2, q3, q4, q5, q6, q7, q8, q9, q10⟩
          rw [q1] at h
          simp only [q2, q3] at h
          split at h
          · rename_i S2 sv hio
            have gd : ∀ {j : Nat}, j < pl1.length → pl1[j]? = some (pl1.getD j 0) := fun {j} hj => by simp [List.getD_eq_getElem?_getD, hj]
            obtain ⟨g2, b1, b2, b3, b4, b5, b6⟩ := back_spec (σ := fun j => pl1.getD j j) D1 C2 (fun j hj => by simp [List.getD_eq_getElem?_getD, hj]) LD hlen
              (fun j hj => by have := G.src j _ (gd hj); rw [D5]; exact this)
              (fun j hj hd => by
                rcases LD.own j with ⟨hno, _⟩ | h1
                · obtain ⟨b, hb⟩ := hd; exact absurd hb (hno b)
                · have e : pl1.getD j j = pl1.getD j 0 := by simp [List.getD_eq_getElem?_getD, hj]
                  rw [e] at h1; exact h1)
              (fun j hj e t xs m fu he => by
                rcases get j with h1 | h1
                · rw [h1] at he; cases he
                · obtain ⟨o, p1, p2, p3, p4, p5⟩ := pass_spec G W.news hss D6 D7 h1
                  have : o = pl1.getD j 0 := by rw [gd hj] at p1; cases p1; rfl
                  subst this
                  rw [he] at p4
                  cases m with
                  | own => obtain ⟨fu0, m1⟩ := p4; exact ⟨_, _, m1⟩
                  | rd => obtain ⟨fu0, m1⟩ := p4; exact ⟨_, _, m1⟩
                  | lent => obtain ⟨m0, fu0, m1⟩ := p4; exact ⟨_, _, m1⟩)
              CAL.rb q4 q6 q7 q8 q9 q10 hio
            obtain ⟨p, h⟩ : ∃ p, K (S2.to p) sv = some out := by
              split at h
              · exact ⟨S2.pl, h⟩
              · exact ⟨_, h⟩
            exact ⟨g2, S2.to p, sv, h, by rw [q5, b1], fit_to b2 p, b3, by cases sv <;> exact b4, b5, kp_to (K1.trans (D3.trans b6 (fun _ => id) (fun _ => id)) (fun _ => id) (fun _ => id)) p⟩
          · simp [optA] at h
        · simp [optA] at h
      · simp [optA] at h
    · simp [optA] at h
  · simp [optA] at h
theorem callF_spec {P : Program} {Γ : List Con} {k : Nat} (hΓ : ∀ c ∈ Γ, ConOk P c) : CallOk P (fun R A S f xs K => callF A P Γ k S f xs K) := by
  intro α K out g γ S n a w0 w D A f xs h F C hxs
  simp only [callF] at h
  obtain ⟨t1, t2⟩ := typeArgs_enc (P := P) (g := g) (S := S) f xs
  have hxs' := t2 hxs
  rw [← t1]
  split at h
  · exact callG_spec hΓ [] h F C hxs'
  · exact callG_spec hΓ (globs S) h F C hxs'
end Go.Proofs.YthdgllldpfeelaaGreatDoor
/- A function, whole. No condition. -/
set_option linter.unusedVariables false
set_option linter.unusedSimpArgs false
namespace Go.Proofs.YthdgllldpfeelaaGreatDoor
open Go
theorem nrm_ok {S : St} {v : SV} (h : nrmS v = true) : okS S v := by
  have okE : ∀ v : V1, nrmV v = true → okV S v := fun v hv => by
    cases v with
    | elp o sz i off => cases hv
    | arp b off t n i => cases hv
    | _ => trivial
  cases v with
  | v x => exact okE x h
  | tup xs => exact fun x hx => okE x (List.all_eq_true.1 h x hx)
theorem bits_all : ∀ l : List Nat, ∃ d : Nat, ∀ t ∈ l, bit d t = true
  | [] => ⟨0, fun t h => by cases h⟩
  | x :: l => by
    obtain ⟨d, hd⟩ := bits_all l
    refine ⟨(1 <<< x) ||| d, fun t ht => bit_or.2 ?_⟩
    rcases List.mem_cons.1 ht with rfl | h
    · exact .inl (bit_one t)
    · exact .inr (hd t h)
/-- What is told of results. -/
structure ResOk (g : Env) (S : St) (i : Nat) (l : List (Nat × SV)) : Prop where
  keys : l.map (·.1) = (List.range l.length).map (fun j => rB + (i + j))
  ok : ∀ p ∈ l, okS S p.2
  rs : ∀ p ∈ l, ∀ o ∈ refS p.2, o < S.obs.length
section
variable {P : Program} {g g' : Env} {γ : Ghost} {S : St} {n : Nat} {a : Act} {w0 w w' : World} {D A : Nat → Prop}
theorem range_keys (i m : Nat) : (rB + i) :: (List.range m).map (fun j => rB + (i + 1 + j)) = (List.range (m + 1)).map (fun j => rB + (i + j)) := by
  rw [List.range_succ_eq_map, List.map_cons, List.map_map]
  congr 1
  apply List.map_congr_left
  intro j _
  simp only [Function.comp]
  omega
theorem load_run {ty : TypeId} {X : Operand} {v : Value} (h : Runs P a.eval (.load ty X) w v w) : (Instr.loadAt ty (a.eval X)).run P w = .ok v w := by
  have := h { (default : Oper) with op := .load ty X } rfl
  simp only [execOp, Sem.run_bind] at this
  cases hr : (Instr.loadAt ty (a.eval X)).run P w with
  | ok u w1 => rw [hr] at this; simp at this; rw [this.1, this.2]
  | halt x w1 => rw [hr] at this; simp [Result.andThen] at this
theorem resGo_spec (F : Fit g γ S n a) (C : Cx g S w0 D A w) (gf : ResultVar → Sem Value) (h1 : ∀ t, (gf (.tmp t)) = pure (a.tmps.getD t undef)) (h2 : ∀ t ty v, (Instr.loadAt ty (a.tmps.getD t undef)).run P w = .ok v w → (gf (.cell t ty)).run P w = .ok v w) :
    ∀ (rs : List ResultVar) (ts : List TypeId) (i : Nat) (l : List (Nat × SV)), rs.length = ts.length → resGo P S (rs.zip ts) i = some l → ResOk g S i l ∧ l.length = rs.length ∧ (rs.mapM gf).run P w = .ok (l.map fun p => encS g p.2) w
  | [], [], i, l, _, h => by
    simp only [List.zip_nil_left, resGo, Option.some.injEq] at h
    subst h
    exact ⟨⟨rfl, (fun p hp => by cases hp), (fun p hp => by cases hp)⟩, rfl, by simp⟩
  | [], _ :: _, i, l, hl, h => by simp at hl
  | _ :: _, [], i, l, hl, h => by simp at hl
  | .tmp u :: rs, t :: ts, i, l, hl, h => by
    simp only [List.zip_cons_cons, resGo] at h
    split at h
    · rename_i v vs hv hvs
      cases h
      obtain ⟨r, hlen, hr⟩ := resGo_spec F C gf h1 h2 rs ts (i + 1) vs (by simpa using hl) hvs
      obtain ⟨e1, e2, e3⟩ := opA_spec F hv
      obtain ⟨t1, t2, t3⟩ := typedV_enc (P := P) (g := g) (S := S) t v
      refine ⟨⟨?_, ?_, ?_⟩, by simp [hlen], ?_⟩
      · rw [List.map_cons, r.keys, List.length_cons]; exact range_keys i vs.length
      · intro p hp
        rcases List.mem_cons.1 hp with rfl | hp
        · exact t3 e2
        · exact r.ok p hp
      · intro p hp
        rcases List.mem_cons.1 hp with rfl | hp
        · simp only [t2]; exact e3
        · exact r.rs p hp
      · have e4 : a.tmps.getD u undef = encS g v := e1
        rw [List.mapM_cons]
        simp only [Sem.run_bind, h1, Sem.run_pure, Result.andThen_ok, hr, List.map_cons, t1, e4]
    · cases h
  | .cell u ty :: rs, t :: ts, i, l, hl, h => by
    simp only [List.zip_cons_cons, resGo] at h
    split at h
    · rename_i q vs hv hvs
      split at h
      · rename_i hq
        cases h
        obtain ⟨r, hlen, hr⟩ := resGo_spec F C gf h1 h2 rs ts (i + 1) vs (by simpa using hl) hvs
        obtain ⟨x, hx, hld⟩ := Option.bind_eq_some_iff.1 hv
        obtain ⟨e1, e2, e3⟩ := opA_spec F hx
        obtain ⟨g', L⟩ := ldS_spec F e1 e2 e3 hld
        have hq : q.news = [] := by simpa using hq
        have hok := L.ok
        have hrs := L.rs
        rw [hq, add_nil] at hok hrs
        have henc : encS g' q.v = encS g q.v := encS_ext _ (fun o ho => L.ext o (hrs o ho))
        obtain ⟨t1, t2, t3⟩ := typedV_enc (P := P) (g := g) (S := S) t q.v
        refine ⟨⟨?_, ?_, ?_⟩, by simp [hlen], ?_⟩
        · rw [List.map_cons, r.keys, List.length_cons]; exact range_keys i vs.length
        · intro p hp
          rcases List.mem_cons.1 hp with rfl | hp
          · exact t3 hok
          · exact r.ok p hp
        · intro p hp
          rcases List.mem_cons.1 hp with rfl | hp
          · simp only [t2]; exact hrs
          · exact r.rs p hp
        · have hrun := load_run (L.run _ _ _ _ C).2
          have := h2 u ty _ hrun
          rw [List.mapM_cons]
          simp only [Sem.run_bind, this, Result.andThen_ok, hr, Sem.run_pure, List.map_cons, t1, henc]
      · cases h
    · cases h
end
theorem vsOf_spec {g : Env} : ∀ {l : List (Nat × SV)} {vs : List V1}, vsOf l = some vs → (l.map fun p => encS g p.2) = vs.map (encV g) ∧ ((∀ p ∈ l, nrmS p.2 = true) → ∀ x ∈ vs, nrmV x = true) ∧ (∀ m, (∀ p ∈ l, ∀ o ∈ refS p.2, o < m) → ∀ x ∈ vs, ∀ o ∈ refV x, o < m)
  | [], vs, h => by simp only [vsOf, Option.some.injEq] at h; subst h; exact ⟨rfl, (fun _ x hx => by cases hx), (fun _ _ x hx => by cases hx)⟩
  | (t, .v x) :: l, vs, h => by
    simp only [vsOf, Option.map_eq_some_iff] at h
    obtain ⟨us, hu, rfl⟩ := h
    obtain ⟨q1, q2, q3⟩ := vsOf_spec (g := g) hu
    refine ⟨by simp only [List.map_cons, q1]; rfl, fun hn y hy => ?_, fun m hm y hy => ?_⟩
    · rcases List.mem_cons.1 hy with rfl | hy
      · exact hn _ (List.mem_cons_self ..)
      · exact q2 (fun p hp => hn p (List.mem_cons_of_mem _ hp)) y hy
    · rcases List.mem_cons.1 hy with rfl | hy
      · exact hm _ (List.mem_cons_self ..)
      · exact q3 m (fun p hp => hm p (List.mem_cons_of_mem _ hp)) y hy
  | (t, .tup xs) :: l, vs, h => by simp [vsOf] at h
theorem results_spec {g : Env} {l : List (Nat × SV)} {r : SV} (h : results l = some r) : encS g r = one1 (l.map fun p => encS g p.2) ∧ ((∀ p ∈ l, nrmS p.2 = true) → nrmS r = true) ∧ (∀ m, (∀ p ∈ l, ∀ o ∈ refS p.2, o < m) → ∀ o ∈ refS r, o < m) := by
  have tup : ∀ l : List (Nat × SV), l.length ≠ 1 → (vsOf l).map SV.tup = some r → encS g r = one1 (l.map fun p => encS g p.2) ∧ ((∀ p ∈ l, nrmS p.2 = true) → nrmS r = true) ∧ (∀ m, (∀ p ∈ l, ∀ o ∈ refS p.2, o < m) → ∀ o ∈ refS r, o < m) := by
    intro l hl h
    obtain ⟨vs, hv, rfl⟩ := Option.map_eq_some_iff.1 h
    obtain ⟨q1, q2, q3⟩ := vsOf_spec (g := g) hv
    refine ⟨?_, fun hn => List.all_eq_true.2 (q2 hn), fun m hm o ho => ?_⟩
    · rw [q1]
      have : vs.length ≠ 1 := by have := congrArg List.length q1; simp at this; omega
      match vs, this with
      | [], _ => rfl
      | _ :: _ :: _, _ => rfl
    · obtain ⟨x, hx, ho⟩ := List.mem_flatMap.1 ho
      exact q3 m hm x hx o ho
  match l, h with
  | [], h => exact tup [] (by simp) h
  | [(t, v)], h =>
    simp only [results, Option.some.injEq] at h
    subst h
    exact ⟨rfl, fun hn => hn _ (List.mem_cons_self ..), fun m hm o ho => hm _ (List.mem_cons_self ..) o ho⟩
  | p :: q :: l, h => exact tup (p :: q :: l) (by simp) h
end Go.Proofs.YthdgllldpfeelaaGreatDoor
/- A contract of a function that is walked. No condition. -/
set_option linter.unusedVariables false
set_option linter.unusedSimpArgs false
namespace Go.Proofs.YthdgllldpfeelaaGreatDoor
open Go
theorem keys_nodup (m : Nat) : ((List.range m).map (rB + ·)).Pairwise (· ≠ ·) := List.pairwise_map.2 (List.pairwise_lt_range.imp (fun h => by omega))
theorem look_of_mem : ∀ {l : List (Nat × SV)} {p : Nat × SV}, (l.map (·.1)).Pairwise (· ≠ ·) → p ∈ l → lookS l p.1 = some p.2
  | [], p, _, h => by cases h
  | q :: l, p, hn, h => by
    simp only [List.map_cons, List.pairwise_cons] at hn
    rcases List.mem_cons.1 h with e | h
    · rw [e]; simp [lookS]
    · have hne : q.1 ≠ p.1 := hn.1 p.1 (List.mem_map_of_mem h)
      simp only [lookS]
      rw [if_neg (by simpa using hne)]
      exact look_of_mem hn.2 h
section
variable {P : Program} {Γ : List Con} {inl : List Nat} {bk : List Bk}
/-- The end of a function: what it gives. -/
theorem end_spec {g g' : Env} {γ : Ghost} {S S' S2 : St} {n : Nat} {a a0 : Act} {w0 w : World} {D A : Nat → Prop} {fn : Func} {cc : Cls} {d : Nat → Prop} {y : DenL ((cc.cls.map (·.2)).map NSh.codes)}
    (F0 : Fit g γ { S with slots := [], mods := [] } n a0) (F : Fit g' γ S' n a) (C : Cx g' S' w0 D A w) (K : Kp g (fresh S) d g' S') (hw : withRes P fn S' = some S2) (hy : injR S.obs.length fn.results.size cc S2 = some y) :
    ∃ v, (Go.results fn a.tmps).run P w = .ok v w ∧ ∃ (i : Nat) (ds : List Dyn) (s : NSh) (N : Nst) (r : SV) (g'' : Env), (∀ (R : Type) (f : Nat → List Dyn → R), elimL ((cc.cls.map (·.2)).map NSh.codes) y f = f i ds) ∧ (cc.cls.map (·.2))[i]? = some s ∧ fiN s ds = some N ∧
      Go.Proofs.YthdgllldpfeelaaGreatDoor.results N.slots = some r ∧ v = encS g'' r ∧ nrmS r = true ∧ (∀ o ∈ refS r, o < (afterS S N).obs.length) ∧ Cal g'' (afterS S N) ∧ Cx g'' (afterS S N) w0 D A w ∧ Kp g { S with slots := [], mods := [] } (fun _ => True) g'' { afterS S N with mods := N.boxes.map (·.1) } := by
  unfold withRes at hw
  split at hw
  · rename_i hsz
    obtain ⟨l, hl, rfl⟩ := Option.map_eq_some_iff.1 hw
    have key := fun gf h1 h2 => resGo_spec F C gf h1 h2 fn.results.toList fn.resultTypes.toList 0 l (by simpa using hsz) hl
    have ld : ∀ (t : Nat) (ty : TypeId) (v : Value), (Instr.loadAt ty (a.tmps.getD t undef)).run P w = .ok v w → (do loadVar ty (← asAddr (a.tmps.getD t undef)) : Sem Value).run P w = .ok v w := by
      intro t ty v h
      generalize a.tmps.getD t undef = x at h ⊢
      unfold Instr.loadAt Instr.sureAddr at h
      split at h
      · rename_i ad; simpa [asAddr] using h
      · simp [Result.andThen] at h
    obtain ⟨RO, hlen, _⟩ := key (fun r => match r with | .tmp t => pure (a.tmps.getD t undef) | .cell u ty => do loadVar ty (← asAddr (a.tmps.getD u undef))) (fun t => rfl) ld
    have hll : l.length = fn.results.size := by simpa using hlen
    have hkeys : l.map (·.1) = (List.range fn.results.size).map (rB + ·) := by
      rw [RO.keys, hll]
      simp
    refine ⟨one1 (l.map fun p => encS g' p.2), ?_, ?_⟩
    · have e : fn.results = fn.results.toList.toArray := by simp
      unfold Go.results
      rw [e]
      simp only [List.mapM_toArray, Sem.run_bind, Sem.run_map]
      rw [(key _ (fun t => rfl) ld).2.2]
      simp only [Result.andThen_ok, Sem.run_pure]
      generalize (l.map fun p => encS g' p.2) = vs
      match vs with
      | [] => rfl
      | [v] => rfl
      | _ :: _ :: _ => simp [one1]
    unfold injR at hy
    split at hy
    · rename_i N pl hN
      split at hy
      · rename_i hc
        simp only [Bool.and_eq_true, decide_eq_true_eq] at hc
        obtain ⟨⟨⟨⟨c1, c2⟩, c3⟩, c4⟩, c5⟩ := hc
        split at hy
        · rename_i i hi
          obtain ⟨_, s, hs, hle⟩ := findCls_spec hi
          rw [Nat.sub_zero] at hs
          obtain ⟨n1, n2, n3⟩ := norm_nrm hN
          obtain ⟨N', hf, W⟩ := fiN_co n1 n2 n3 hle
          obtain ⟨r, hr⟩ := Option.isSome_iff_exists.1 c4
          -- the state with its results
          obtain ⟨γ1, hγ1⟩ : ∃ γ1 : Ghost, γ1 = ⟨fun t => if rG ≤ t then undef else match lookS l t with | some sv => encS g' sv | none => undef, γ.ds, γ.lo, fun t ht => .inl (if_pos ht)⟩ := ⟨_, rfl⟩
          have hkey : ∀ {t : Nat} {sv : SV}, lookS l t = some sv → t ∈ (List.range fn.results.size).map (rB + ·) ∧ (t, sv) ∈ l := fun {t sv} h => by
            have hm := look_mem h
            exact ⟨by rw [← hkeys]; exact List.mem_map_of_mem hm, hm⟩
          have hbig : ∀ {t : Nat}, t ∈ (List.range fn.results.size).map (rB + ·) → ¬ t < shift := fun {t} h => by
            obtain ⟨j, _, rfl⟩ := List.mem_map.1 h
            simp only [rB, shift]; omega
          have hlow : ∀ {t : Nat}, t ∈ (List.range fn.results.size).map (rB + ·) → ¬ rG ≤ t := fun {t} h => by
            obtain ⟨j, hj, rfl⟩ := List.mem_map.1 h
            have := List.mem_range.1 hj
            simp only [rB, rG, shift]; omega
          have F2 : Fit g' γ1 { S' with slots := l } n a := by
            refine ⟨F.size, F.lo, by rw [hγ1]; exact F.defers, fun t sv h => ?_, F.ob, fun t sv h => RO.ok _ (hkey h).2, fun t sv h => RO.rs _ (hkey h).2, F.rb⟩
            rw [if_neg (hbig (hkey h).1), hγ1]
            have h' : lookS l t = some sv := h
            simp only [if_neg (hlow (hkey h).1), h']
          have F1 : Fit g γ1 { S with slots := [], mods := [] } n a0 := ⟨F0.size, F0.lo, by rw [hγ1]; exact F0.defers, (fun t sv h => by cases h), F0.ob, (fun t sv h => by cases h), (fun t sv h => by cases h), F0.rb⟩
          have K2 : Kp g { S with slots := [], mods := [] } (fun t => t ∈ (List.range fn.results.size).map (rB + ·)) g' { S' with slots := l } := by
            refine ⟨K.len, K.vb, K.same, (fun i h => by cases h), fun t ht => ?_, K.rows⟩
            show lookS l t = none
            cases hlk : lookS l t with
            | none => rfl
            | some sv => exact absurd (hkey hlk).1 ht
          obtain ⟨dfs, hdfs⟩ := bits_all ((List.range fn.results.size).map (rB + ·))
          obtain ⟨g'', q1, q2, q3⟩ := join_spec (S := { S with slots := [], mods := [] }) (base := { S with slots := [], mods := [] }) rfl rfl F1 F2 C K2 (fun t ht => hdfs t ht) hdfs hN c1 c2 W
          have e0 : (fillB { S with slots := [], mods := [] } dfs N').to .nil = { afterS S N' with mods := N'.boxes.map (·.1) } := by simp [fillB, afterS, St.to]
          have q1 := fit_to q1 .nil
          have q2 : Cx g'' ((fillB { S with slots := [], mods := [] } dfs N').to .nil) w0 D A w := q2
          have q3 := kp_to q3 .nil
          rw [e0] at q1 q2 q3
          have hr' : Go.Proofs.YthdgllldpfeelaaGreatDoor.results N'.slots = some r := by rw [W.slots]; exact hr
          obtain ⟨r1, r2, r3⟩ := results_spec (g := g'') hr'
          have hNk : N'.slots.map (·.1) = (List.range fn.results.size).map (rB + ·) := by rw [W.slots]; exact c3
          have nd1 : (N'.slots.map (·.1)).Pairwise (· ≠ ·) := by rw [hNk]; exact keys_nodup _
          have nd2 : (l.map (·.1)).Pairwise (· ≠ ·) := by rw [hkeys]; exact keys_nodup _
          have hrs : ∀ p ∈ N'.slots, ∀ o ∈ refS p.2, o < (afterS S N').obs.length := fun p hp => q1.rs p.1 p.2 (look_of_mem nd1 hp)
          have hn' : ∀ p ∈ N'.slots, nrmS p.2 = true := by rw [W.slots]; exact n1
          refine ⟨i, coN N, s, N', r, g'', fun R f => injL_elim hy, by simp [hs], hf, hr', ?_, r2 hn', r3 _ hrs, ⟨q1.ob, hn', hrs, q1.rb⟩, q2, ?_⟩
          · rw [r1]
            congr 1
            apply List.ext_getElem?
            intro j
            simp only [List.getElem?_map]
            have hk : (l.map (·.1))[j]? = (N'.slots.map (·.1))[j]? := by rw [hkeys, hNk]
            simp only [List.getElem?_map] at hk
            cases h1 : l[j]? with
            | none =>
              rw [h1] at hk
              cases h2 : N'.slots[j]? with
              | none => rfl
              | some q => rw [h2] at hk; cases hk
            | some p =>
              rw [h1] at hk
              cases h2 : N'.slots[j]? with
              | none => rw [h2] at hk; cases hk
              | some q =>
                rw [h2] at hk
                simp only [Option.map_some, Option.some.injEq] at hk ⊢
                have h3 := look_of_mem nd2 (List.mem_of_getElem? h1)
                have h4 := q1.sl q.1 q.2 (look_of_mem nd1 (List.mem_of_getElem? h2))
                rw [← hk, if_neg (hbig (hkey h3).1), hγ1] at h4
                simpa only [if_neg (hlow (hkey h3).1), h3] using h4
          · exact ⟨q3.len, q3.vb, q3.same, (fun i hi => by cases hi), (fun t ht => absurd trivial ht), q3.rows⟩
        · cases hy
      · cases hy
    · cases hy
  · cases hw
end
end Go.Proofs.YthdgllldpfeelaaGreatDoor
/- Contracts of functions that are walked; functions walked in place. No condition. -/
set_option linter.unusedVariables false
set_option linter.unusedSimpArgs false
namespace Go.Proofs.YthdgllldpfeelaaGreatDoor
open Go
def startA (fn : Func) (args : List Value) : Act := { tmps := args.toArray ++ Array.replicate (fn.ntmps - args.length) undef, defers := [] }
theorem enter_spec {P : Program} {f : FuncId} {fn : Func} {body : Code} {args : List Value} {R : Ending → World → Prop} {w : World} (hf : P.funcs[f]? = some fn) (hb : fn.body = some body)
    (h : body.wpIn (FR none) 3 P (bodyPostM (FR none) 3 P fn R) (startA fn args) w) : Calls P f args.toArray w R := by
  have hc : CallsIn (FR none) 3 P f args.toArray w R := callsIn_of_wp_marks (F := FR none) hf hb trivial (by simpa [startA] using h) rfl
  exact callsIn_wide.1 (show CallsIn Fence.wide 3 P f args.toArray w R from hc)
/-- The marks are gone through: what is left is the world with their blocks shut. -/
theorem leaves_marks {P : Program} {fn : Func} {tmps : Array Value} {R : Ending → World → Prop} {g : Env} {S : St} {w0 : World} {D A : Nat → Prop} :
    ∀ (Ds : List Nat) (w : World), Ds.Pairwise (· ≠ ·) → (∀ D ∈ Ds, w0.heap.size ≤ D ∧ w.heap[D]? = some (.deferred (some []))) → Cx g S w0 D A w →
      (∀ w', Cx g S w0 D A w' → ∃ v, (Go.results fn tmps).run P w' = .ok v w' ∧ R (.returned v) w') → LeavesInM (FR none) 3 P fn tmps R (Ds.map markOf) .returning w
  | [], w, _, _, C, h => by
    obtain ⟨v, h1, h2⟩ := h w C
    exact ⟨v, h1, h2⟩
  | d :: Ds, w, hn, hD, C, h => by
    have hd := hD d (List.mem_cons_self ..)
    have hn := List.pairwise_cons.1 hn
    refine ⟨by simp, .inl ⟨d, _, rfl, run_takeDeferred hd.2, ?_⟩⟩
    refine leaves_marks Ds _ hn.2 (fun D' hD' => ?_) (cx_putobj C hd.2 rfl hd.1) h
    rw [World.putObj_heap_other (fun e => hn.1 D' hD' e.symm)]
    exact hD D' (List.mem_cons_of_mem _ hD')
theorem start_get {fn : Func} {args : List Value} {t : Nat} (h : t < args.length) : (startA fn args).tmps[t]? = args[t]? := by
  simp only [startA]
  rw [Array.getElem?_append_left (by simpa using h)]
  simp
theorem start_size {fn : Func} {args : List Value} (h : args.length ≤ fn.ntmps) : (startA fn args).tmps.size = fn.ntmps := by
  simp [startA]; omega
theorem fiList_len {α β : Type} {f : α → List Dyn → Option (β × List Dyn)} : ∀ {xs : List α} {ds ds' : List Dyn} {ys : List β}, fiList f xs ds = some (ys, ds') → ys.length = xs.length
  | [], ds, ds', ys, h => by simp only [fiList, Option.some.injEq, Prod.mk.injEq] at h; obtain ⟨rfl, _⟩ := h; rfl
  | x :: xs, ds, ds', ys, h => by
    simp only [fiList] at h
    split at h
    · split at h
      · rename_i h2
        simp only [Option.some.injEq, Prod.mk.injEq] at h
        obtain ⟨rfl, _⟩ := h
        simp [fiList_len h2]
      · cases h
    · cases h
theorem pat_len {pat : NSh} {x : HL pat.codes} {S : St} (h : patSt pat x = some S) : S.slots.length = pat.slots.length := by
  unfold patSt at h
  obtain ⟨N, hN, rfl⟩ := Option.map_eq_some_iff.1 h
  unfold fiN at hN
  split at hN
  · rename_i sl ds1 h1
    split at hN
    · obtain ⟨⟨os, d⟩, _, rfl⟩ := Option.map_eq_some_iff.1 hN
      simp [fillB, fiList_len h1]
    · cases hN
  · cases hN
section
variable {P : Program} {Γ : List Con} {inl : List Nat} {bk : List Bk}
theorem runF_ok (hm : P.follows .mixedOrders = true) (hbk : ∀ B ∈ bk, BkOk P B) {H : Nat → Inl} (hc : ∀ k, CallOk P (fun R A S f xs K => callF A P Γ k S f xs K)) (hi : ∀ k, CallOk P (fun R A S f xs K => H k f (typeArgs P f xs) R A S K))
    {f : Nat} {fn : Func} {body : Code} {pat : NSh} {cc : Cls} {pl : Plan} (hf : P.funcs[f]? = some fn) (hb : fn.body = some body) (hg : goodF P f pat.slots.length = true) :
    ConOk P ⟨f, pat, cc.cls.map (·.2), fun k x => runF P Γ inl (H k) bk k fn body pat cc pl x⟩ := by
  intro k x y S m gs hrun hpat hkeys hgb g w D A CAL C hglob
  simp only [goodF, hf, hb, Bool.and_eq_true, decide_eq_true_eq] at hg
  obtain ⟨⟨hok, hsh⟩, hlen⟩ := hg
  simp only [runF, hpat] at hrun
  obtain ⟨args, hargs⟩ : ∃ args, args = (S.slots.take m).map fun p => encS g p.2 := ⟨_, rfl⟩
  have hsl : S.slots.length = pat.slots.length := pat_len hpat
  have hml : S.slots.length = m + gs.length := by
    have := congrArg List.length hkeys
    simpa using this
  have hal : args.length = m := by rw [hargs, List.length_map, List.length_take]; omega
  have hle : args.length ≤ fn.ntmps := by omega
  rw [← hargs]
  have hS : ∀ {t : Nat} {sv : SV}, lookS S.slots t = some sv → (t < m ∧ args[t]? = some (encS g sv)) ∨ (∃ b, t = rG + b ∧ b < shift ∧ encS g sv = .pointer (some ⟨b, 0, none⟩)) := by
    intro t sv h
    obtain ⟨i, hi⟩ := List.mem_iff_getElem?.1 (look_mem h)
    have hk := congrArg (·[i]?) hkeys
    simp only [List.getElem?_map, hi, Option.map_some] at hk
    rcases Nat.lt_or_ge i m with him | him
    · left
      rw [List.getElem?_append_left (by simpa using him), List.getElem?_range him] at hk
      simp only [Option.some.injEq] at hk
      subst hk
      exact ⟨him, by rw [hargs, List.getElem?_map, List.getElem?_take_of_lt him, hi]; rfl⟩
    · right
      rw [List.getElem?_append_right (by simpa using him), List.length_range, List.getElem?_map] at hk
      obtain ⟨b, hb1, hb2⟩ := Option.map_eq_some_iff.1 hk.symm
      have hmem : (t, sv) ∈ S.slots.drop m := List.mem_of_getElem? (i := i - m) (by rw [List.getElem?_drop, show m + (i - m) = i by omega]; exact hi)
      have he := hglob _ hmem
      have hb2 : rG + b = t := hb2
      refine ⟨b, hb2.symm, hgb b (List.mem_of_getElem? hb1), ?_⟩
      rw [← hb2] at he
      rw [Nat.add_sub_cancel_left] at he
      exact he
  obtain ⟨γ0, gk, gds, glo⟩ : ∃ γ0 : Ghost, (∀ t sv, rG ≤ t → lookS S.slots t = some sv → γ0.f t = encS g sv) ∧ γ0.ds = [] ∧ γ0.lo = w.heap.size := by
    refine ⟨⟨fun t => if rG ≤ t then (match lookS S.slots t with | some sv => encS g sv | none => undef) else undef, [], w.heap.size, fun t ht => ?_⟩, fun t sv ht h => ?_, rfl, rfl⟩
    · rw [if_pos ht]
      cases hl : lookS S.slots t with
      | none => exact .inl rfl
      | some sv =>
        right
        rcases hS hl with ⟨h1, _⟩ | ⟨b, h1, h2, h3⟩
        · simp only [rG, shift] at ht hsh; omega
        · simp only
          rw [h3]
          have : t % shift = b := by simp only [rG, shift] at h1 h2 ⊢; omega
          rw [this]
    · simp only
      rw [if_pos ht, h]
  have F0 : Fit g γ0 (fresh S) fn.ntmps (startA fn args) := by
    refine ⟨start_size hle, hsh, gds.symm, fun t sv h => ?_, CAL.ob, fun t sv h => nrm_ok (CAL.ok _ (look_mem h)), fun t sv h => CAL.rs _ (look_mem h), CAL.rb⟩
    rcases hS h with ⟨h1, h2⟩ | ⟨b, h1, h2, h3⟩
    · rw [if_pos (by omega), start_get (by omega)]
      exact h2
    · have hr : rG ≤ t := by omega
      rw [if_neg (by simp only [rG, shift] at hr ⊢; omega)]
      exact gk t sv hr h
  refine enter_spec hf hb ?_
  refine exec_sound (Γ := Γ) (inl := inl) (bk := bk) (H := H k) (k := k) hm (hc k) (hi k) hbk body none [] (resBits fn) 0 hok (.inl rfl) hrun (fit_to F0 _) C ⟨by rw [glo]; exact Nat.le_refl _, [], by rw [gds]; rfl, List.Pairwise.nil, fun _ h => by cases h⟩ (fun g' γ' S' e a' w' h1 F' C' M' hf' K' => ?_)
  have fin : ∀ S2, withRes P fn S' = some S2 → injR S.obs.length fn.results.size cc S2 = some y → bodyPostM (FR none) 3 P fn (fun e w' => ∃ v, e = .returned v ∧ ∃ (i : Nat) (ds : List Dyn) (s : NSh) (N : Nst) (r : SV) (g' : Env), (∀ (R : Type) (f : Nat → List Dyn → R), elimL ((cc.cls.map (·.2)).map NSh.codes) y f = f i ds) ∧ (cc.cls.map (·.2))[i]? = some s ∧ fiN s ds = some N ∧
      Go.Proofs.YthdgllldpfeelaaGreatDoor.results N.slots = some r ∧ v = encS g' r ∧ nrmS r = true ∧ (∀ o ∈ refS r, o < (afterS S N).obs.length) ∧ Cal g' (afterS S N) ∧ Cx g' (afterS S N) w D A w' ∧ Kp g { S with slots := [], mods := [] } (fun _ => True) g' { afterS S N with mods := N.boxes.map (·.1) }) .ret a' w' := by
    intro S2 h2 h3
    have F1 : Fit g γ' { S with slots := [], mods := [] } fn.ntmps { startA fn args with defers := γ'.ds } := ⟨F0.size, F0.lo, rfl, (fun t sv h => by cases h), F0.ob, (fun t sv h => by cases h), (fun t sv h => by cases h), F0.rb⟩
    obtain ⟨_, Ds, d1, d2, d3⟩ := M'
    have hlo : γ'.lo = w.heap.size := hf'.lo.trans glo
    show LeavesInM (FR none) 3 P fn a'.tmps _ a'.defers .returning w'
    rw [F'.defers, d1]
    refine leaves_marks Ds w' d2 (fun D' hD' => by rw [← hlo]; exact d3 D' hD') C' (fun w2 C2 => ?_)
    obtain ⟨v, q1, q2⟩ := end_spec F1 F' C2 K'.of_to h2 h3
    exact ⟨v, q1, v, rfl, q2⟩
  cases e with
  | exit i => cases h1
  | normal =>
    simp only at h1
    split at h1
    · rename_i S2 h2; exact fin S2 h2 h1
    · cases h1
  | ret =>
    simp only at h1
    split at h1
    · rename_i S2 h2; exact fin S2 h2 h1
    · cases h1
end
end Go.Proofs.YthdgllldpfeelaaGreatDoor
