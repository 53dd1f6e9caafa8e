/- Texts of the proof, put together: part 3. No condition. -/
import Derived.Test.YtlepjakmadlkjaaGreatDoorT2
set_option linter.unusedVariables false
set_option linter.unusedSimpArgs false
namespace Go.Proofs.YtlepjakmadlkjaaGreatDoor
open Go
section
variable {P : Program} {g : Env} {γ : Ghost} {S : St} {n : Nat} {a : Act} {w0 w : World} {D A : Nat → Prop} {ρ : Operand → Value}
theorem wA {t : TypeId} {X : Operand} {ad : Addr} {m : Nat} {cs : List Value} {v : Value} (hx : ρ X = .pointer (some ad)) (hc : ∀ j u, cs[j]? = some u → w.cell? (ad.add j) = some u)
 (hv : (kq P t = true ∧ cs = [v]) ∨ (xt P t m = true ∧ cs.length = m ∧ v = .agg cs.toArray)) : cV P ρ (.load t X) w v w := by
 rcases hv with ⟨hs, rfl⟩ | ⟨hs, hl, rfl⟩
 ·refine tW hx ?_ hs
  have := hc 0 v rfl
  simpa [Addr.add] using this
 ·intro o ho
  obtain ⟨d, h1, h2, h3⟩ := BL hs
  subst hl
  have hl : (loadCells ad cs.length).run P w = .ok cs.toArray w := run_loadCells_list (P := P) w _ _ hc
  cases hq : P.info? t with
  | none => simp [hq] at h3
  | some q =>
    have hs' : q.size = cs.length := by simpa [hq] using h3
    have hagg : (isAgg t).run P w = .ok true w := by
     unfold isAgg
     rw [Sem.run_bind, run_underlying h1 w]
     cases d <;> simp_all
    simp only [execOp, ho, hx, Instr.loadAt, Instr.sureAddr, Sem.run_bind, Sem.run_pure, Result.andThen_ok, loadVar, hagg, if_true, sizeOf, typeInfo, run_program, hq, hs', hl]
theorem rU {l : Bool} {os : List Ob} {κ : Env} (hP : ∀ j, AO κ j (os.getD j .gone)) : ∀ (seg : List At) (n : Nat) (g : Env) (seg' : List At) (news : List Ob), xx l os seg n = some (seg', news) →
 ∃ g' : Env, (∀ i, (i < n ∨ n + news.length ≤ i) → g' i = g i) ∧ aw g' seg' = aw κ seg ∧ bU seg' = bU seg ∧ (∀ o ∈ seg'.flatMap aN, n ≤ o ∧ o < n + news.length) ∧
  ∀ (j : Nat) ob, news[j]? = some ob → ∃ q e t xs m0 fu0 m', os.getD q .gone = .row e t xs m0 fu0 ∧ sR l m0 = m' ∧ m' ≠ .own ∧ ob = .row e t xs m' false ∧ g' (n + j) = κ q
 | [], n, g, seg', news, h => by
   simp only [xx, Option.some.injEq, Prod.mk.injEq] at h
   obtain ⟨rfl, rfl⟩ := h
   exact ⟨g, fun _ _ => rfl, rfl, rfl, (fun o ho => by cases ho), (fun j ob hj => by simp at hj)⟩
 | .fl t x :: r, n, g, seg', news, h => by
   simp only [xx] at h
   obtain ⟨⟨s1, n1⟩, h1, he⟩ := Option.map_eq_some_iff.1 h
   cases he
   obtain ⟨g', q1, q2, q3, q4, q5⟩ := rU hP r n g s1 n1 h1
   refine ⟨g', q1, ?_, ?_, fun o ho => q4 o (by simpa [aN] using ho), q5⟩
   ·show ba g' (.fl t x) ++ aw g' s1 = ba κ (.fl t x) ++ aw κ r
    rw [q2]; rfl
   ·simp only [bU, List.map_cons, List.sum_cons] at q3 ⊢
    rw [q3]
 | .sl j0 :: r, n, g, seg', news, h => by
   have key : ∀ e t xs m0 fu0 m' s1 n1, os.getD j0 .gone = .row e t xs m0 fu0 → sR l m0 = m' → m' ≠ .own → xx l os r (n + 1) = some (s1, n1) → seg' = .sl n :: s1 → news = .row e t xs m' false :: n1 →
    ∃ g' : Env, (∀ i, (i < n ∨ n + news.length ≤ i) → g' i = g i) ∧ aw g' seg' = aw κ (.sl j0 :: r) ∧ bU seg' = bU (.sl j0 :: r) ∧ (∀ o ∈ seg'.flatMap aN, n ≤ o ∧ o < n + news.length) ∧
     ∀ (j : Nat) ob, news[j]? = some ob → ∃ q e t xs m0 fu0 m', os.getD q .gone = .row e t xs m0 fu0 ∧ sR l m0 = m' ∧ m' ≠ .own ∧ ob = .row e t xs m' false ∧ g' (n + j) = κ q := by
    rintro e t xs m0 fu0 m' s1 n1 p1 p2 p3 p4 rfl rfl
    obtain ⟨g', q1, q2, q3, q4, q5⟩ := rU hP r (n + 1) (fun i => if i = n then κ j0 else g i) s1 n1 p4
    have hn : g' n = κ j0 := by rw [q1 n (.inl (by omega))]; simp
    refine ⟨g', fun i hi => ?_, ?_, ?_, fun o ho => ?_, fun j ob hj => ?_⟩
    ·simp only [List.length_cons] at hi
     rw [q1 i (by omega), if_neg (by omega)]
    ·show ba g' (.sl n) ++ aw g' s1 = ba κ (.sl j0) ++ aw κ r
     rw [q2]; simp only [ba, hn]
    ·simp only [bU, List.map_cons, List.sum_cons] at q3 ⊢
     rw [q3]; rfl
    ·simp only [List.flatMap_cons, aN, List.cons_append, List.nil_append, List.mem_cons] at ho
     simp only [List.length_cons]
     rcases ho with rfl | ho
     ·omega
     ·have := q4 o ho; omega
    ·cases j with
     | zero =>
       simp only [List.getElem?_cons_zero, Option.some.injEq] at hj
       exact ⟨j0, e, t, xs, m0, fu0, m', p1, p2, p3, hj.symm, hn⟩
     | succ j =>
       obtain ⟨q, r1⟩ := q5 j ob (by simpa using hj)
       exact ⟨q, by rw [show n + (j + 1) = n + 1 + j by omega]; exact r1⟩
   simp only [xx] at h
   cases ho : os.getD j0 .gone with
   | row e t xs m0 fu0 =>
     rw [ho] at h
     simp only [aZ] at h
     cases hm : sR l m0 with
     | own => rw [hm] at h; cases h
     | rd =>
       rw [hm] at h
       obtain ⟨⟨s1, n1⟩, h1, he⟩ := Option.map_eq_some_iff.1 h
       cases he
       exact key e t xs m0 fu0 .rd s1 n1 ho hm (by decide) h1 rfl rfl
     | lent =>
       rw [hm] at h
       obtain ⟨⟨s1, n1⟩, h1, he⟩ := Option.map_eq_some_iff.1 h
       cases he
       exact key e t xs m0 fu0 .lent s1 n1 ho hm (by decide) h1 rfl rfl
   | _ => rw [ho] at h; cases h
 | .lit _ :: _, n, g, seg', news, h => by cases h
 | .nils _ _ :: _, n, g, seg', news, h => by cases h
 | .nil0 :: _, n, g, seg', news, h => by cases h
 | .nilr _ _ :: _, n, g, seg', news, h => by cases h
 | .ptr _ _ :: _, n, g, seg', news, h => by cases h
 | .pel _ _ _ :: _, n, g, seg', news, h => by cases h
 | .asl _ _ _ :: _, n, g, seg', news, h => by cases h
 | .nilp :: _, n, g, seg', news, h => by cases h
 | .nilf :: _, n, g, seg', news, h => by cases h
 | .nili :: _, n, g, seg', news, h => by cases h
 | .un :: _, n, g, seg', news, h => by cases h
theorem ut (F : Fit g γ S n a) {t : TypeId} {X : Operand} {x : SV} {q : Qt} (hx : a.eval X = aq g x) (hok : okS S x) (hr : ∀ o ∈ aL x, o < S.obs.length) (h : ldS P S t x = some q) (hp : q.p) : ∃ g', Looks P g γ S n a (.load t X) q g' := by
 unfold ldS at h
 split at h
 ·rename_i b off
  split at h
  ·rename_i T ls m hb hm
   obtain ⟨v, hv, rfl⟩ := Option.map_eq_some_iff.1 h
   obtain ⟨seg, hseg, hof⟩ := Option.bind_eq_some_iff.1 hv
   obtain ⟨pre, post, e, s1, s2⟩ := lE hseg
   have hrf := kE hof
   have hcells := eY g (pre := pre) (seg := seg) (post := post) s1 s2
   rw [← e] at hcells
   have hlen : (aw g seg).length = m := by rw [bu, s2]
   refine ⟨g, gV F (hrf.2 S) (fun o ho => ?_) (fun w0 D A w C => ?_)⟩
   ·rw [hrf.1] at ho
    exact F.rb b T ls hb o (by rw [e]; simp only [List.flatMap_append, List.mem_append]; exact .inr (.inl ho))
   ·have hbx := rT C hb
    have Cc : Ctx w _ nob [dJ false (g b).b T (aw g ls)] [] w := xG (E := dJ false (g b).b T (aw g ls)) hbx
    rcases gU hof hm s2 with ⟨hs, y, hy, hc, rfl⟩ | ⟨hs, he⟩
    ·have h1 := nG g hc
     have hm1 : m = 1 := by rw [← hlen, hy]; simp [aw, h1]
     subst hm1
     have : aw g seg = [aJ g y] := by rw [hy]; simp [aw, h1]
     rw [this] at hcells
     have h2 := congrArg (·[0]?) hcells
     simp only [List.getElem?_take, List.getElem?_drop] at h2
     have h3 : (aw g ls)[off]? = some (aJ g y) := by simpa using h2
     exact Ix (li := 0) Cc rfl hx h3 hs
    ·rw [he g]
     exact El (li := 0) Cc rfl hx (by rw [hlen]; exact hcells) (by rw [hlen]; exact hs)
  ·cases h
 ·rename_i o sz i off
  split at h
  ·rename_i e u xs md fu m ho hm
   obtain ⟨v, hv, rfl⟩ := Option.map_eq_some_iff.1 h
   obtain ⟨seg, hseg, hof⟩ := Option.bind_eq_some_iff.1 hv
   obtain ⟨pre, post, es, s1, s2⟩ := lE hseg
   have hrf := kE hof
   obtain ⟨hi0, hi1, rfl⟩ := hok e u xs md fu ho
   have hob : obP g o (S.ob o) := F.ob o
   rw [ho] at hob
   obtain ⟨hrep, _, hfull⟩ := hob
   have hlt : i.toNat < xs.length := by omega
   obtain ⟨F1, hel, hsub⟩ := Ex (fun x c F h => gS u x c F h) xs _ _ hrep i.toNat hlt
   have hat : at_ u xs i = xs[i.toNat] := by simp [at_, List.getD_eq_getElem?_getD, hlt]
   have hinm : inner md ≠ .own := by cases md <;> simp [inner]
   rw [← hat] at hel
   obtain ⟨g', hx', hq, hst, href, hnew⟩ := lF (inner md) hinm u (at_ u xs i) S.obs.length g _ F1 hel
   have hseg' := eY g' (pre := pre) (seg := seg) (post := post) s1 s2
   rw [← es, hq] at hseg'
   have hlen : (aw g' seg).length = m := by rw [bu, s2]
   -- what the load gives, in every world in which the row may be read
   have hrun : ∀ w, Rds (g o).v xs.length u.sz (g o).cs w → cV P a.eval (.load t X) w (aq g' v) w := by
    intro w hrd
    refine wA (ρ := a.eval) (m := m) (cs := aw g' seg) hx ?_ ?_
    ·intro j y hu
     have hj : j < m := by have := (List.getElem?_eq_some_iff.1 hu).1; omega
     rw [← hseg', List.getElem?_take, if_pos hj, List.getElem?_drop, List.getElem?_take] at hu
     split at hu
     ·rw [List.getElem?_drop] at hu
      have hc := yq hrd hu
      obtain ⟨_, ao, c, hv', _, _, _, h2⟩ := hrd
      obtain ⟨ad, rfl, _⟩ := h2 _ y hu
      rw [hv'] at hc ⊢
      simp only [il, add_add] at hc ⊢
      rw [show i.toNat * u.sz + off + j = i.toNat * u.sz + (off + j) by omega]
      exact hc
     ·cases hu
    ·rcases gU hof hm s2 with ⟨hs, y, hy, hc, rfl⟩ | ⟨hs, he⟩
     ·refine .inl ⟨hs, ?_⟩
      rw [hy]
      have h1 := nG g' hc
      show aw g' [y] = [aJ g' y]
      simp [aw, h1]
     ·exact .inr ⟨hs, hlen, he g'⟩
   by_cases hemp : (aL v).isEmpty = true
   ·have hnil : aL v = [] := by simpa using hemp
    refine ⟨g, ?_⟩
    rw [if_pos hemp]
    refine gV F (hrf.2 S) (fun o ho => by rw [hnil] at ho; cases ho) (fun w0 D A w C => ?_)
    have := hrun w (jx C ho)
    rwa [eq (g := g) v (fun o ho => by rw [hnil] at ho; cases ho)] at this
   ·refine ⟨g', ?_⟩
    rw [if_neg hemp]
    have hext : Ext g g' S.obs.length := fun i hi => hx' i (.inl hi)
    refine ⟨hext, gb F hext (fun j ob hj => (hnew j ob hj).1) (fun j T ls hj => ?_), hrf.2 _, ?_, fun w0 D A w C => ⟨?_, hrun w (jx C ho)⟩⟩
    ·obtain ⟨_, _, _, _, he, _⟩ := hnew j _ hj
     cases he
    ·intro o ho
     rw [hrf.1] at ho
     have := href o (by rw [es]; simp only [List.flatMap_append, List.mem_append]; exact .inr (.inl ho))
     simp only [St.add, List.length_append]
     omega
    ·intro j ob hj
     obtain ⟨_, e', u', ys, rfl, hfs⟩ := hnew j ob hj
     have hR := C.okR o
     simp only [ho] at hR
     have hin : ∀ f ∈ (⟨(g' (S.obs.length + j)).v, ys.length, u'.sz, (g' (S.obs.length + j)).cs⟩ :: (g' (S.obs.length + j)).fs : List Fact), f ∈ (g o).fs := fun f hf => hsub f (hfs f hf)
     cases md with
     | own => exact ⟨fun b h => h.elim, trivial, .inr ⟨o, ⟨fun h f hf => (by rw [ho] at h; exact h f (hin f hf)), fun b ⟨f, hf, hb⟩ => by rw [ho]; exact ⟨f, hin f hf, hb⟩⟩, fun _ => by rw [ho]; rfl⟩⟩
     | rd => exact ⟨fun b h => h.elim, trivial, .inr ⟨o, ⟨fun h f hf => (by rw [ho] at h; exact h f (List.mem_cons_of_mem _ (hin f hf))), fun b ⟨f, hf, hb⟩ => by rw [ho]; exact ⟨f, List.mem_cons_of_mem _ (hin f hf), hb⟩⟩, fun _ => by rw [ho]; rfl⟩⟩
     | lent => exact ⟨fun b h => h.elim, trivial, .inr ⟨o, ⟨fun h f hf => (by rw [ho] at h; exact h f (List.mem_cons_of_mem _ (hin f hf))), fun b ⟨f, hf, hb⟩ => by rw [ho]; exact ⟨f, List.mem_cons_of_mem _ (hin f hf), hb⟩⟩, fun h => by cases h⟩⟩
  ·rename_i e d xs ho
   split at h
   ·rename_i ht
    cases h
    obtain ⟨rfl, rfl, hsc⟩ := ht
    have hp' : 0 ≤ (i : Int) ∧ (i : Int) < xs.length := hp
    have hP : FleetP (g o) e d xs none := by have := F.ob o; rwa [ho] at this
    refine ⟨g, gV F trivial hr (fun w0 D A w C => ?_)⟩
    have hrd := jG C ho
    have hlt : i.toNat < xs.length := by omega
    have hget : (g o).cs[i.toNat]? = some (.pointer (some ⟨gq (g o) i.toNat, 0, none⟩)) := by
     rw [hP.cs]
     simp [hlt]
    refine wA (ρ := a.eval) (m := 1) (cs := [.pointer (some ⟨gq (g o) i.toNat, 0, none⟩)]) hx ?_ (.inl ⟨hsc, rfl⟩)
    intro j y hu
    cases j with
    | zero =>
      simp only [List.getElem?_cons_zero, Option.some.injEq] at hu
      subst hu
      have hc := yq hrd hget
      obtain ⟨_, ao, c, hv', _, _, _, h2⟩ := hrd
      obtain ⟨ad, rfl, _⟩ := h2 _ _ hget
      rw [hv'] at hc ⊢
      simp only [il, add_add, Nat.mul_one, Nat.add_zero] at hc ⊢
      exact hc
    | succ j => simp at hu
   ·cases h
  ·cases h
 ·rename_i o k off
  split at h
  ·rename_i e d xs m ho hm
   split at h
   ·rename_i T ls os hos
    split at h
    ·rename_i seg hseg
     split at h
     ·rename_i seg' news hrel
      obtain ⟨v, hof, rfl⟩ := Option.map_eq_some_iff.1 h
      have hp' : 0 ≤ (k : Int) ∧ (k : Int) < xs.length := hp
      have hP : FleetP (g o) e d xs none := by have := F.ob o; rwa [ho] at this
      have hlt : k.toNat < xs.length := by omega
      have hat : xs[k.toNat]? = some (at_ (bm d) xs k) := by simp only [at_, List.getD_eq_getElem?_getD, List.getElem?_eq_getElem hlt, Option.getD_some]
      obtain ⟨x, hx2⟩ : ∃ x, x = at_ (bm d) xs k := ⟨_, rfl⟩
      rw [← hx2] at hos hat
      have hkb := hP.kb k.toNat hlt
      have hkid : ∀ j, bq d x j = (Ob.box T ls :: os).getD j .gone := fun j => by simp only [bq, hos, Option.getD_some]
      have hT : bq d x 0 = .box T ls := by rw [hkid]; rfl
      obtain ⟨pre, post, e1, s1, s2⟩ := lE hseg
      have hrf := kE hof
      obtain ⟨κ, hκ⟩ : ∃ κ, κ = dL (g o) k.toNat := ⟨_, rfl⟩
      have hcells := eY κ (pre := pre) (seg := seg) (post := post) s1 s2
      rw [← e1] at hcells
      have hK := hP.kid k.toNat x hat (by simp)
      rw [← hκ] at hK
      obtain ⟨g', hx', henc, hsz, hrefs, hnew⟩ := rU (l := d.l) (κ := κ) (fun j => by rw [← hkid]; exact hK.ob j) seg S.obs.length g seg' news hrel
      have hlen : (aw κ seg).length = m := by rw [bu, s2]
      have hext : Ext g g' S.obs.length := fun i hi => hx' i (.inl hi)
      refine ⟨g', hext, gb F hext (fun j ob hj => ?_) (fun j T ls hj => ?_), hrf.2 _, ?_, fun w0 D A w C => ⟨?_, ?_⟩⟩
      ·obtain ⟨q, e', t', ys, m0, fu0, m', q1, q2, q3, rfl, q5⟩ := hnew j ob hj
       have h0 := hK.ob q
       rw [hkid, q1] at h0
       show obP g' (S.obs.length + j) (.row e' t' ys m' false)
       simp only [obP, q5]
       exact ⟨h0.1, h0.2.1, fun h => by cases h⟩
      ·obtain ⟨q, e', t', ys, m0, fu0, m', q1, q2, q3, q4, q5⟩ := hnew j _ hj
       cases q4
      ·intro o ho
       rw [hrf.1] at ho
       have := hrefs o ho
       simp only [St.add, List.length_append]
       omega
      ·intro j ob hj
       obtain ⟨q, e', t', ys, m0, fu0, m', q1, q2, q3, rfl, q5⟩ := hnew j ob hj
       have hpr : aY (g o) d xs none (k.toNat, q) = az g' (S.obs.length + j) (.row e' t' ys m' false) := by
        simp only [aY, hat, hkid, q1, aZ, q2, ← hκ]
        cases m' with
        | own => exact absurd rfl q3
        | rd => simp only [if_neg (show ¬ (none : Option Nat) = some k.toNat by simp), cG, az, q5]
        | lent => simp only [if_neg (show ¬ (none : Option Nat) = some k.toNat by simp), cG, az, q5]
       refine ⟨fun b h => by cases m' <;> first | exact absurd rfl q3 | exact h.elim, by cases m' <;> first | exact absurd rfl q3 | trivial, .inr ⟨o, ⟨fun h => ?_, fun b hb => ?_⟩, fun h => ?_⟩⟩
       ·rw [ho] at h; rw [← hpr]; exact h (k.toNat, q)
       ·rw [ho]; exact ⟨(k.toNat, q), by rw [hpr]; exact hb⟩
       ·rw [ho]
        show d.l = false
        cases hl : d.l with
        | false => rfl
        | true => rw [hl] at q2; simp only [sR] at q2; subst q2; cases h
      ·have hbx : (dJ false (gq (g o) k.toNat) T (aw κ ls)).ok w := by
        have := C.okL o
        simp only [ho] at this
        have := this (some (k.toNat, 0))
        simp only [aF, hat, hT, aZ, cF, qH, ← hκ] at this
        rw [← hkb, ← hκ]
        exact this
       have Cc : Ctx w _ nob [dJ false (gq (g o) k.toNat) T (aw κ ls)] [] w := xG (E := dJ false (gq (g o) k.toNat) T (aw κ ls)) hbx
       rw [← henc] at hcells hlen
       rcases gU hof hm (by rw [hsz]; exact s2) with ⟨hs, y, hy, hc, rfl⟩ | ⟨hs, he⟩
       ·have h1 := nG g' hc
        have hm1 : m = 1 := by rw [← hlen, hy]; simp [aw, h1]
        subst hm1
        have : aw g' seg' = [aJ g' y] := by rw [hy]; simp [aw, h1]
        rw [this] at hcells
        have h2 := congrArg (·[0]?) hcells
        simp only [List.getElem?_take, List.getElem?_drop] at h2
        have h3 : (aw κ ls)[off]? = some (aJ g' y) := by simpa using h2
        exact Ix (li := 0) Cc rfl hx h3 hs
       ·rw [he g']
        exact El (li := 0) Cc rfl hx (by rw [hlen]; exact hcells) (by rw [hlen]; exact hs)
     ·cases h
    ·cases h
   ·cases h
  ·cases h
 ·rename_i b off u m i
  split at h
  ·rename_i T ls hb
   split at h
   ·rename_i m' u' vec rest hs
    split at h
    ·rename_i ht
     cases h
     obtain ⟨rfl, rfl, h3, h4⟩ := ht
     obtain ⟨pre, e, hps⟩ := du _ _ _ hs
     refine ⟨g, gV F trivial (fun o ho => by cases ho) (fun w0 D A w C => ?_)⟩
     have hbx := rT C hb
     have Cc : Ctx w _ nob [dJ false (g b).b T (aw g ls)] [] w := xG (E := dJ false (g b).b T (aw g ls)) hbx
     have hok' : 0 ≤ i ∧ i < m' := hok
     refine K0 (F := am u') (n := m') (li := 0) (vec := vec) Cc rfl (off := off) ?_ (by rw [aK]; exact hx) hok'.1 hok'.2 (by rw [cX]; exact B0 h3 _) h4
     have := eY g (pre := pre) (seg := [.fl (.arr m' u') vec]) (post := rest) (n := m' * (am u').sz) hps (by simp [bU, At.sz, Ty.sz, aK])
     rw [e]
     simpa [aw, ba, am] using this
    ·cases h
   ·cases h
  ·cases h
 ·cases h
theorem E4 {t : TypeId} {x : SV} {q : Qt} (h : ldB P S t x = some q) : ldS P S t x = some q ∧ q.p := by
 unfold ldB at h
 split at h
 ·refine ⟨h, ?_⟩
  unfold ldS at h
  simp only at h
  split at h
  ·obtain ⟨v, _, rfl⟩ := Option.map_eq_some_iff.1 h
   trivial
  ·cases h
 ·cases h
theorem HQ {t : TypeId} {o sz off e : Nat} {i : Int} {u : Ty} {xs : List u.den} {m : Md} {fu : Bool} {q : Qt} (ho : S.ob o = .row e u xs m fu) (h : ldS P S t (.v (.elp o sz i off)) = some q) : q.p := by
 unfold ldS at h
 simp only [ho] at h
 split at h
 ·obtain ⟨v, _, rfl⟩ := Option.map_eq_some_iff.1 h
  trivial
 ·rename_i h1; cases h1
 ·cases h
end
end Go.Proofs.YtlepjakmadlkjaaGreatDoor
namespace Go.Proofs.YtlepjakmadlkjaaGreatDoor
open Go
section
variable {P : Program} {g : Env} {γ : Ghost} {S : St} {n : Nat} {a : Act} {w0 w : World} {D A : Nat → Prop} {ρ : Operand → Value}
theorem wB {x : Option SV} {r : Option Int} (h : mX x = some r) : x.map (aq g) = none ∧ r = none ∨ ∃ k i, x.map (aq g) = some (.int k i) ∧ r = some i := by
 unfold mX at h
 split at h
 ·cases h; exact .inl ⟨rfl, rfl⟩
 ·cases h; exact .inr ⟨_, _, rfl, rfl⟩
 ·cases h
theorem xH {x : Option SV} {r : Option Int} {N : Nat} (h : mX x = some r) (h0 : 0 ≤ r.getD N) (h1 : r.getD N ≤ N) : jt (x.map (aq g)) N = some (r.getD N).toNat := by
 rcases wB (g := g) h with ⟨e, rfl⟩ | ⟨k, i, e, rfl⟩ <;> rw [e]
 ·simp [jt]
 ·simp only [Option.getD_some] at h0 h1 ⊢; exact Er k i h0 h1
theorem xI {x : Option SV} {r : Option Int} {N : Nat} (h : mX x = some r) (h0 : 0 ≤ r.getD 0) (h1 : r.getD 0 ≤ N) : kr (x.map (aq g)) N = some (r.getD 0).toNat := by
 rcases wB (g := g) h with ⟨e, rfl⟩ | ⟨k, i, e, rfl⟩ <;> rw [e]
 ·simp [kr]
 ·simp only [Option.getD_some] at h0 h1 ⊢; exact qy k i h0 h1
theorem fY (F : Fit g γ S n a) {x : Option Operand} {r : Option SV} (h : opO S x = some r) : x.map a.eval = r.map (aq g) := by
 cases x with
 | none => simp only [opO, Option.some.injEq] at h; subst h; rfl
 | some x =>
   obtain ⟨v, hv, rfl⟩ := Option.map_eq_some_iff.1 h
   simp [(aD F hv).1]
theorem E5 {α : Type} (h : Option Int) (xs : List α) : yF h xs = xs.take (h.getD xs.length).toNat := by
 cases h <;> simp [yF]
theorem E6 {α : Type} (l : Option Int) (xs : List α) : yG l xs = xs.drop (l.getD 0).toNat := by
 cases l <;> simp [yG]
theorem HR (F : Fit g γ S n a) {t : TypeId} {X : Operand} {Lo Hi Mx : Option Operand} {o e : Nat} {u : Ty} {xs : List u.den} {md : Md} {fu : Bool} {lo hi mx : Option SV} {l h m : Option Int}
 (ho : S.ob o = .row e u xs md fu) (hmd : md ≠ .own) (hx : a.eval X = (g o).v) (hl : opO S Lo = some lo) (hh : opO S Hi = some hi) (hm : opO S Mx = some mx)
 (nl : mX lo = some l) (nh : mX hi = some h) (nm : mX mx = some m) (he : cg P t = some u.sz) (hmh : m.isSome = true → h.isSome = true ∧ py hi = py mx)
 (hp : 0 ≤ l.getD 0 ∧ l.getD 0 ≤ h.getD (xs.length : Int) ∧ h.getD (xs.length : Int) ≤ (xs.length : Int) ∧ m.getD (h.getD (xs.length : Int)) = h.getD (xs.length : Int)) {p : Prop} {dp : Decidable p} :
 ∃ g', Looks P g γ S n a (.slice t X Lo Hi Mx) ⟨p, dp, [.row e u (yG l (yF h xs)) md m.isSome], .v (.a (.sl S.obs.length))⟩ g' := by
 obtain ⟨p0, p1, p2, p3⟩ := hp
 have hob := F.ob o
 rw [ho] at hob
 obtain ⟨hrep, ⟨ao, c, hv, hnil⟩, _⟩ := hob
 obtain ⟨H, hH⟩ : ∃ H : Nat, H = (h.getD (xs.length : Int)).toNat := ⟨_, rfl⟩
 obtain ⟨L, hL⟩ : ∃ L : Nat, L = (l.getD 0).toNat := ⟨_, rfl⟩
 have hLH : L ≤ H := by omega
 have hHn : H ≤ xs.length := by omega
 have hys : yG l (yF h xs) = (xs.take H).drop L := by rw [E5, E6, hH, hL]
 have hyl : ((xs.take H).drop L).length = H - L := by simp; omega
 rw [hys]
 have hlen := fun x c F h => gS u x c F h
 obtain ⟨F1, F2, ef, k1, k2⟩ := jL hlen H xs _ _ hrep
 obtain ⟨F3, F4, ef', k3, k4⟩ := jL hlen L _ _ _ k1
 have hsub : ∀ f ∈ F4, f ∈ (g o).fs := fun f hf => by rw [ef, ef']; simp [hf]
 obtain ⟨V, hV⟩ : ∃ V, V = if m.isSome = true then qx (g o).v L H u.sz else ik (g o).v L H u.sz := ⟨_, rfl⟩
 have hsl : SlV V (H - L) := by
  rw [hV, hv]; split
  ·refine ⟨_, _, rfl, fun he => ?_⟩
   split at he
   ·omega
   ·have := hnil (by simpa using he); omega
  ·refine ⟨_, _, rfl, fun he => ?_⟩
   split at he
   ·have := hnil he; omega
   ·have := hnil (by simpa using he); omega
 have hone : V.oneCell' = true := hsl.one
 obtain ⟨g', hg'⟩ : ∃ g' : Env, g' = fun i => if i < S.obs.length then g i else ⟨V, hone, (0, fun _ => 0), ((g o).cs.take (H * u.sz)).drop (L * u.sz), F4, []⟩ := ⟨_, rfl⟩
 have hext : Ext g g' S.obs.length := fun i hi => by simp [hg', hi]
 have hnew : g' S.obs.length = ⟨V, hone, (0, fun _ => 0), ((g o).cs.take (H * u.sz)).drop (L * u.sz), F4, []⟩ := by simp [hg']
 have hh' : jt (Hi.map a.eval) xs.length = some H := by rw [fY F hh, hH]; exact xH nh (by omega) (by omega)
 have hl' : kr (Lo.map a.eval) H = some L := by rw [fY F hl, hL]; exact xI nl (by omega) (by omega)
 refine ⟨g', hext, ?_, trivial, ?_, fun w0 D A w C => ⟨?_, ?_⟩⟩
 ·refine gb F hext (fun j ob hj => ?_) (fun j T ls hj => ?_)
  ·match j with
   | 0 =>
     simp only [List.getElem?_cons_zero, Option.some.injEq] at hj
     subst hj
     refine ⟨by rw [Nat.add_zero, hnew]; exact k4, by rw [Nat.add_zero, hnew, hyl]; exact hsl, fun hf => ?_⟩
     rw [Nat.add_zero, hnew, hyl]
     simp only [hV, if_pos hf, hv, qx]
     refine ⟨_, rfl, fun he => ?_⟩
     split at he
     ·omega
     ·have := hnil (by simpa using he); omega
   | j + 1 => simp at hj
  ·match j with
   | 0 => simp at hj
   | j + 1 => simp at hj
 ·intro o' ho'
  simp only [aL, bi, aN, List.mem_singleton] at ho'
  simp [St.add, ho']
 ·intro j ob hj
  match j with
  | 0 =>
    simp only [List.getElem?_cons_zero, Option.some.injEq] at hj
    subst hj
    have hrd := jx C ho
    have hrd' : Rds V (H - L) u.sz (((g o).cs.take (H * u.sz)).drop (L * u.sz)) w := by
     rw [hV]; split
     ·exact Eo hrd hLH hHn
     ·exact Hx hrd hLH hHn
    have hadr : ∀ b, aT V = some b → aT (g o).v = some b := by
     rw [hV]; split
     ·exact CN _ _ _ _
     ·exact Ep _ _ _ _
    have hnn : ((g o).cs.take (H * u.sz)).drop (L * u.sz) ≠ [] → (g o).cs ≠ [] := fun h0 h1 => h0 (by simp [h1])
    have hR := C.okR o
    simp only [ho] at hR
    have main : ∀ q r : Bool, ((dK q (⟨V, H - L, u.sz, ((g o).cs.take (H * u.sz)).drop (L * u.sz)⟩ :: F4)).ok w) ∧
     ∀ b, (dK q (⟨V, H - L, u.sz, ((g o).cs.take (H * u.sz)).drop (L * u.sz)⟩ :: F4)).dom b → (dK r (⟨(g o).v, xs.length, u.sz, (g o).cs⟩ :: (g o).fs)).dom b := by
     intro q r
     have hfs : ∀ f ∈ (g o).fs, Rds f.v f.n f.sz f.cs w := by
      cases md with
      | own => exact absurd rfl hmd
      | rd => exact fun f hf => hR f (List.mem_cons_of_mem _ hf)
      | lent => exact fun f hf => hR f (List.mem_cons_of_mem _ hf)
     refine ⟨fun f hf => ?_, fun b ⟨f, hf, h1, h2⟩ => ?_⟩
     ·rcases List.mem_cons.1 hf with rfl | hf
      ·exact hrd'
      ·exact hfs f (hsub f hf)
     ·rcases List.mem_cons.1 hf with rfl | hf
      ·exact ⟨_, List.mem_cons_self .., hnn h1, hadr b h2⟩
      ·exact ⟨f, List.mem_cons_of_mem _ (hsub f hf), h1, h2⟩
    cases md with
    | own => exact absurd rfl hmd
    | rd => exact ⟨fun b h => h.elim, trivial, .inr ⟨o, ⟨fun _ => by simp only [az, Nat.add_zero, hnew, hyl]; exact (main false false).1, fun b hb => by simp only [az, Nat.add_zero, hnew, hyl] at hb; rw [ho]; exact (main false false).2 b hb⟩, fun _ => by rw [ho]; rfl⟩⟩
    | lent => exact ⟨fun b h => h.elim, trivial, .inr ⟨o, ⟨fun _ => by simp only [az, Nat.add_zero, hnew, hyl]; exact (main true true).1, fun b hb => by simp only [az, Nat.add_zero, hnew, hyl] at hb; rw [ho]; exact (main true true).2 b hb⟩, fun h => by cases h⟩⟩
  | j + 1 => simp at hj
 ·have hrd := jx C ho
  have hres : aq g' (.v (.a (.sl S.obs.length))) = V := by simp only [aq, aU, aJ, hnew]
  rw [hres, hV]
  split
  ·rename_i hms
   obtain ⟨hhs, hk⟩ := hmh hms
   refine En (dV hrd) hx he hh' hl' ?_
   rw [fY F hh, fY F hm]
   cases h with
   | none => simp at hhs
   | some h => cases m with
     | none => simp at hms
     | some m =>
       unfold mX at nh nm
       split at nh <;> simp only [Option.some.injEq, reduceCtorEq] at nh
       split at nm <;> simp only [Option.some.injEq, reduceCtorEq] at nm
       subst nh nm
       simp only [py, Option.some.injEq] at hk
       simp only [Option.getD_some] at p3
       subst hk
       have hHi : Hi.isSome = true := by
        cases Hi with
        | none => simp [opO] at hh
        | some _ => rfl
       rw [hHi]
       simp [aq, aU, aJ, p3]
  ·rename_i hms
   have : m = none := by cases m <;> simp_all
   subst this
   have hMx : Mx = none := by
    cases Mx with
    | none => rfl
    | some _ =>
      simp only [opO, Option.map_eq_some_iff] at hm
      obtain ⟨v, _, rfl⟩ := hm
      unfold mX at nm
      split at nm <;> simp at nm
      rename_i he
      cases he
   subst hMx
   exact nq (dV hrd) hx he hh' hl'
theorem yW {v : Value} {n : Nat} (h : SlV v n) : kz v = qx v 0 n 1 := by
 obtain ⟨ao, c, rfl, hn⟩ := h
 simp only [kz, qx, Nat.sub_zero, Nat.zero_mul]
 congr 1
 split
 ·rfl
 ·cases ao <;> simp [Addr.add]
theorem C8 (F : Fit g γ S n a) {t : TypeId} {X : Operand} {Lo Hi Mx : Option Operand} {o e : Nat} {d : Kd} {xs : List (bm d).den} {lo hi mx : Option SV} {h m : Option Int}
 (ho : S.ob o = .fleet e d xs none) (hx : a.eval X = (g o).v) (hl : opO S Lo = some lo) (hh : opO S Hi = some hi) (hm : opO S Mx = some mx)
 (nl : mX lo = some none) (nh : mX hi = some h) (nm : mX mx = some m) (he : cg P t = some 1) (hms : m.isSome = true) (hhs : h.isSome = true) (hk : py hi = py mx)
 (hp : h.getD (xs.length : Int) = (xs.length : Int) ∧ m.getD (h.getD (xs.length : Int)) = h.getD (xs.length : Int)) {w : World} (C : Cx g S w0 D A w) : cV P a.eval (.slice t X Lo Hi Mx) w (kz (g o).v) w := by
 obtain ⟨p2, p3⟩ := hp
 have hP : FleetP (g o) e d xs none := by have := F.ob o; rwa [ho] at this
 have hrd := jG C ho
 rw [yW hP.sl]
 have hh' : jt (Hi.map a.eval) xs.length = some xs.length := by
  rw [fY F hh]
  have := xH (g := g) (N := xs.length) nh (by omega) (by omega)
  rw [this, p2]; simp
 have hl' : kr (Lo.map a.eval) xs.length = some 0 := by
  rw [fY F hl]
  have := xI (g := g) (N := xs.length) nl (by simp) (by simp)
  rw [this]; rfl
 refine En (dV hrd) hx he hh' hl' ?_
 rw [fY F hh, fY F hm]
 cases h with
 | none => simp at hhs
 | some h => cases m with
   | none => simp at hms
   | some m =>
     unfold mX at nh nm
     split at nh <;> simp only [Option.some.injEq, reduceCtorEq] at nh
     split at nm <;> simp only [Option.some.injEq, reduceCtorEq] at nm
     subst nh nm
     simp only [py, Option.some.injEq] at hk
     simp only [Option.getD_some] at p3
     subst hk
     have hHi : Hi.isSome = true := by
      cases Hi with
      | none => simp [opO] at hh
      | some _ => rfl
     rw [hHi]
     simp [aq, aU, aJ, p3]
end
theorem yX : ∀ (us : List Value) (cs : List Value) (off k : Nat), k ≤ off → off + us.length ≤ cs.length →
 ((us.zipIdx k).foldl (fun (cs : Array Value) (p : Value × Nat) => cs.setIfInBounds (off - k + p.2) p.1) cs.toArray).toList = cs.take off ++ us ++ cs.drop (off + us.length)
 | [], cs, off, k, _, _ => by simp
 | u :: us, cs, off, k, hk, h => by
   simp only [List.length_cons] at h
   rw [List.zipIdx_cons, List.foldl_cons]
   have e : off - k + k = off := by omega
   have e2 : (cs.toArray.setIfInBounds (off - k + k) u) = (cs.set off u).toArray := by rw [e]; simp
   simp only [e2]
   have ih := yX us (cs.set off u) (off + 1) (k + 1) (by omega) (by simp; omega)
   rw [show off + 1 - (k + 1) = off - k by omega] at ih
   rw [ih]
   have hlt : off < cs.length := by omega
   rw [List.take_set, List.drop_set_of_lt (by omega)]
   have : (cs.take (off + 1)).set off u = cs.take off ++ [u] := by
    rw [List.take_add_one, List.getElem?_eq_getElem hlt]
    simp only [Option.toList_some]
    rw [List.set_append_right _ _ (by simp; omega)]
    simp [Nat.min_eq_left (Nat.le_of_lt hlt)]
   rw [this]
   simp [Nat.add_assoc, Nat.add_comm 1]
theorem oG {place : Nat → Option (Nat × Nat)} {cs : List Value} {j off : Nat} {v : Value} {us : List Value} {rest : List (Nat × Value)} (hp : place j = some (off, us.length)) (hv : v.cells.toList = us) (h : off + us.length ≤ cs.length) :
 Instr.fill place cs.toArray ((j, v) :: rest) = Instr.fill place (cs.take off ++ us ++ cs.drop (off + us.length)).toArray rest := by
 have hsz : v.cells.size = us.length := by rw [← hv]; simp
 have h1 : ¬ (v.cells.size ≠ us.length || decide (off + v.cells.size > cs.toArray.size)) = true := by
  simp [hsz]; omega
 simp only [Instr.fill, hp]
 rw [if_neg (by simpa using h1)]
 congr 1
 have := yX us cs off 0 (Nat.zero_le _) h
 simp only [Nat.sub_zero] at this
 apply Array.toList_inj.1
 rw [List.toList_toArray, ← this]
 have hz : v.cells.zipIdx = (us.zipIdx 0).toArray := by
  apply Array.toList_inj.1
  simp [← hv]
 rw [hz]
 simp
theorem AP {x y : Value} (h : EC x y = true) : x = y := by
 unfold EC at h
 split at h <;> first
  | (cases h; done)
  | rfl
  | (simp only [decide_eq_true_eq] at h; obtain ⟨rfl, rfl⟩ := h; rfl)
  | (simp only [decide_eq_true_eq] at h; subst h; rfl)
  | (simp only [decide_eq_true_eq] at h
     rename_i a b
     obtain ⟨⟨a⟩⟩ := a
     obtain ⟨⟨b⟩⟩ := b
     simp only at h
     subst h
     rfl)
theorem kG : ∀ {xs ys : List Value}, pJ xs ys = true → xs = ys
 | [], [], _ => rfl
 | [], _ :: _, h => by simp [pJ] at h
 | _ :: _, [], h => by simp [pJ] at h
 | x :: xs, y :: ys, h => by
   simp only [pJ, Bool.and_eq_true] at h
   rw [AP h.1, kG h.2]
theorem uu {P : Program} {t : TypeId} {ls : List At} (h : yB P t = some ls) (g : Env) : sN P t = some (aw g ls) ∧ ls.all gP = true ∧ ls.flatMap aN = [] := by
 unfold yB at h
 split at h
 ·rename_i ls' cs h1 h2
  split at h
  ·rename_i hc
   cases h
   simp only [Bool.and_eq_true] at hc
   have hr : ls.flatMap aN = [] := by simpa using hc.2
   refine ⟨?_, hc.1.2, hr⟩
   rw [h2, kG hc.1.1, ep (g := vL) (g' := g) ls (fun o ho => by rw [hr] at ho; cases ho)]
  ·cases h
 ·cases h
section
variable {P : Program} {g g' : Env} {γ : Ghost} {S : St} {n : Nat} {a : Act} {w0 w w' : World} {D A : Nat → Prop}
theorem AQ {v : SV} {ls : List At} (h : sQ v = some ls) : (∀ g, (aq g v).cells.toList = aw g ls) ∧ ls.all gP = true ∧ ls.flatMap aN = aL v := by
 unfold sQ at h
 split at h
 ·rename_i x
  split at h
  ·rename_i hs
   cases h
   exact ⟨fun g => by show (aJ g x).cells.toList = _; rw [um g x hs]; simp [aw], by simp [hs], by simp [aL, bi]⟩
  ·cases h
 ·rename_i ls'
  split at h
  ·rename_i hs
   cases h
   exact ⟨fun g => by simp [aq, aU, Value.cells], hs, rfl⟩
  ·cases h
 ·cases h
theorem kH {t : TypeId} {v : SV} {ls : List At} (h : sQ (ci P t v) = some ls) : (∀ g, (aq g v).cells.toList = aw g ls) ∧ ls.all gP = true ∧ ls.flatMap aN = aL v := by
 obtain ⟨h1, h2, h3⟩ := AQ h
 exact ⟨fun g => by rw [← (bP (P := P) (g := g) (S := ⟨[], [], [], .nil⟩) t v).1]; exact h1 g, h2, by rw [h3]; exact (bP (P := P) (g := vL) (S := ⟨[], [], [], .nil⟩) t v).2.1⟩
theorem lG {ls us ls' : List At} {off : Nat} (h : Az ls off us = some ls') : ∃ pre old post, ls = pre ++ (old ++ post) ∧ bU pre = off ∧ bU old = bU us ∧ ls' = pre ++ us ++ post := by
 simp only [Az, Option.bind_eq_some_iff, Option.map_eq_some_iff] at h
 obtain ⟨pre, h1, r, h2, old, h3, post, h4, rfl⟩ := h
 obtain ⟨q1, e1, s1⟩ := jQ _ _ _ h1
 obtain ⟨p2, e2, s2⟩ := du _ _ _ h2
 obtain ⟨q3, e3, s3⟩ := jQ _ _ _ h3
 obtain ⟨p4, e4, s4⟩ := du _ _ _ h4
 have inj : ∀ (a b c d : List At) (k : Nat), a ++ b = c ++ d → nu (a ++ b) k = some a → gC (c ++ d) k = some d → a = c := by
  intro a
  induction a with
  | nil =>
    intro b c d k e ht hs
    obtain ⟨_, _, s⟩ := jQ _ _ _ ht
    have hk : k = 0 := by simpa [bU] using s.symm
    subst hk
    cases c with
    | nil => rfl
    | cons y c =>
      exfalso
      simp only [gC, List.cons_append, Option.some.injEq] at hs
      have := congrArg List.length hs
      simp only [List.length_cons, List.length_append] at this
      omega
  | cons x a ih =>
    intro b c d k e ht hs
    cases k with
    | zero => simp [nu] at ht
    | succ k =>
      cases c with
      | nil =>
        exfalso
        simp only [List.nil_append] at e hs
        rw [← e] at hs
        simp only [List.cons_append, gC] at hs
        split at hs
        ·obtain ⟨p, e', _⟩ := du _ _ _ hs
         have := congrArg List.length e'
         simp at this
         omega
        ·cases hs
      | cons y c =>
        simp only [List.cons_append, List.cons.injEq] at e
        obtain ⟨rfl, e⟩ := e
        simp only [List.cons_append, nu, gC] at ht hs
        split at ht
        ·rename_i hsz
         rw [if_pos hsz] at hs
         obtain ⟨a', ha', he⟩ := Option.map_eq_some_iff.1 ht
         simp only [List.cons.injEq, true_and] at he
         subst he
         rw [ih b c d _ e ha' hs]
        ·cases ht
 have hpre : pre = p2 := inj pre q1 p2 r off (by rw [← e1, ← e2]) (by rw [← e1]; exact h1) (by rw [← e2]; exact h2)
 have hold : old = p4 := inj old q3 p4 post (bU us) (by rw [← e3, ← e4]) (by rw [← e3]; exact h3) (by rw [← e4]; exact h4)
 subst hpre hold
 exact ⟨pre, old, post, by rw [e2, e4], s1, s3, rfl⟩
theorem lH (g : Env) {pre old post us : List At} {off : Nat} (h1 : bU pre = off) (h2 : bU old = bU us) : dq (aw g (pre ++ (old ++ post))) off (aw g us) = aw g (pre ++ us ++ post) ∧ off + (aw g us).length ≤ (aw g (pre ++ (old ++ post))).length := by
 constructor
 ·simp only [dq, lD]
  rw [← h1, ← bu g pre, List.take_left]
  have : (aw g pre).length + (aw g us).length = (aw g pre ++ aw g old).length := by rw [List.length_append, bu g old, bu g us, h2]
  rw [this, ← List.append_assoc (aw g pre) (aw g old), List.drop_left]
 ·simp only [lD, List.length_append, bu, h1, h2]
  omega
theorem mh (F : Fit g γ S n a) : ∀ {ps : List (Nat × Operand)} {vs : List (Nat × SV)}, parts S ps = some vs → ps.map (fun p => (p.1, a.eval p.2)) = vs.map (fun p => (p.1, aq g p.2)) ∧ ∀ p ∈ vs, okS S p.2 ∧ ∀ o ∈ aL p.2, o < S.obs.length
 | [], vs, h => by simp [parts] at h; subst h; exact ⟨rfl, by simp⟩
 | (j, x) :: ps, vs, h => by
   simp only [parts] at h
   split at h
   ·rename_i v vs' hv hvs
    cases h
    obtain ⟨e1, e2, e3⟩ := aD F hv
    obtain ⟨h1, h2⟩ := mh F hvs
    refine ⟨by simp [e1, h1], fun p hp => ?_⟩
    rcases List.mem_cons.1 hp with rfl | hp
    ·exact ⟨e2, e3⟩
    ·exact h2 p hp
   ·cases h
end
section
variable {P : Program} {g : Env} {γ : Ghost} {S : St} {n : Nat} {a : Act} {w0 w : World} {D A : Nat → Prop} {ρ : Operand → Value}
theorem Tells.looks (F : Fit g γ S n a) {op : Op} {q : Qt} (h : Tells P a.eval g S op q) : Looks P g γ S n a op q g := by
 obtain ⟨p, dp, news, v⟩ := q
 obtain ⟨⟨h1, h2, h3⟩, h4⟩ := h
 simp only at h1
 subst h1
 exact gV F h2 h3 h4
theorem E7 {t : TypeId} {X : Operand} {b off m sz : Nat} (hx : ρ X = .pointer (some ⟨b, off, none⟩)) (ht : arrAt? P t = some (m, sz)) (w : World) :
 cV P ρ (.slice t X none none none) w (.slice (some ⟨b, off, none⟩) m m) w := by
 intro o ho
 unfold arrAt? at ht
 split at ht
 ·rename_i mm e hu
  obtain ⟨q, hq, hs⟩ := Option.map_eq_some_iff.1 ht
  cases hs
  simp [execOp, ho, Instr.sliceAt, run_underlying hu, hx, Instr.sureAddr, Instr.sliceBounds, sizeOf, typeInfo, hq, Addr.add]
 ·cases ht
theorem wC (F : Fit g γ S n a) {t : TypeId} {X : Operand} {Lo Hi Mx : Option Operand} {x : SV} {lo hi mx : Option SV} {q : Qt}
 (hx : a.eval X = aq g x) (hl : opO S Lo = some lo) (hh : opO S Hi = some hi) (hm : opO S Mx = some mx) (hr : ∀ o ∈ aL x, o < S.obs.length) (h : EG P S t x lo hi mx = some q) (hp : q.p) :
 ∃ g', Looks P g γ S n a (.slice t X Lo Hi Mx) q g' := by
 have noO : ∀ {Y : Option Operand} {y : Option SV}, opO S Y = some y → mX y = some none → Y = none := by
  intro Y y hy ny
  cases Y with
  | none => rfl
  | some _ =>
    simp only [opO, Option.map_eq_some_iff] at hy
    obtain ⟨v, _, rfl⟩ := hy
    unfold mX at ny
    split at ny <;> simp at ny
    rename_i he
    cases he
 unfold EG at h
 split at h
 ·rename_i s l h' nl nh nm
  split at h
  ·rename_i ht
   cases h
   have hp' : 0 ≤ l.getD 0 ∧ l.getD 0 ≤ h'.getD (s.size : Int) ∧ h'.getD (s.size : Int) ≤ (s.size : Int) := hp
   obtain rfl := noO hm nm
   refine ⟨g, gV F trivial (fun o ho => by cases ho) (fun _ _ _ w _ => ?_)⟩
   refine JZ hx (by simp [ht]) ?_ ?_
   ·rw [fY F hh]; exact xH nh (by omega) (by omega)
   ·rw [fY F hl]; exact xI nl (by omega) (by omega)
  ·cases h
 ·rename_i o l h' m nl nh nm
  split at h
  ·rename_i e u xs md fu ho
   split at h
   ·cases h
   ·rename_i hmd
    split at h
    ·rename_i hc
     cases h
     exact HR F ho hmd hx hl hh hm nl nh nm hc.1 hc.2 hp
    ·cases h
  ·rename_i e d xs ho
   split at h
   ·rename_i hc
    cases h
    obtain ⟨c1, rfl, c3, c4, c5⟩ := hc
    exact ⟨g, gV F trivial hr (fun _ _ _ w C => C8 F ho hx hl hh hm nl nh nm c1 c3 c4 c5 hp C)⟩
   ·cases h
  ·cases h
 ·rename_i b off nl nh nm
  split at h
  ·rename_i T ls hb
   split at h
   ·rename_i m u vec rest hs
    split at h
    ·rename_i hc
     cases h
     obtain rfl := noO hl nl
     obtain rfl := noO hh nh
     obtain rfl := noO hm nm
     exact ⟨g, gV F trivial hr (fun _ _ _ w _ => E7 hx hc.1 w)⟩
    ·cases h
   ·cases h
  ·cases h
 ·cases h
theorem B1 (C : Cx g S w0 D A w) {b T off m : Nat} {ls : List At} {u : Ty} {vec : Vector u.den m} {rest : List At} (hb : S.ob b = .box T ls) (hs : gC ls off = some (.fl (.arr m u) vec :: rest)) (hm : m ≤ 9223372036854775807) :
 Rds (.slice (some ⟨(g b).b, off, none⟩) m m) m u.sz ((am (.arr m u)).cells vec) w := by
 obtain ⟨pre, e, hps⟩ := du _ _ _ hs
 have hbx := rT C hb
 have hc := eY g (pre := pre) (seg := [.fl (.arr m u) vec]) (post := rest) (n := m * u.sz) hps (by simp [bU, At.sz, Ty.sz])
 rw [show pre ++ ([.fl (.arr m u) vec] ++ rest) = ls from e.symm] at hc
 have hc' : ((aw g ls).drop off).take (m * u.sz) = (am (.arr m u)).cells vec := by rw [hc]; simp [aw, ba]
 refine ⟨by rw [(am _).len, aK]; rfl, some ⟨(g b).b, off, none⟩, m, rfl, Nat.le_refl _, hm, (fun h => by cases h), fun j y hy => ⟨_, rfl, ?_⟩⟩
 have hj : j < m * u.sz := by
  have := (List.getElem?_eq_some_iff.1 hy).1
  rw [(am _).len, aK] at this
  exact this
 rw [bG, cell_of_row w (g b).b (off + j) _ T (0, 0) hbx]
 rw [← hc', List.getElem?_take, if_pos hj, List.getElem?_drop] at hy
 simpa using hy
theorem uv {u : Ty} {xs : List u.den} {l : List Int} (h : BT u xs = some l) : ∃ e : u = .int .u8, cast (congrArg (fun t : Ty => List t.den) e) xs = l := by
 unfold BT at h
 obtain ⟨e, he⟩ := dt h
 have : u = .int .u8 := by injection e
 subst this
 exact ⟨rfl, he⟩
theorem AR (F : Fit g γ S n a) {s d : TypeId} {X : Operand} {x : SV} {q : Qt} (hx : a.eval X = aq g x) (h : EH P S s d x = some q) : Tells P a.eval g S (.convert s d X) q := by
 unfold EH at h
 split at h
 ·rename_i k i
  split at h
  ·rename_i h1 h2
   cases h
   have hx : a.eval X = .int k i := hx
   exact ⟨⟨rfl, trivial, fun o h => by cases h⟩, fun _ _ _ w _ => aE (by simp only [dF, h1, h2, hx]; rfl) w⟩
  ·cases h
 ·rename_i o
  split at h
  ·rename_i e u xs m fu ho
   split at h
   ·rename_i ht
    obtain ⟨l, hl, rfl⟩ := Option.map_eq_some_iff.1 h
    obtain ⟨e', he'⟩ := uv hl
    subst e'
    simp only [cast_eq] at he'
    subst he'
    refine ⟨⟨rfl, trivial, fun o h => by cases h⟩, fun _ _ _ w C => ?_⟩
    have hob := F.ob o
    rw [ho] at hob
    have hf := ((bN (.int .u8) rfl _ _ _).1 hob.1).1
    have hrd := jx C ho
    rw [hf] at hrd
    exact Et hrd rfl hx ht
   ·cases h
  ·cases h
 ·split at h
  ·rename_i ht
   cases h
   exact ⟨⟨rfl, trivial, fun o h => by cases h⟩, fun _ _ _ w C => Et (l := []) (mb 1 w) rfl hx ht⟩
  ·cases h
 ·rename_i b off m
  split at h
  ·rename_i T ls hb
   split at h
   ·rename_i m' u vec rest hs
    split at h
    ·rename_i hc
     obtain ⟨ht, rfl, hm⟩ := hc
     obtain ⟨l, hl, rfl⟩ := Option.map_eq_some_iff.1 h
     obtain ⟨e, he⟩ := uv hl
     subst e
     simp only [cast_eq] at he
     subst he
     refine ⟨⟨rfl, trivial, fun o h => by cases h⟩, fun _ _ _ w C => ?_⟩
     have hrd := B1 C hb hs hm
     rw [oF] at hrd
     exact Et hrd (by simp) hx ht
    ·cases h
   ·cases h
  ·cases h
 ·cases h
theorem uw : ∀ {vs : List SV} {ls : List At}, ats vs = some ls → vs.map (aq g) = ls.map (aJ g) ∧ ls.flatMap aN = vs.flatMap aL
 | [], ls, h => by simp [ats] at h; subst h; exact ⟨rfl, rfl⟩
 | .v (.a x) :: r, ls, h => by
   simp only [ats, Option.map_eq_some_iff] at h
   obtain ⟨ls', h', rfl⟩ := h
   obtain ⟨h1, h2⟩ := uw h'
   exact ⟨by simp only [List.map_cons, h1]; rfl, by simp only [List.flatMap_cons, h2]; rfl⟩
 | .v (.elp _ _ _ _) :: r, ls, h => by simp [ats] at h
 | .v (.arp _ _ _ _ _) :: r, ls, h => by simp [ats] at h
 | .v (.fn _ _ _) :: r, ls, h => by simp [ats] at h
 | .v (.st _) :: r, ls, h => by simp [ats] at h
 | .tup _ :: r, ls, h => by simp [ats] at h
theorem jH (F : Fit g γ S n a) : ∀ {xs : List Operand} {vs : List SV}, ue S xs = some vs → xs.map a.eval = vs.map (aq g) ∧ ∀ o ∈ vs.flatMap aL, o < S.obs.length
 | [], vs, h => by simp [ue] at h; subst h; exact ⟨rfl, by simp⟩
 | x :: xs, vs, h => by
   simp only [ue, List.mapM_cons, Option.bind_eq_bind, Option.bind_eq_some_iff, Option.pure_def, Option.some.injEq] at h
   obtain ⟨v, hv, vs', h', rfl⟩ := h
   obtain ⟨h1, h2⟩ := jH F (vs := vs') h'
   obtain ⟨e1, _, e2⟩ := aD F hv
   refine ⟨by simp [e1, h1], fun o ho => ?_⟩
   simp only [List.flatMap_cons, List.mem_append] at ho
   rcases ho with ho | ho
   ·exact e2 o ho
   ·exact h2 o ho
theorem sU : ∀ {fs : List Field} {ps : List (Nat × Nat)} {j : Nat} {fd : Field} {m : Nat}, ju P fs = some ps → fs[j]? = some fd → cellsOf P fd.type = some m → ps[j]? = some (fd.offset, m)
 | [], ps, j, fd, m, h, hj, _ => by simp at hj
 | f :: fs, ps, j, fd, m, h, hj, hm => by
   simp only [ju] at h
   split at h
   ·rename_i i qs hi hq
    cases h
    match j with
    | 0 =>
      simp only [List.getElem?_cons_zero, Option.some.injEq] at hj
      subst hj
      simp only [cellsOf, hi, Option.map_some, Option.some.injEq] at hm
      simp [hm]
    | j + 1 => simpa using sU hq (by simpa using hj) hm
   ·cases h
theorem ux {t : TypeId} {fs : Array Field} {ps : List (Nat × Nat)} (hu : P.underlying t = some (.struct fs)) (hp : ju P fs.toList = some ps) : ∀ (vs : List (Nat × SV)) (zs ls : List At), yE P t zs vs = some ls →
 Instr.fill (fun j => ps.toArray[j]?) (aw g zs).toArray (vs.map fun p => (p.1, aq g p.2)) = some (aw g ls).toArray ∧ ∀ o ∈ ls.flatMap aN, o ∈ zs.flatMap aN ∨ o ∈ vs.flatMap (fun p => aL p.2)
 | [], zs, ls, h => by simp only [yE, Option.some.injEq] at h; subst h; exact ⟨rfl, fun o ho => .inl ho⟩
 | (j, v) :: vs, zs, ls, h => by
   simp only [yE] at h
   split at h
   ·rename_i ft off hf
    split at h
    ·rename_i us hus
     split at h
     ·rename_i hm
      obtain ⟨zs', hz, h⟩ := Option.bind_eq_some_iff.1 h
      obtain ⟨h1, h2, h3⟩ := kH hus
      obtain ⟨pre, old, post, q1, q2, q3, q4⟩ := lG hz
      obtain ⟨c1, c2⟩ := lH g (pre := pre) (old := old) (post := post) (us := us) q2 q3
      rw [← q1, ← q4] at c1
      rw [← q1] at c2
      obtain ⟨ih1, ih2⟩ := ux hu hp vs zs' ls h
      unfold nv at hf
      rw [hu] at hf
      obtain ⟨fd, hfd, he⟩ := Option.map_eq_some_iff.1 hf
      cases he
      have hpl := sU hp (j := j) (by simpa using hfd) hm
      refine ⟨?_, fun o ho => ?_⟩
      ·rw [List.map_cons, oG (us := aw g us) (off := fd.offset) (by rw [bu]; simpa using hpl) (h1 g) c2]
       have : (aw g zs).take fd.offset ++ aw g us ++ (aw g zs).drop (fd.offset + (aw g us).length) = aw g zs' := c1
       rw [this]; exact ih1
      ·rcases ih2 o ho with ho | ho
       ·rw [q4] at ho
        simp only [List.flatMap_append, List.mem_append] at ho
        rcases ho with (ho | ho) | ho
        ·exact .inl (by rw [q1]; simp only [List.flatMap_append, List.mem_append]; exact .inl ho)
        ·exact .inr (by simp only [List.flatMap_cons, List.mem_append]; rw [← h3]; exact .inl ho)
        ·exact .inl (by rw [q1]; simp only [List.flatMap_append, List.mem_append]; exact .inr (.inr ho))
       ·exact .inr (by simp only [List.flatMap_cons, List.mem_append]; exact .inr ho)
     ·cases h
    ·cases h
   ·cases h
theorem yY {t u : Ty} {x : t.den} {y : u.den} (h : ct (a := t) (b := u) x = some y) : (aJ g (.fl t x)).cells.toList = (am u).cells y := by
 obtain ⟨q, hq⟩ := dt h
 subst q
 subst hq
 rw [um g _ rfl]; rfl
theorem uy {u : Ty} {place : Nat → Option (Nat × Nat)} (hp : ∀ j, place j = some (j * u.sz, u.sz)) : ∀ (vs : List (Nat × SV)) (xs ys : List u.den), gD u xs vs = some ys →
 Instr.fill place (xs.flatMap (am u).cells).toArray (vs.map fun p => (p.1, aq g p.2)) = some (ys.flatMap (am u).cells).toArray
 | [], xs, ys, h => by simp only [gD, Option.some.injEq] at h; subst h; rfl
 | (j, .v (.a (.fl w x))) :: vs, xs, ys, h => by
  simp only [gD] at h
  split at h
  ·rename_i y hy
   split at h
   ·rename_i hlt
    have hcc := yY (g := g) hy
    have ih := uy hp vs _ ys h
    have hlen : (xs.flatMap (am u).cells).length = xs.length * u.sz := by rw [gR, aK]
    have hle : j * u.sz + u.sz ≤ xs.length * u.sz := by
     have : (j + 1) * u.sz ≤ xs.length * u.sz := Nat.mul_le_mul_right _ hlt
     rwa [Nat.add_mul, Nat.one_mul] at this
    have hfc := oG (cs := xs.flatMap (am u).cells) (us := (am u).cells y) (j := j) (off := j * u.sz) (v := aq g (.v (.a (.fl w x)))) (rest := vs.map fun p => (p.1, aq g p.2)) (place := place) (by rw [(am u).len, aK]; exact hp j) hcc
     (by have h1 : ((am u).cells y).length = u.sz := by rw [(am u).len, aK]
         rw [h1, hlen]; exact hle)
    rw [List.map_cons]
    show Instr.fill place _ ((j, aq g (.v (.a (.fl w x)))) :: _) = _
    rw [hfc]
    rw [(am u).len]
    have hs := qz (am u) xs j y hlt
    rw [aK] at hs ⊢
    rw [← hs]
    exact ih
   ·cases h
  ·cases h
 | (j, .v (.a (.lit _))) :: vs, xs, ys, h => by simp [gD] at h
 | (j, .v (.a (.sl _))) :: vs, xs, ys, h => by simp [gD] at h
 | (j, .v (.a (.nils _ _))) :: vs, xs, ys, h => by simp [gD] at h
 | (j, .v (.a .nil0)) :: vs, xs, ys, h => by simp [gD] at h
 | (j, .v (.a (.ptr _ _))) :: vs, xs, ys, h => by simp [gD] at h
 | (j, .v (.a (.asl _ _ _))) :: vs, xs, ys, h => by simp [gD] at h
 | (j, .v (.a .nilp)) :: vs, xs, ys, h => by simp [gD] at h
 | (j, .v (.a .nilf)) :: vs, xs, ys, h => by simp [gD] at h
 | (j, .v (.a .nili)) :: vs, xs, ys, h => by simp [gD] at h
 | (j, .v (.a .un)) :: vs, xs, ys, h => by simp [gD] at h
 | (j, .v (.elp _ _ _ _)) :: vs, xs, ys, h => by simp [gD] at h
 | (j, .v (.arp _ _ _ _ _)) :: vs, xs, ys, h => by simp [gD] at h
 | (j, .v (.fn _ _ _)) :: vs, xs, ys, h => by simp [gD] at h
 | (j, .v (.st _)) :: vs, xs, ys, h => by simp [gD] at h
 | (j, .tup _) :: vs, xs, ys, h => by simp [gD] at h
theorem yZ (F : Fit g γ S n a) {t : TypeId} {ps : Array (Nat × Operand)} {vs : List (Nat × SV)} {q : Qt} (hv : parts S ps.toList = some vs) (h : AD P t vs = some q) : Tells P a.eval g S (.build t ps) q := by
 obtain ⟨e1, e2⟩ := mh F hv
 have harr : (ps.map fun (i, x) => (i, a.eval x)).toList = vs.map fun p => (p.1, aq g p.2) := by
  rw [Array.toList_map]; exact e1
 unfold AD at h
 split at h
 ·split at h
  ·rename_i zs hz
   split at h
   ·rename_i hpl
    obtain ⟨ls, hls, rfl⟩ := Option.map_eq_some_iff.1 h
    obtain ⟨z1, z2, z3⟩ := uu hz g
    unfold wq at hpl
    split at hpl
    ·rename_i fs hu
     obtain ⟨pl, hpl⟩ := Option.isSome_iff_exists.1 hpl
     obtain ⟨f1, f2⟩ := ux (g := g) hu hpl vs zs ls hls
     refine ⟨⟨rfl, trivial, fun o ho => ?_⟩, fun _ _ _ w _ => BO ?_⟩
     ·rcases f2 o ho with h | h
      ·rw [z3] at h; cases h
      ·obtain ⟨p, hp, ho⟩ := List.mem_flatMap.1 h
       exact (e2 p hp).2 o ho
     ·rw [harr]
      unfold sN at z1
      obtain ⟨i, hi, hz2⟩ := Option.bind_eq_some_iff.1 z1
      obtain ⟨z, hz3, hz4⟩ := Option.map_eq_some_iff.1 hz2
      have hzc : z.cells = (aw g zs).toArray := by rw [← hz4]
      simp only [xu, hi, hu, hz3, hpl, hzc, f1, Option.map_some]
      rfl
    ·cases hpl
   ·cases h
  ·cases h
 ·split at h
  ·rename_i m u hty
   split at h
   ·rename_i xs hxs
    split at hxs
    ·rename_i hc
     split at h
     ·rename_i hlen
      cases h
      simp only [Bool.and_eq_true, beq_iff_eq] at hc
      obtain ⟨⟨hzd, hat⟩, hfl⟩ := hc
      unfold yC at hzd
      split at hzd
      ·rename_i cs hcs
       have hcs' := kG hzd
       unfold arrAt? at hat
       split at hat
       ·rename_i m' e hu
        obtain ⟨qi, hqi, he⟩ := Option.map_eq_some_iff.1 hat
        simp only [Prod.mk.injEq] at he
        obtain ⟨he1, hsz⟩ := he
        subst he1
        refine ⟨⟨rfl, trivial, fun o ho => by cases ho⟩, fun _ _ _ w _ => BO ?_⟩
        rw [harr]
        unfold sN at hcs
        obtain ⟨i, hi, hz2⟩ := Option.bind_eq_some_iff.1 hcs
        obtain ⟨z, hz3, hz4⟩ := Option.map_eq_some_iff.1 hz2
        have hzc : z.cells = ((List.replicate m' u.dflt).flatMap (am u).cells).toArray := by
         apply Array.toList_inj.1
         rw [hz4, hcs', oF]
         simp [Ty.dflt]
        have hfa := uy (g := g) (u := u) (place := fun j => some (j * qi.size, qi.size)) (fun j => by rw [hsz]) vs _ xs hxs
        simp only [xu, hi, hu, hz3, hqi, hzc, hfa, Option.map_some]
        show _ = some (aJ g (.fl (.arr m' u) _))
        simp only [aJ, oF]
        simp
       ·cases hat
      ·cases hzd
     ·cases h
    ·cases hxs
   ·cases h
  ·cases h
 ·cases h
theorem uz (F : Fit g γ S n a) {ty : TypeId} {op : Op} {q : Qt} (h : qC P S ty op = some q) (hp : q.p) : ∃ g', Looks P g γ S n a op q g' := by
 unfold qC at h
 split at h
 ·rename_i x
  obtain ⟨v, hv, rfl⟩ := Option.map_eq_some_iff.1 h
  obtain ⟨e1, e2, e3⟩ := aD F hv
  obtain ⟨t1, t2, t3⟩ := bP (P := P) (g := g) (S := S) ty v
  exact ⟨g, gV F (t3 e2) (by rw [t2]; exact e3) (fun _ _ _ w _ => by rw [t1, ← e1]; exact aE rfl w)⟩
 ·rename_i x
  obtain ⟨v, hv, rfl⟩ := Option.map_eq_some_iff.1 h
  obtain ⟨e1, e2, e3⟩ := aD F hv
  obtain ⟨t1, t2, t3⟩ := bP (P := P) (g := g) (S := S) ty v
  exact ⟨g, gV F (t3 e2) (by rw [t2]; exact e3) (fun _ _ _ w _ => by rw [t1, ← e1]; exact aE rfl w)⟩
 ·rename_i c x y
  split at h
  ·rename_i b hc
   obtain ⟨v, hv, rfl⟩ := Option.map_eq_some_iff.1 h
   obtain ⟨c1, _, _⟩ := aD F hc
   have c1 : a.eval c = .bool b := c1
   obtain ⟨e1, e2, e3⟩ := aD F hv
   obtain ⟨t1, t2, t3⟩ := bP (P := P) (g := g) (S := S) ty v
   refine ⟨g, gV F (t3 e2) (by rw [t2]; exact e3) (fun _ _ _ w _ => ?_)⟩
   rw [t1, ← e1]
   cases b <;> exact aE (by simp only [dF, c1]; rfl) w
  ·cases h
 ·rename_i x
  split at h <;> first
   | (cases h; done)
   | (rename_i hv
      cases h
      obtain ⟨e1, e2, e3⟩ := aD F hv
      exact ⟨g, gV F e2 e3 (fun _ _ _ w _ => aE (by simp only [dF, e1, aq, aU, aJ, nt]) w)⟩)
 ·split at h
  ·rename_i x y t' u v hx hy
   exact ⟨g, (CY (aD F hx).1 (aD F hy).1 h hp).looks F⟩
  ·cases h
 ·obtain ⟨v, hv, h⟩ := Option.bind_eq_some_iff.1 h
  exact ⟨g, (E2 (aD F hv).1 h).looks F⟩
 ·rename_i x i
  split at h
  ·rename_i vs hv
   obtain ⟨v, hi, rfl⟩ := Option.map_eq_some_iff.1 h
   obtain ⟨e1, e2, e3⟩ := aD F hv
   have hmem := List.mem_of_getElem? hi
   refine ⟨g, gV F (e2 v hmem) (fun o ho => e3 o (List.mem_flatMap.2 ⟨v, hmem, ho⟩)) (fun _ _ _ w _ => aE ?_ w)⟩
   simp only [dF, e1, aq]
   simp [hi]
  ·cases h
 ·obtain ⟨v, hv, h⟩ := Option.bind_eq_some_iff.1 h
  obtain ⟨e1, e2, e3⟩ := aD F hv
  exact ⟨g, (yV e1 e3 h).looks F⟩
 ·obtain ⟨v, hv, h⟩ := Option.bind_eq_some_iff.1 h
  obtain ⟨e1, e2, e3⟩ := aD F hv
  exact ⟨g, (yU e1 e2 e3 h).looks F⟩
 ·split at h
  ·rename_i x y hx hy
   obtain ⟨e1, e2, e3⟩ := aD F hx
   exact ⟨g, (C7 F.ob e1 (aD F hy).1 e3 h hp).looks F⟩
  ·cases h
 ·split at h
  ·rename_i x y hx hy
   exact ⟨g, (E3 (aD F hx).1 (aD F hy).1 h hp).looks F⟩
  ·cases h
 ·obtain ⟨v, hv, h⟩ := Option.bind_eq_some_iff.1 h
  obtain ⟨e1, e2, e3⟩ := aD F hv
  exact ut F e1 e2 e3 h hp
 ·obtain ⟨vs, hv, h⟩ := Option.bind_eq_some_iff.1 h
  exact ⟨g, (yZ F hv h).looks F⟩
 ·rename_i f fs cs
  split at h
  ·rename_i x y hx hy
   cases h
   obtain ⟨us, hus, hx⟩ := Option.bind_eq_some_iff.1 hx
   obtain ⟨vs, hvs, hy⟩ := Option.bind_eq_some_iff.1 hy
   obtain ⟨a1, a2⟩ := jH F hus
   obtain ⟨b1, b2⟩ := jH F hvs
   obtain ⟨c1, c2⟩ := uw (g := g) hx
   obtain ⟨d1, d2⟩ := uw (g := g) hy
   refine ⟨g, gV F trivial (fun o ho => ?_) (fun _ _ _ w _ => aE ?_ w)⟩
   ·simp only [aL, bi, List.mem_append, c2, d2] at ho
    rcases ho with ho | ho
    ·exact a2 o ho
    ·exact b2 o ho
   ·simp only [dF, aq, aU, Option.some.injEq, Value.func.injEq, true_and]
    exact ⟨Array.toList_inj.1 (by simp [a1, c1]), Array.toList_inj.1 (by simp [b1, d1])⟩
  ·cases h
 ·split at h
  ·rename_i x l hh m hx hl hhh hm
   obtain ⟨e1, e2, e3⟩ := aD F hx
   exact wC F e1 hl hhh hm e3 h hp
  ·cases h
 ·obtain ⟨v, hv, h⟩ := Option.bind_eq_some_iff.1 h
  exact ⟨g, (AR F (aD F hv).1 h).looks F⟩
 ·rename_i Xs ts
  split at h
  ·rename_i x t hx ht
   obtain ⟨v, hv, h⟩ := Option.bind_eq_some_iff.1 h
   obtain rfl := bI hx
   obtain rfl := bI ht
   exact ⟨g, (CZ (aD F hv).1 h).looks F⟩
  ·cases h
 ·obtain ⟨vs, hv, h⟩ := Option.bind_eq_some_iff.1 h
  exact ⟨g, (wz (big := false) (jH F hv).1 h).looks F⟩
 ·obtain ⟨vs, hv, h⟩ := Option.bind_eq_some_iff.1 h
  exact ⟨g, (wz (big := true) (jH F hv).1 h).looks F⟩
 ·cases h
end
section
variable {w0 w w' : World} {D A : Nat → Prop} {L R L' R' : Nat → Ent}
theorem oH (C : CtxF w0 D A L R w) (σ : Nat → Nat)
 (hL : ∀ i, (L' i).ok w ∧ ∀ b, (L' i).dom b → (L (σ i)).dom b)
 (hinj : ∀ i j, i ≠ j → (∃ b, (L' i).dom b) → (∃ b, (L' j).dom b) → σ i ≠ σ j)
 (hR : ∀ i, (R' i).ok w ∧ ∀ b, (R' i).dom b → (∃ j, (R j).dom b ∧ ((R' i).lent = false → (R j).lent = false)) ∨ (∃ j, (L j).dom b ∧ ∀ k, (∃ b, (L' k).dom b) → σ k ≠ j)) :
 CtxF w0 D A L' R' w := by
 refine ⟨C.fr, fun i => (hL i).1, fun i => (hR i).1, fun i b hb => C.mine _ b ((hL i).2 b hb), fun i j hij b hb hb' => C.sepL _ _ (hinj i j hij ⟨b, hb⟩ ⟨b, hb'⟩) b ((hL i).2 b hb) ((hL j).2 b hb'), ?_, ?_⟩
 ·intro i j b hb hb'
  rcases (hR j).2 b hb' with ⟨k, h, _⟩ | ⟨k, h, hk⟩
  ·exact C.sepR _ k b ((hL i).2 b hb) h
  ·exact C.sepL _ k (hk i ⟨b, hb⟩) b ((hL i).2 b hb) h
 ·intro i hl b hb
  rcases (hR i).2 b hb with ⟨k, h, hf⟩ | ⟨k, h, hk⟩
  ·exact C.src k (hf hl) b h
  ·exact .inr (C.mine k b h)
end
structure Kp (g : Env) (S : St) (d : Nat → Prop) (g' : Env) (S' : St) : Prop where
 len : S.obs.length ≤ S'.obs.length
 vb : ∀ i, i < S.obs.length → (g' i).v = (g i).v ∧ (g' i).bb = (g i).bb
 same : ∀ i, i < S.obs.length → i ∉ S'.mods → S'.ob i = S.ob i ∧ g' i = g i
 mods : ∀ i ∈ S.mods, i ∈ S'.mods
 slots : ∀ t, ¬ d t → aA S'.slots t = aA S.slots t
 rows : ∀ i, i < S.obs.length → ∀ e t xs m fu, S'.ob i = .row e t xs m fu → ∃ e0 xs0 m0 fu0, S.ob i = .row e0 t xs0 m0 fu0 ∧ xs0.length = xs.length
def noD : Nat → Prop := fun _ => False
theorem Kp.refl (g : Env) (S : St) (d : Nat → Prop) : Kp g S d g S := ⟨Nat.le_refl _, fun _ _ => ⟨rfl, rfl⟩, fun _ _ _ => ⟨rfl, rfl⟩, fun _ h => h, fun _ _ => rfl, fun i _ e t xs m fu h => ⟨e, xs, m, fu, h, rfl⟩⟩
theorem Kp.trans {g g1 g2 : Env} {S S1 S2 : St} {d d1 d2 : Nat → Prop} (h : Kp g S d1 g1 S1) (k : Kp g1 S1 d2 g2 S2) (h1 : ∀ t, d1 t → d t) (h2 : ∀ t, d2 t → d t) : Kp g S d g2 S2 :=
 ⟨Nat.le_trans h.len k.len, fun i hi => ⟨((k.vb i (Nat.lt_of_lt_of_le hi h.len)).1).trans (h.vb i hi).1, ((k.vb i (Nat.lt_of_lt_of_le hi h.len)).2).trans (h.vb i hi).2⟩,
  fun i hi hm => ⟨(k.same i (Nat.lt_of_lt_of_le hi h.len) hm).1.trans (h.same i hi (fun hx => hm (k.mods i hx))).1, (k.same i (Nat.lt_of_lt_of_le hi h.len) hm).2.trans (h.same i hi (fun hx => hm (k.mods i hx))).2⟩,
  fun i hi => k.mods i (h.mods i hi), fun t ht => (k.slots t (fun x => ht (h2 t x))).trans (h.slots t (fun x => ht (h1 t x))),
  fun i hi e t xs m fu he => by
   obtain ⟨e1, x1, m1, f1, q1, q2⟩ := k.rows i (Nat.lt_of_lt_of_le hi h.len) e t xs m fu he
   obtain ⟨e2, x2, m2, f2, q3, q4⟩ := h.rows i hi e1 t x1 m1 f1 q1
   exact ⟨e2, x2, m2, f2, q3, q4.trans q2⟩⟩
theorem Kp.mono {g g' : Env} {S S' : St} {d d' : Nat → Prop} (h : Kp g S d g' S') (hd : ∀ t, d t → d' t) : Kp g S d' g' S' :=
 ⟨h.len, h.vb, h.same, h.mods, fun t ht => h.slots t (fun x => ht (hd t x)), h.rows⟩
theorem Kp.add {g g' : Env} {S : St} {news : List Ob} (d : Nat → Prop) (hx : Ext g g' S.obs.length) : Kp g S d g' (S.add news) :=
 ⟨by simp [St.add], fun i hi => by rw [hx i hi]; exact ⟨rfl, rfl⟩, fun i hi _ => ⟨aW hi, hx i hi⟩, fun _ h => h, fun _ _ => rfl, fun i hi e t xs m fu h => ⟨e, xs, m, fu, by rwa [aW hi] at h, rfl⟩⟩
theorem gG (m : List (Nat × SV)) (d : Option Nat) (v : SV) (t : Nat) : aA (HD m d v) t = if d = some t then some v else aA m t := by
 have hd : ∀ (m : List (Nat × SV)) (d t : Nat), aA (CQ m d) t = if d = t then none else aA m t := by
  intro m d t
  induction m with
  | nil => simp [CQ, aA]
  | cons p m ih =>
    obtain ⟨i, u⟩ := p
    simp only [CQ, aA]
    by_cases e : i = d
    ·subst e
     rw [if_pos (by simp), ih]
     by_cases e' : i = t
     ·simp [e']
     ·simp [e']
    ·rw [if_neg (by simpa using e)]
     simp only [aA, ih]
     by_cases e' : i = t
     ·subst e'; simp [Ne.symm e]
     ·simp [e']
 cases d with
 | none => simp [HD]
 | some d =>
   simp only [HD, aA, hd]
   by_cases e : d = t
   ·simp [e]
   ·simp [e]
section
variable {P : Program} {g g' : Env} {γ : Ghost} {S : St} {n : Nat} {a : Act} {w0 w w' : World} {D A : Nat → Prop}
theorem E8 {i j : Nat} {o : Ob} : ({ S with obs := S.obs.set i o } : St).ob j = if i = j ∧ i < S.obs.length then o else S.ob j := by
 simp only [St.ob, List.getD_eq_getElem?_getD, List.getElem?_set]
 by_cases h : i = j
 ·subst h
  by_cases h2 : i < S.obs.length
  ·simp [h2]
  ·simp [h2]
 ·simp [h]
theorem iX {i j : Nat} {o : Ob} : (S.setOb i o).ob j = if i = j ∧ i < S.obs.length then o else S.ob j := E8
theorem fF (F : Fit g γ S n a) (p : Plan) : Fit g γ (S.to p) n a :=
 ⟨F.size, F.lo, F.defers, F.sl, F.ob, fun t sv h => by have := F.ok t sv h; cases sv <;> exact this, F.rs, F.rb⟩
theorem kI (F : Fit g γ S n a) {d : Option Nat} {v : SV} (hd : ∀ t, d = some t → t < n) (h1 : okS S v) (h2 : ∀ o ∈ aL v, o < S.obs.length) : Fit g γ (S.put d v) n (a.put d (aq g v)) := by
 refine ⟨?_, F.lo, ?_, ?_, F.ob, ?_, ?_, F.rb⟩
 ·cases d <;> simpa [Act.put] using F.size
 ·cases d <;> exact F.defers
 ·intro t sv h
  simp only [St.put, gG] at h
  by_cases e : d = some t
  ·subst e
   simp only [if_true, Option.some.injEq] at h
   subst h
   have ht := hd t rfl
   rw [if_pos (Nat.lt_of_lt_of_le ht F.lo)]
   have : t < a.tmps.size := by rw [F.size]; exact ht
   simp [Act.put, this]
  ·rw [if_neg e] at h
   have := F.sl t sv h
   split
   ·rename_i ht
    rw [if_pos ht] at this
    cases d with
    | none => exact this
    | some d =>
      simp only [Act.put]
      rw [Array.getElem?_setIfInBounds_ne (fun x => e (by rw [x]))]
      exact this
   ·rename_i ht
    rwa [if_neg ht] at this
 ·intro t sv h
  simp only [St.put, gG] at h
  split at h
  ·cases h; exact (show okS S _ from h1)
  ·exact F.ok t sv h
 ·intro t sv h
  simp only [St.put, gG] at h
  split at h
  ·cases h; exact h2
  ·exact F.rs t sv h
theorem nH {g g' : Env} {S S' : St} {d : Nat → Prop} (K : Kp g S d g' S') (p : Plan) : Kp g S d g' (S'.to p) := ⟨K.len, K.vb, K.same, K.mods, K.slots, K.rows⟩
theorem nI (g : Env) (S : St) (d : Option Nat) (v : SV) : Kp g S (fun t => d = some t) g (S.put d v) :=
 ⟨Nat.le_refl _, fun _ _ => ⟨rfl, rfl⟩, fun _ _ _ => ⟨rfl, rfl⟩, fun _ h => h, fun t ht => by simp only [St.put, gG, if_neg ht], fun i _ e t xs m fu h => ⟨e, xs, m, fu, h, rfl⟩⟩
theorem uA (F : Fit g γ S n a) (C : Cx g S w0 D A w) {ob : Ob} (hf : Fr nob w w') (hx : Ext g g' S.obs.length)
 (hL : (an g' S.obs.length ob).ok w' ∧ ∀ b, (an g' S.obs.length ob).dom b → w.heap.size ≤ b)
 (hR : (az g' S.obs.length ob).ok w' ∧ ∀ b, (az g' S.obs.length ob).dom b → ∃ j, (az g j (S.ob j)).dom b ∧ ((az g' S.obs.length ob).lent = false → (az g j (S.ob j)).lent = false)) :
 Cx g' (S.add [ob]) w0 D A w' := by
 have hlt : ∀ i, i ≠ S.obs.length → an g' i ((S.add [ob]).ob i) = an g i (S.ob i) ∧ az g' i ((S.add [ob]).ob i) = az g i (S.ob i) := fun i hi => by
  rcases Nat.lt_trichotomy i S.obs.length with h | h | h
  ·rw [aW h]
   exact ⟨iW (hx i h) (fun T ls e x hm => hx x (F.rb i T ls e x hm)), cQ (hx i h)⟩
  ·exact absurd h hi
  ·rw [bO (Nat.le_of_lt h), kF (Nat.le_of_lt h)]
   have : i - S.obs.length = (i - S.obs.length - 1) + 1 := by omega
   rw [this]
   exact ⟨rfl, rfl⟩
 have hnew : (S.add [ob]).ob S.obs.length = ob := by rw [bO (Nat.le_refl _)]; simp
 have hn : an g S.obs.length (S.ob S.obs.length) = Ent.nil := by rw [kF (Nat.le_refl _)]; rfl
 have C1 : CtxF w0 D A (fun i => an g' i ((S.add [ob]).ob i)) (fun i => az g i (S.ob i)) w' :=
  rM S.obs.length (E' := an g' S.obs.length ob) C (by simp only [hn]; exact hf) hL.1 (fun b hb => .inr (hL.2 b hb)) (fun j hj => (hlt j hj).1) (by simp only [hnew])
 refine oH C1 id (fun i => ⟨C1.okL i, fun _ => id⟩) (fun i j hij _ _ => hij) (fun i => ?_)
 by_cases hi : i = S.obs.length
 ·subst hi
  simp only [hnew]
  exact ⟨hR.1, fun b hb => .inl (hR.2 b hb)⟩
 ·simp only [(hlt i hi).2]
  exact ⟨C1.okR i, fun b hb => .inl ⟨i, hb, id⟩⟩
theorem za (w : World) : Ctx w nob nob [] [] w := ⟨Fr.refl _ _, by simp, by simp, by simp, by simp, by simp, by simp⟩
end
section
variable {P : Program} {g g' : Env} {γ : Ghost} {S : St} {n : Nat} {a : Act} {w0 w w' : World} {D A : Nat → Prop}
def Post {α : Type} (g : Env) (γ : Ghost) (S : St) (n : Nat) (a : Act) (w0 : World) (D A : Nat → Prop) (K : St → SV → Option α) (out : α) (v : Value) (w' : World) : Prop :=
 ∃ g' S' sv, K S' sv = some out ∧ v = aq g' sv ∧ Fit g' γ S' n a ∧ Cx g' S' w0 D A w' ∧ okS S' sv ∧ (∀ o ∈ aL sv, o < S'.obs.length) ∧ Kp g S noD g' S'
theorem zb {α : Type} {K : St → SV → Option α} {out : α} (F : Fit g γ S n a) (C : Cx g S w0 D A w) {T : Nat} {ls : List At} (hst : ls.all gP = true) (hr : ∀ o ∈ ls.flatMap aN, o < S.obs.length)
 (hK : K (S.add [.box T ls]) (.v (.a (.ptr S.obs.length 0))) = some out) {op : Op} {cs : List Value} (hcs : ∀ g' : Env, Ext g g' S.obs.length → aw g' ls = cs)
 (he : Eff P a.eval op w (fun v w' => ∃ b, v = .pointer (some ⟨b, 0, none⟩) ∧ Ctx w nob nob ([] ++ [dJ false b T cs]) [] w')) : Eff P a.eval op w (Post g γ S n a w0 D A K out) := by
 intro o a' next Q' ho hev k
 refine he o a' next Q' ho hev ?_
 rintro v w' ⟨b, rfl, C'⟩
 refine k _ _ ?_
 obtain ⟨g', hg'⟩ : ∃ g' : Env, g' = fun i => if i < S.obs.length then g i else ⟨.nilFunc, rfl, (b, fun _ => 0), [], [], []⟩ := ⟨_, rfl⟩
 have hext : Ext g g' S.obs.length := fun i hi => by simp [hg', hi]
 have hnew : (g' S.obs.length).b = b := by simp [hg']
 have hbx : (dJ false b T cs).ok w' := C'.okL 0 _ rfl
 refine ⟨g', _, _, hK, by simp [aq, aU, aJ, hnew], ?_, ?_, trivial, ?_, Kp.add _ hext⟩
 ·refine gb F hext (fun j ob hj => ?_) (fun j T' ls' hj => ?_)
  ·match j with
   | 0 => simp only [List.getElem?_cons_zero, Option.some.injEq] at hj; subst hj; exact hst
   | j + 1 => simp at hj
  ·match j with
   | 0 => simp only [List.getElem?_cons_zero, Option.some.injEq, Ob.box.injEq] at hj; obtain ⟨_, rfl⟩ := hj; exact fun o ho => Nat.lt_of_lt_of_le (hr o ho) (Nat.le_add_right _ _)
   | j + 1 => simp at hj
 ·refine uA F C C'.fr hext ⟨?_, fun x hx => ?_⟩ ⟨trivial, fun b h => h.elim⟩
  ·show (dJ false (g' S.obs.length).b T (aw g' ls)).ok w'
   rw [hnew, hcs g' hext]; exact hbx
  ·have : x = b := by simpa [an, qH, dJ, hnew] using hx
   subst this
   exact (C'.mine 0 _ rfl x rfl).elim (fun h => h.elim) id
 ·intro o ho
  simp only [aL, bi, aN, List.mem_singleton] at ho
  simp [St.add, ho]
theorem uB {α : Type} {K : St → SV → Option α} {out : α} (F : Fit g γ S n a) (C : Cx g S w0 D A w) {e : Nat} {u : Ty} {xs : List u.den} {cs : List Value} {fs : List Fact}
 (hK : K (S.add [.row e u xs .own false]) (.v (.a (.sl S.obs.length))) = some out) {op : Op} (hrep : gn (gL u) xs cs fs)
 (hfs : ∀ f ∈ fs, (∀ w', Rds f.v f.n f.sz f.cs w') ∧ f.cs = [] ∨ ∃ j, (az g j (S.ob j)).lent = false ∧ (∀ w', (az g j (S.ob j)).ok w' → Rds f.v f.n f.sz f.cs w') ∧ ∀ b, f.cs ≠ [] → aT f.v = some b → (az g j (S.ob j)).dom b)
 (he : Eff P a.eval op w (fun v w' => SlV v xs.length ∧ Ctx w nob nob ([] ++ [eX v e u.sz xs.length cs]) [] w')) : Eff P a.eval op w (Post g γ S n a w0 D A K out) := by
 intro o a' next Q' ho hev k
 refine he o a' next Q' ho hev ?_
 rintro v w' ⟨hsl, C'⟩
 refine k _ _ ?_
 obtain ⟨g', hg'⟩ : ∃ g' : Env, g' = fun i => if i < S.obs.length then g i else ⟨v, hsl.one, (0, fun _ => 0), cs, fs, []⟩ := ⟨_, rfl⟩
 have hext : Ext g g' S.obs.length := fun i hi => by simp [hg', hi]
 have hnew : g' S.obs.length = ⟨v, hsl.one, (0, fun _ => 0), cs, fs, []⟩ := by simp [hg']
 have hok : (eX v e u.sz xs.length cs).ok w' := C'.okL 0 _ rfl
 have C1 : Cx g S w0 D A w' := jM C C'.fr
 refine ⟨g', _, _, hK, by simp [aq, aU, aJ, hnew], ?_, ?_, trivial, ?_, Kp.add _ hext⟩
 ·refine gb F hext (fun j ob hj => ?_) (fun j T' ls' hj => ?_)
  ·match j with
   | 0 => simp only [List.getElem?_cons_zero, Option.some.injEq] at hj; subst hj; rw [Nat.add_zero]; exact ⟨by rw [hnew]; exact hrep, by rw [hnew]; exact hsl, fun h => by cases h⟩
   | j + 1 => simp at hj
  ·match j with
   | 0 => simp at hj
   | j + 1 => simp at hj
 ·refine uA F C C'.fr hext ⟨?_, fun x hx => ?_⟩ ⟨?_, fun b hb => ?_⟩
  ·simp only [an, hnew]; exact hok
  ·simp only [an, hnew] at hx
   exact (C'.mine 0 _ rfl x hx).elim (fun h => h.elim) id
  ·simp only [az, hnew]
   intro f hf
   rcases hfs f hf with ⟨h, _⟩ | ⟨j, _, h, _⟩
   ·exact h w'
   ·exact h w' (C1.okR j)
  ·simp only [az, hnew] at hb
   obtain ⟨f, hf, h1, h2⟩ := hb
   rcases hfs f hf with ⟨_, h⟩ | ⟨j, hl, _, h⟩
   ·exact absurd h h1
   ·exact ⟨j, h b h1 h2, fun _ => hl⟩
 ·intro o ho
  simp only [aL, bi, aN, List.mem_singleton] at ho
  simp [St.add, ho]
theorem uC {α : Type} {K : St → SV → Option α} {out : α} (F : Fit g γ S n a) (C : Cx g S w0 D A w) {b : Nat} {ob : Ob} {sv : SV} {v : Value} (hb : b < S.obs.length)
 (hvb : (g' b).v = (g b).v ∧ (g' b).bb = (g b).bb) (hx : ∀ i, i ≠ b → g' i = g i) (hK : K (S.setOb b ob) sv = some out)
 (hf : Fr (an g b (S.ob b)).dom w w') (hok : (an g' b ob).ok w') (hd : ∀ x, (an g' b ob).dom x → (an g b (S.ob b)).dom x) (hR : az g' b ob = az g b (S.ob b))
 (hob : obP g' b ob) (hbr : ∀ T ls, ob = .box T ls → ∀ o ∈ ls.flatMap aN, o < S.obs.length) (hkind : (∀ e t xs m fu, ob = .row e t xs m fu → ∃ e' xs' m' fu', S.ob b = .row e' t xs' m' fu' ∧ xs'.length = xs.length))
 (hv : v = aq g' sv) (h1 : okS (S.setOb b ob) sv) (h2 : ∀ o ∈ aL sv, o < S.obs.length) : Post g γ S n a w0 D A K out v w' := by
 have hvb' : ∀ i, (g' i).v = (g i).v ∧ (g' i).bb = (g i).bb := fun i => by
  by_cases e : i = b
  ·subst e; exact hvb
  ·rw [hx i e]; exact ⟨rfl, rfl⟩
 have encA' : ∀ x, ba g' x = ba g x := fun x => by cases x <;> simp [ba, GV.b, nt, gq, hvb']
 have val1' : ∀ x, aJ g' x = aJ g x := fun x => by
  cases x with
  | fl t x => cases t <;> rfl
  | sl o => exact (hvb' o).1
  | ptr c off => simp only [aJ, GV.b, (hvb' c).2]
  | pel o k off => simp only [aJ, nt, gq, (hvb' o).2]
  | asl c off m => simp only [aJ, GV.b, (hvb' c).2]
  | _ => rfl
 have encL' : ∀ ls, aw g' ls = aw g ls := fun ls => by simp only [aw, show ba g' = ba g from funext encA']
 have encV' : ∀ x, aU g' x = aU g x := fun x => by
  cases x with
  | a x => exact val1' x
  | fn f fs cs => simp only [aU, show aJ g' = aJ g from funext val1']
  | elp o sz i off => simp only [aU, (hvb' o).1]
  | arp c off t m i => simp only [aU, GV.b, (hvb' c).2]
  | st ls => simp only [aU, encL']
  | cutf o => simp only [aU, (hvb' o).1]
 have encS' : ∀ x, aq g' x = aq g x := fun x => by
  cases x with
  | v x => exact encV' x
  | tup xs => simp only [aq, show aU g' = aU g from funext encV']
 have obE : ∀ i, i ≠ b → (S.setOb b ob).ob i = S.ob i := fun i hi => by rw [iX, if_neg (fun h => hi h.1.symm)]
 have obB : (S.setOb b ob).ob b = ob := by rw [iX, if_pos ⟨rfl, hb⟩]
 have entLE : ∀ i o, i ≠ b → an g' i o = an g i o := fun i o hi => by
  cases o with
  | box T ls => simp only [an, qH, hx i hi, encL']
  | row e t xs m fu => cases m <;> simp only [an, hx i hi]
  | fleet e d xs ho => simp only [an, hx i hi]
  | gone => rfl
 have okE : ∀ v : V1, okV S v → okV (S.setOb b ob) v := fun v h => by
  cases v with
  | elp o sz i off =>
    intro e t xs m fu he
    by_cases eo : o = b
    ·subst eo
     rw [obB] at he
     obtain ⟨e', xs', m', fu', h3, h4⟩ := hkind e t xs m fu he
     have := h e' t xs' m' fu' h3
     rw [← h4]; exact this
    ·rw [obE o eo] at he; exact h e t xs m fu he
  | arp b off t n i => exact h
  | _ => trivial
 have hlen : (S.setOb b ob).obs.length = S.obs.length := by simp [St.setOb]
 refine ⟨g', _, sv, hK, hv, ?_, ?_, h1, by rw [hlen]; exact h2, ?_⟩
 ·refine ⟨F.size, F.lo, F.defers, ?_, ?_, ?_, ?_, ?_⟩
  ·intro t s h; have := F.sl t s h; rwa [encS' s]
  ·intro i
   by_cases e : i = b
   ·subst e; rw [obB]; exact hob
   ·rw [obE i e]; exact iN (hx i e) (F.ob i)
  ·intro t s h
   have := F.ok t s h
   cases s with
   | v x => exact okE x this
   | tup xs => exact fun x hx => okE x (this x hx)
  ·intro t s h; rw [hlen]; exact F.rs t s h
  ·intro i T ls h
   rw [hlen]
   by_cases e : i = b
   ·subst e; rw [obB] at h; exact hbr T ls h
   ·rw [obE i e] at h; exact F.rb i T ls h
 ·have hRf : (fun i => az g' i ((S.setOb b ob).ob i)) = fun i => az g i (S.ob i) := by
   funext i
   by_cases e : i = b
   ·subst e; rw [obB]; exact hR
   ·rw [obE i e]; exact cQ (hx i e)
  unfold Cx
  rw [hRf]
  exact rM b (E' := an g' b ob) C hf hok (fun x hx => .inl (hd x hx)) (fun j hj => by simp only [obE j hj]; exact entLE j _ hj) (by simp only [obB])
 ·exact ⟨by rw [hlen]; exact Nat.le_refl _, fun i _ => hvb' i, fun i _ hm => by
   have : i ≠ b := fun e => hm (by simp [St.setOb, e])
   exact ⟨obE i this, hx i this⟩, fun i hi => by simp [St.setOb, hi], fun _ _ => rfl, fun i hi e t xs m fu h => by
    by_cases e' : i = b
    ·subst e'; rw [obB] at h; exact hkind e t xs m fu h
    ·rw [obE i e'] at h; exact ⟨e, xs, m, fu, h, rfl⟩⟩
end
theorem IC {e e' : Nat} {u t : Ty} {xs : List u.den} {ys : List t.den} (h : ct (a := .sl e u) (b := .sl e' t) xs = some ys) : ∃ q : u = t, cast (congrArg (fun t : Ty => List t.den) q) xs = ys := by
 obtain ⟨q, hq⟩ := dt h
 have : u = t := by injection q
 subst this
 have : e = e' := by injection q
 subst this
 exact ⟨rfl, hq⟩
section
variable {P : Program} {g g' : Env} {γ : Ghost} {S : St} {n : Nat} {a : Act} {w0 w w' : World} {D A : Nat → Prop}
def FromR (g : Env) (S : St) (fs : List Fact) : Prop :=
 ∀ f ∈ fs, ((∀ w', Rds f.v f.n f.sz f.cs w') ∧ f.cs = []) ∨ ∃ j, (az g j (S.ob j)).lent = false ∧ (∀ w', (az g j (S.ob j)).ok w' → Rds f.v f.n f.sz f.cs w') ∧ ∀ b, f.cs ≠ [] → aT f.v = some b → (az g j (S.ob j)).dom b
theorem FromR.app {fs gs : List Fact} (h : FromR g S fs) (k : FromR g S gs) : FromR g S (fs ++ gs) := fun f hf => (List.mem_append.1 hf).elim (h f) (k f)
theorem FromR.nil : FromR g S [] := fun _ h => by cases h
theorem FromR.row {o e : Nat} {t : Ty} {xs : List t.den} {fu : Bool} (h : S.ob o = .row e t xs .rd fu) : FromR g S (⟨(g o).v, xs.length, t.sz, (g o).cs⟩ :: (g o).fs) := fun f hf =>
 .inr ⟨o, by rw [h]; rfl, fun w' hk => by rw [h] at hk; exact hk f hf, fun b h1 h2 => by rw [h]; exact ⟨f, hf, h1, h2⟩⟩
theorem FromR.inner {o e : Nat} {t : Ty} {xs : List t.den} {m : Md} {fu : Bool} (h : S.ob o = .row e t xs m fu) (hm : m ≠ .lent) : FromR g S (g o).fs := fun f hf =>
 .inr ⟨o, by rw [h]; cases m <;> first | rfl | exact absurd rfl hm,
  fun w' hk => by rw [h] at hk; cases m <;> first | exact hk f hf | exact hk f (List.mem_cons_of_mem _ hf) | exact absurd rfl hm,
  fun b h1 h2 => by rw [h]; cases m <;> first | exact ⟨f, hf, h1, h2⟩ | exact ⟨f, List.mem_cons_of_mem _ hf, h1, h2⟩ | exact absurd rfl hm⟩
theorem lI (hob : ∀ i, obP g i (S.ob i)) : ∀ (t : Ty) (ls r : List At) (x : t.den), mW S t ls = some (x, r) → ∃ pre fs, ls = pre ++ r ∧ gL t x (aw g pre) fs ∧ FromR g S fs ∧ (t.flat = true → fs = [])
 | .pair p q, ls, r, x, h => by
   simp only [mW, Option.bind_eq_some_iff, Option.map_eq_some_iff] at h
   obtain ⟨⟨y, r1⟩, h1, ⟨z, r2⟩, h2, he⟩ := h
   simp only [Prod.mk.injEq] at he
   obtain ⟨rfl, rfl⟩ := he
   obtain ⟨p1, f1, e1, k1, m1, n1⟩ := lI hob p ls r1 y h1
   obtain ⟨p2, f2, e2, k2, m2, n2⟩ := lI hob q r1 r2 z h2
   refine ⟨p1 ++ p2, f1 ++ f2, by rw [e1, e2, List.append_assoc], ⟨_, _, _, _, lD g p1 p2, rfl, k1, k2⟩, m1.app m2, fun hf => ?_⟩
   simp only [Ty.flat, Bool.and_eq_true] at hf
   rw [n1 hf.1, n2 hf.2]; rfl
 | .unit, ls, r, x, h => by
   simp only [mW, Option.some.injEq, Prod.mk.injEq] at h
   obtain ⟨_, rfl⟩ := h
   exact ⟨[], [], rfl, ⟨rfl, rfl⟩, .nil, fun _ => rfl⟩
 | .sl e t, [], r, x, h => by simp [mW] at h
 | .sl e t, y :: ls, r, x, h => by
   simp only [mW, Option.map_eq_some_iff, Prod.mk.injEq] at h
   obtain ⟨ys, hy, rfl, rfl⟩ := h
   refine ⟨[y], ?_⟩
   unfold EE at hy
   split at hy
   ·rename_i o
    split at hy
    ·rename_i e' u xs fu ho
     split at hy
     ·obtain ⟨q, hq⟩ := IC hy
      subst q
      simp only [cast_eq] at hq
      subst hq
      have hb := hob o
      rw [ho] at hb
      exact ⟨_, rfl, ⟨(g o).v, (g o).cs, (g o).fs, by simp [aw, ba], hb.2.1, rfl, hb.1⟩, FromR.row ho, fun hf => by simp [Ty.flat] at hf⟩
     ·cases hy
    ·cases hy
   ·cases hy
    refine ⟨_, rfl, ⟨.slice none 0 0, [], [], by simp [aw, ba], ⟨none, 0, rfl, fun _ => rfl⟩, rfl, ⟨rfl, rfl⟩⟩, fun f hf => ?_, fun hf => by simp [Ty.flat] at hf⟩
    simp only [List.mem_singleton] at hf
    subst hf
    exact .inl ⟨fun w' => mb _ w', rfl⟩
   ·cases hy
 | .bool, [], r, x, h => by simp [mW] at h
 | .bool, y :: ls, r, x, h => by
   simp only [mW, Option.map_eq_some_iff, Prod.mk.injEq] at h
   obtain ⟨b, hy, rfl, rfl⟩ := h
   refine ⟨[y], [], rfl, ?_, .nil, fun _ => rfl⟩
   unfold Iz at hy
   split at hy
   ·cases hy; exact ⟨rfl, rfl⟩
   ·obtain ⟨q, hq⟩ := dt hy
    subst q; subst hq; exact ⟨by simp [aw, ba], rfl⟩
   ·cases hy
 | .int k, [], r, x, h => by simp [mW] at h
 | .int k, y :: ls, r, x, h => by
   simp only [mW, Option.map_eq_some_iff, Prod.mk.injEq] at h
   obtain ⟨b, hy, rfl, rfl⟩ := h
   refine ⟨[y], [], rfl, ?_, .nil, fun _ => rfl⟩
   unfold wo at hy
   split at hy
   ·obtain ⟨q, hq⟩ := dt hy
    subst q; subst hq; exact ⟨by simp [aw, ba], rfl⟩
   ·cases hy
 | .str, [], r, x, h => by simp [mW] at h
 | .str, y :: ls, r, x, h => by
   simp only [mW, Option.map_eq_some_iff, Prod.mk.injEq] at h
   obtain ⟨b, hy, rfl, rfl⟩ := h
   refine ⟨[y], [], rfl, ?_, .nil, fun _ => rfl⟩
   unfold wo at hy
   split at hy
   ·obtain ⟨q, hq⟩ := dt hy
    subst q; subst hq; exact ⟨by simp [aw, ba], rfl⟩
   ·cases hy
 | .arr m t, [], r, x, h => by simp [mW] at h
 | .arr m t, y :: ls, r, x, h => by
   simp only [mW, Option.map_eq_some_iff, Prod.mk.injEq] at h
   obtain ⟨b, hy, rfl, rfl⟩ := h
   refine ⟨[y], [], rfl, ?_, .nil, fun _ => rfl⟩
   unfold wo at hy
   split at hy
   ·obtain ⟨q, hq⟩ := dt hy
    subst q; subst hq; exact ⟨by simp [aw, ba], rfl⟩
   ·cases hy
end
section
variable {P : Program} {g g' : Env} {γ : Ghost} {S : St} {n : Nat} {a : Act} {w0 w w' : World} {D A : Nat → Prop} {α : Type} {K : St → SV → Option α} {out : α}
theorem Eff.mono {ρ : Operand → Value} {op : Op} {K K' : Value → World → Prop} (h : Eff P ρ op w K) (hk : ∀ v w', K v w' → K' v w') : Eff P ρ op w K' :=
 fun o a next Q' ho he k => h o a next Q' ho he (fun v w' x => k v w' (hk v w' x))
theorem C9 (F : Fit g γ S n a) (C : Cx g S w0 D A w) {ty : TypeId} {op : Op} {q : Qt} (h : qC P S ty op = some q) (hk : (ax α).guard q.p q.dp (K (S.add q.news) q.v) = some out) :
 Eff P a.eval op w (Post g γ S n a w0 D A K out) := by
 have hp : q.p ∧ K (S.add q.news) q.v = some out := by
  simp only [ax] at hk
  split at hk
  ·rename_i hp; exact ⟨hp, hk⟩
  ·cases hk
 obtain ⟨g', L⟩ := uz F h hp.1
 obtain ⟨N', hr⟩ := L.run w0 D A w C
 have C' := ur F L.ext N' C
 exact cn hr ⟨g', _, _, hp.2, rfl, L.fit, C', L.ok, L.rs, Kp.add _ L.ext⟩
theorem AS (F : Fit g γ S n a) (C : Cx g S w0 D A w) {t : TypeId} {ls : List At} (h : yB P t = some ls) (hK : K (S.add [.box t ls]) (.v (.a (.ptr S.obs.length 0))) = some out) :
 Eff P a.eval (.alloc t) w (Post g γ S n a w0 D A K out) := by
 obtain ⟨h1, h2, h3⟩ := uu h g
 exact zb F C h2 (by rw [h3]; intro o ho; cases ho) hK (fun g' _ => ep ls (by rw [h3]; intro o ho; cases ho)) (CM (za w) h1)
theorem E9 (F : Fit g γ S n a) (C : Cx g S w0 D A w) {t : TypeId} {x : Operand} {v : SV} {ls : List At} (hx : opA S x = some v) (h : sQ (ci P t v) = some ls) (hK : K (S.add [.box t ls]) (.v (.a (.ptr S.obs.length 0))) = some out) :
 Eff P a.eval (.box t x) w (Post g γ S n a w0 D A K out) := by
 obtain ⟨e1, e2, e3⟩ := aD F hx
 obtain ⟨h1, h2, h3⟩ := kH h
 have hr : ∀ o ∈ ls.flatMap aN, o < S.obs.length := by rw [h3]; exact e3
 refine zb F C h2 hr hK (fun g' hg => ep ls (fun o ho => hg o (hr o ho))) (Hw (cs := aw g ls) (za w) (by rw [e1]; exact h1 g))
theorem oI {t : TypeId} {m : Nat} (h : cellsOf P t = some m) : kT P t m = true := by
 unfold cellsOf at h
 simp [kT, h]
theorem rV (m : Md) : ∀ (t : Ty), t.flat = true → ∀ (x : t.den) (n : Nat), (bn m t x n).1.flatMap aN = []
 | .pair p q, h, x, n => by
   simp only [Ty.flat, Bool.and_eq_true] at h
   simp only [bn, List.flatMap_append, rV m p h.1, rV m q h.2, List.append_nil]
 | .sl e t, h, x, n => by simp [Ty.flat] at h
 | .unit, _, _, _ => rfl
 | .int _, _, _, _ => rfl
 | .bool, _, _, _ => rfl
 | .str, _, _, _ => rfl
 | .arr _ _, _, _, _ => rfl
theorem B2 (F : Fit g γ S n a) (C : Cx g S w0 D A w) {b T : Nat} {ls ls' pre old us post : List At} (hb : S.ob b = .box T ls) (hblt : b < S.obs.length) (h2 : us.all gP = true) (h3 : ∀ o ∈ us.flatMap aN, o < S.obs.length)
 (q1 : ls = pre ++ (old ++ post)) (q4 : ls' = pre ++ us ++ post) (h : K (S.setOb b (.box T ls')) (.v (.a .un)) = some out) (hf : Fr (dJ false (g b).b T (aw g ls)).dom w w') (hok : (dJ false (g b).b T (aw g ls')).ok w') :
 Post g γ S n a w0 D A K out undef w' := by
 have hbe : an g b (S.ob b) = dJ false (g b).b T (aw g ls) := by rw [hb]; rfl
 have hst := F.ob b
 rw [hb] at hst
 have hst : ls.all gP = true := hst
 have hrb := F.rb b T ls hb
 refine uC (g' := g) F C hblt ⟨rfl, rfl⟩ (fun _ _ => rfl) h (by rw [hbe]; exact hf) hok (fun x hx => by rw [hbe]; exact hx) (by rw [hb]; rfl) ?_ (fun T' ls'' he => ?_) (fun e t xs m fu he => by cases he) rfl trivial (fun o ho => by cases ho)
 ·show ls'.all gP = true
  rw [q1] at hst; rw [q4]
  simp only [List.all_append, Bool.and_eq_true] at hst ⊢
  exact ⟨⟨hst.1, h2⟩, hst.2.2⟩
 ·cases he
  intro o ho
  rw [q4] at ho
  simp only [List.flatMap_append, List.mem_append] at ho
  rcases ho with (ho | ho) | ho
  ·exact hrb o (by rw [q1]; simp only [List.flatMap_append, List.mem_append]; exact .inl ho)
  ·exact h3 o ho
  ·exact hrb o (by rw [q1]; simp only [List.flatMap_append, List.mem_append]; exact .inr (.inr ho))
theorem B3 (F : Fit g γ S n a) (C : Cx g S w0 D A w) {o e : Nat} {u : Ty} {xs ys : List u.den} {fu : Bool} (ho : S.ob o = .row e u xs .own fu) (holt : o < S.obs.length) (hfl : u.flat = true) (hfs : (g o).fs = []) (hcs : (g o).cs = xs.flatMap (am u).cells)
 (hsl : SlV (g o).v xs.length) (h : K (S.setOb o (.row e u ys .own false)) (.v (.a .un)) = some out) (hlen : ys.length = xs.length) (hf : Fr (eX (g o).v e (am u).sz xs.length (xs.flatMap (am u).cells)).dom w w')
 (hok : (eX (g o).v e u.sz ys.length (ys.flatMap (am u).cells)).ok w') : Post g γ S n a w0 D A K out undef w' := by
 obtain ⟨g', hg'⟩ : ∃ g' : Env, g' = fun i => if i = o then ⟨(g o).v, (g o).one, (g o).bb, ys.flatMap (am u).cells, [], []⟩ else g i := ⟨_, rfl⟩
 have hnew : g' o = ⟨(g o).v, (g o).one, (g o).bb, ys.flatMap (am u).cells, [], []⟩ := by simp [hg']
 refine uC (g' := g') F C holt (by rw [hnew]; exact ⟨rfl, rfl⟩) (fun i hi => by simp [hg', hi]) h ?_ ?_ (fun x hx => ?_) ?_ ?_ (fun T ls he => by cases he) (fun e' t zs m fu' he => ?_) rfl trivial (fun o' ho' => by cases ho')
 ·rw [ho]; simp only [an]
  exact hf
 ·simp only [an, hnew]; exact hok
 ·simp only [an, hnew] at hx
  rw [ho]
  simp only [an]
  exact hx
 ·rw [ho]; simp only [az, hnew, hfs]
 ·exact ⟨by rw [hnew]; exact (bN u hfl _ _ _).2 ⟨rfl, rfl⟩, by rw [hnew, hlen]; exact hsl, fun h => by cases h⟩
 ·cases he
  exact ⟨e, xs, .own, fu, ho, hlen.symm⟩
theorem Fc {ρ : Operand → Value} {β : Type} {F : Flat β} {l : List β} {e off : Nat} {i : Int} {t : TypeId} {v : Value} {us : List Value} {x y : Operand} {x' : β} (hown : Kg w e F.sz v l.length (l.flatMap F.cells))
 (hx : ρ x = .pointer (some ((il v (i.toNat * F.sz)).add off))) (h0 : 0 ≤ i) (h1 : i < l.length)
 (hy : (ρ y).cells.toList = us) (h2 : us.all (·.oneCell') = true) (ho' : Nat.ble (off + us.length) F.sz = true) (hs : kT P t us.length = true) (hc : dq (F.cells (l.getD i.toNat F.dflt)) off us = F.cells x') :
 Eff P ρ (.store t x y) w (fun v' w' => v' = undef ∧ Fr (fun b => v.ownBlock = some b) w w' ∧ Kg w' e F.sz v (l.set i.toNat x').length ((l.set i.toNat x').flatMap F.cells)) := by
 have ho : off + us.length ≤ F.sz := Nat.le_of_ble_eq_true ho'
 have hi : i.toNat < l.length := by omega
 rcases hown.2 with ⟨rfl, h⟩ | ⟨g, cap, cur, fz, rfl, hg, hfz, hnc, hcm, hcs, htk⟩
 ·omega
 ·have hz : (ρ y).cells.size = us.length := by rw [← hy]; simp
  have hsz : i.toNat * F.sz + F.sz ≤ l.length * F.sz := by
   have : (i.toNat + 1) * F.sz ≤ l.length * F.sz := Nat.mul_le_mul_right _ hi
   rw [Nat.add_mul] at this; omega
  have hcap : l.length * F.sz ≤ cur.size := by rw [hcs]; exact Nat.mul_le_mul_right _ hnc
  have ha : (il (.slice (some ⟨g, 0, none⟩) l.length cap) (i.toNat * F.sz)).add off = ⟨g, i.toNat * F.sz + off, none⟩ := by
   simp only [il]; rw [bG, bG, Nat.zero_add]
  -- cells stored one by one
  have hst : ∀ (vs : List Value) (k : Nat) (cur : Array Value) (w : World), w.heap[g]? = some (.cells cur e fz) → i.toNat * F.sz + off + k + vs.length ≤ cur.size → cur.size ≤ fz.1 → (∀ v ∈ vs, v.oneCell' = true) →
   (storeCells ⟨g, i.toNat * F.sz + off, none⟩ vs k).run P w = .ok () (w.setRow g (cur.toList.take (i.toNat * F.sz + off + k) ++ vs ++ cur.toList.drop (i.toNat * F.sz + off + k + vs.length)).toArray) := by
   intro vs
   induction vs with
   | nil =>
     intro k cur w hg _ _ _
     simp only [storeCells, List.append_nil, List.length_nil, Nat.add_zero, List.take_append_drop, Array.toArray_toList]
     rw [setRow_self w g cur e fz hg]
     rfl
   | cons v rest ih =>
     intro k cur w hg hl hf h1
     have hi : i.toNat * F.sz + off + k < cur.size := by simp at hl; omega
     have hadd : (⟨g, i.toNat * F.sz + off, none⟩ : Addr).add k = ⟨g, i.toNat * F.sz + off + k, none⟩ := by rw [bG]
     have hcell : w.cell? ⟨g, i.toNat * F.sz + off + k, none⟩ = some cur[i.toNat * F.sz + off + k] := by simp [World.cell?, hg, hi]
     have hfro : w.frozen? ⟨g, i.toNat * F.sz + off + k, none⟩ = false := by
      obtain ⟨lo, hi'⟩ := fz
      simp only [World.frozen?, hg, Bool.and_eq_false_iff, decide_eq_false_iff_not]
      left
      simp only at hf
      omega
     have hst : (store ((⟨g, i.toNat * F.sz + off, none⟩ : Addr).add k) v).run P w = .ok () (w.setRow g (cur.setIfInBounds (i.toNat * F.sz + off + k) v)) := by
      rw [hadd, run_store P w _ v _ (h1 v (by simp)), hcell]
      simp [hfro, setCell_eq_setRow w g (i.toNat * F.sz + off + k) cur e fz v hg]
     have ih' := ih (k + 1) (cur.setIfInBounds (i.toNat * F.sz + off + k) v) (w.setRow g (cur.setIfInBounds (i.toNat * F.sz + off + k) v)) (setRow_heap w g cur _ e _ hg) (by simp at hl ⊢; omega) (by simpa using hf) (fun x hx => h1 x (by simp [hx]))
     simp only [storeCells, Sem.run_bind, hst, Result.andThen_ok, ih', setRow_setRow]
     congr 3
     simp only [Array.toList_setIfInBounds, List.length_cons]
     rw [show i.toNat * F.sz + off + (k + 1) = i.toNat * F.sz + off + k + 1 by omega, List.take_set, List.drop_set]
     rw [if_pos (by omega), show i.toNat * F.sz + off + k + 1 + rest.length = i.toNat * F.sz + off + k + (rest.length + 1) by omega, List.take_succ_eq_append_getElem (by simpa using hi), List.set_append_right _ _ (by simp; omega)]
     have e3 : i.toNat * F.sz + off + k - (cur.toList.take (i.toNat * F.sz + off + k)).length = 0 := by simp; omega
     rw [e3]
     simp
  have hst := hst us 0 cur w hg (by omega) hfz (by simpa using h2)
  have hwhole : cur.toList.take (i.toNat * F.sz + off) ++ us ++ cur.toList.drop (i.toNat * F.sz + off + us.length) =
   (cur.toList.take (i.toNat * F.sz) ++ F.cells x' ++ cur.toList.drop (i.toNat * F.sz + F.sz)) := by
   have hel : F.cells (l.getD i.toNat F.dflt) = (cur.toList.drop (i.toNat * F.sz)).take F.sz := by
    have h3 : (l.drop i.toNat).flatMap F.cells = (cur.toList.take (l.length * F.sz)).drop (i.toNat * F.sz) := by rw [htk, oC]
    have h4 : l.drop i.toNat = l.getD i.toNat F.dflt :: l.drop (i.toNat + 1) := by
     rw [List.drop_eq_getElem_cons hi]; congr 1; simp [List.getD, hi]
    rw [h4, List.flatMap_cons] at h3
    have h5 := congrArg (List.take F.sz) h3
    rw [List.take_append_of_le_length (by rw [F.len]; exact Nat.le_refl _), List.take_of_length_le (by rw [F.len]; exact Nat.le_refl _)] at h5
    rw [h5, List.drop_take, List.take_take]
    congr 1
    omega
   rw [← hc, hel]
   unfold dq
   rw [List.take_take, Nat.min_eq_left (by omega), List.drop_take, List.drop_drop]
   have e1 : cur.toList.take (i.toNat * F.sz + off) = cur.toList.take (i.toNat * F.sz) ++ (cur.toList.drop (i.toNat * F.sz)).take off := by
    rw [List.take_add]
   have e2 : cur.toList.drop (i.toNat * F.sz + off + us.length) = (cur.toList.drop (i.toNat * F.sz + (off + us.length))).take (F.sz - (off + us.length)) ++ cur.toList.drop (i.toNat * F.sz + F.sz) := by
    conv => lhs; rw [show i.toNat * F.sz + off + us.length = i.toNat * F.sz + (off + us.length) by omega, ← List.take_append_drop (F.sz - (off + us.length)) (cur.toList.drop (i.toNat * F.sz + (off + us.length)))]
    rw [List.drop_drop]
    congr 2
    omega
   rw [e1, e2]
   simp only [List.append_assoc]
  refine tQ (w' := w.setRow g (cur.toList.take (i.toNat * F.sz) ++ F.cells x' ++ cur.toList.drop (i.toNat * F.sz + F.sz)).toArray) ?_ ?_
  ·intro o ho'
   unfold kT at hs
   cases hq : P.info? t with
   | none => simp [hq] at hs
   | some q =>
     have hs' : q.size = us.length := by simpa [hq] using hs
     simp only [Nat.add_zero] at hst
     rw [ha] at hx
     rw [← hwhole]
     simp [execOp, ho', Instr.storeAt, hx, Instr.sureAddr, storeVar, sizeOf, typeInfo, hq, hs', hz, hy, hst]
  ·refine ⟨rfl, (gB w g _).mono (fun x hx => by subst hx; rfl), ?_⟩
   have hl : (l.set i.toNat x').length = l.length := by simp
   rw [hl]
   refine ⟨by rw [gR, hl], .inr ⟨g, cap, _, fz, rfl, setRow_heap w g cur _ e _ hg, ?_, hnc, hcm, ?_, ?_⟩⟩
   ·simp only [List.size_toArray, List.length_append, List.length_take, List.length_drop, Array.length_toList, F.len]
    omega
   ·simp only [List.size_toArray, List.length_append, List.length_take, List.length_drop, Array.length_toList, F.len]
    omega
   ·rw [qz F l i.toNat x' hi, ← htk]
    simp only [List.toList_toArray, List.append_assoc]
    have e1 : (cur.toList.take (i.toNat * F.sz)).take (l.length * F.sz) = cur.toList.take (i.toNat * F.sz) := by rw [List.take_take, Nat.min_eq_right (by omega)]
    have e2 : (cur.toList.take (l.length * F.sz)).take (i.toNat * F.sz) = cur.toList.take (i.toNat * F.sz) := by rw [List.take_take, Nat.min_eq_left (by omega)]
    have e3 : (F.cells x').take (l.length * F.sz - i.toNat * F.sz) = F.cells x' := List.take_of_length_le (by rw [F.len]; omega)
    rw [List.take_append, e1, e2, List.length_take, Nat.min_eq_left (by simp; omega), List.take_append, F.len, e3, List.drop_take, Nat.sub_sub]
theorem AT (F : Fit g γ S n a) (C : Cx g S w0 D A w) {t : TypeId} {x y : Operand} {u v : SV} (hx : opA S x = some u) (hy : opA S y = some v) (h : AK (ax α) P S t u v K = some out) :
 Eff P a.eval (.store t x y) w (Post g γ S n a w0 D A K out) := by
 obtain ⟨e1, e2, e3⟩ := aD F hx
 obtain ⟨f1, f2, f3⟩ := aD F hy
 unfold AK at h
 split at h
 ·simp [ax] at h
 ·rename_i us hus
  obtain ⟨h1, h2, h3⟩ := kH hus
  have hyc : (a.eval y).cells.toList = aw g us := by rw [f1]; exact h1 g
  split at h
  ·rename_i hsz
   split at h
   ·rename_i b off
    split at h
    ·rename_i T ls hb
     split at h
     ·rename_i ls' hls
      obtain ⟨pre, old, post, q1, q2, q3, q4⟩ := lG hls
      obtain ⟨c1, c2⟩ := lH g (pre := pre) (old := old) (post := post) (us := us) q2 q3
      rw [← q1, ← q4] at c1
      rw [← q1] at c2
      have hblt : b < S.obs.length := e3 b (by simp [aL, bi, aN])
      have Cc : Ctx w _ nob [dJ false (g b).b T (aw g ls)] [] w := xG (E := dJ false (g b).b T (aw g ls)) (rT C hb)
      refine (BN (li := 0) (us := aw g us) Cc rfl e1 hyc (by simp only [List.all_eq_true]; exact ul g us h2) c2 (by rw [bu]; exact oI hsz) c1).mono ?_
      rintro v' w' ⟨rfl, C'⟩
      exact B2 F C hb hblt h2 (by rw [h3]; exact f3) q1 q4 h (by simpa using C'.fr) (C'.okL 0 _ rfl)
     ·simp [ax] at h
    ·simp [ax] at h
   ·rename_i o sz i off
    split at h
    ·rename_i e u' xs fu ho
     split at h
     ·rename_i ls' hls
      split at h
      ·rename_i x' hpk
       split at h
       ·rename_i hfl
        obtain ⟨hi0, hi1, rfl⟩ := e2 e u' xs .own fu ho
        have holt : o < S.obs.length := e3 o (by simp [aL, bi])
        have hob := F.ob o
        rw [ho] at hob
        obtain ⟨hrep, hsl, _⟩ := hob
        obtain ⟨hcs, hfs⟩ := (bN u' hfl _ _ _).1 hrep
        have hrow : OwnR w e u'.sz (g o).v xs.length (g o).cs := by have := C.okL o; simp only [ho, an] at this; exact this
        obtain ⟨pre, old, post, q1, q2, q3, q4⟩ := lG hls
        obtain ⟨c1, c2⟩ := lH g (pre := pre) (old := old) (post := post) (us := us) q2 q3
        rw [← q1, ← q4] at c1
        rw [← q1] at c2
        -- the element's leaves are its cells
        have hflat : aw g (bn .rd u' (at_ u' xs i) 0).1 = (am u').cells (at_ u' xs i) := by
         obtain ⟨g2, _, hq, _, hr, _⟩ := lF .rd (by simp) u' (at_ u' xs i) 0 g _ [] ((dH u' hfl _ _ _).2 ⟨rfl, rfl⟩)
         rw [← hq]
         refine (ep _ (fun o' ho' => ?_)).symm
         rw [rV _ u' hfl] at ho'
         cases ho'
        rw [hflat] at c1 c2
        obtain ⟨pre', fs', e', hrp, _, hfn⟩ := lI F.ob u' ls' [] x' hpk
        have hx' : aw g ls' = (am u').cells x' := by
         have := ((dH u' hfl _ _ _).1 hrp).1
         rw [e', List.append_nil]; exact this
        rw [hx'] at c1
        rw [bu] at c2
        have hat : at_ u' xs i = xs.getD i.toNat (am u').dflt := by rw [cX]; rfl
        rw [hat] at c1
        have hfit : Nat.ble (off + (aw g us).length) (am u').sz = true := by rw [bu]; rw [(am u').len] at c2; simpa using c2
        rw [hcs, ← aK] at hrow
        by_cases hm : e < mB
        ·unfold OwnR at hrow
         rw [if_pos hm] at hrow
         have Cc : Ctx w (io (g o).v e (am u').sz xs.length (xs.flatMap (am u').cells)).dom nob [io (g o).v e (am u').sz xs.length (xs.flatMap (am u').cells)] [] w := xG hrow
         refine (Hy (li := 0) (F := am u') (l := xs) (off := off) (i := i) (us := aw g us) (x' := x') Cc rfl rfl (by rw [aK]; exact e1) hi0 hi1 hyc (by simp only [List.all_eq_true]; exact ul g us h2)
          hfit (by rw [bu]; exact oI hsz) c1).mono ?_
         rintro v' w' ⟨rfl, C'⟩
         exact B3 F C ho holt hfl hfs hcs hsl h (by simp) (by rw [qG]; simpa using C'.fr) ((dX hm).2 (by simpa [aK] using C'.okL 0 _ rfl))
        ·unfold OwnR at hrow
         rw [if_neg hm] at hrow
         refine (Fc (F := am u') (l := xs) (off := off) (i := i) (us := aw g us) (x' := x') hrow (by rw [aK]; exact e1) hi0 hi1 hyc (by simp only [List.all_eq_true]; exact ul g us h2)
          hfit (by rw [bu]; exact oI hsz) c1).mono ?_
         rintro v' w' ⟨rfl, hfr, hok⟩
         refine B3 F C ho holt hfl hfs hcs hsl h (by simp) (by rw [qG]; exact hfr) ?_
         show OwnR w' e u'.sz (g o).v _ _
         unfold OwnR
         rw [if_neg hm, ← aK]
         exact hok
       ·simp [ax] at h
      ·simp [ax] at h
     ·simp [ax] at h
    ·simp [ax] at h
   ·rename_i b off u' m i
    split at h
    ·rename_i T ls hb
     split at h
     ·rename_i m' u'' vec rest hs
      split at h
      ·rename_i hc
       obtain ⟨rfl, rfl, hfl, hsz0⟩ := hc
       split at h
       ·rename_i x' hpk
        split at h
        ·rename_i ls' hls
         obtain ⟨pre, old, post, q1, q2, q3, q4⟩ := lG hls
         obtain ⟨c1, c2⟩ := lH g (pre := pre) (old := old) (post := post) (us := [.fl (.arr m' u'') (dG vec i x')]) q2 q3
         rw [← q1, ← q4] at c1
         have hblt : b < S.obs.length := e3 b (by simp [aL, bi])
         have Cc : Ctx w _ nob [dJ false (g b).b T (aw g ls)] [] w := xG (E := dJ false (g b).b T (aw g ls)) (rT C hb)
         have hok' : 0 ≤ i ∧ i < m' := e2
         obtain ⟨pre2, e', hps⟩ := du _ _ _ hs
         have hcc := eY g (pre := pre2) (seg := [.fl (.arr m' u'') vec]) (post := rest) (n := m' * (am u'').sz) hps (by simp [bU, At.sz, Ty.sz, aK])
         rw [show pre2 ++ ([.fl (.arr m' u'') vec] ++ rest) = ls from e'.symm] at hcc
         obtain ⟨pre', fs', e5, hrp, _, hfn⟩ := lI F.ob u'' us [] x' hpk
         have hx' : aw g us = (am u'').cells x' := by
          have := ((dH u'' hfl _ _ _).1 hrp).1
          rw [e5, List.append_nil]; exact this
         have hsz' : kT P t (am u'').sz = true := by
          have := oI hsz
          rwa [← bu g us, hx', (am u'').len] at this
         have hpos : 0 < (am u'').sz := by rw [aK]; exact hsz0
         refine (HA (F := am u'') (n := m') (vec := vec) (i := i) (li := 0) (off := off) (x' := x') (cs' := aw g ls') Cc rfl ?_ (by rw [aK]; exact e1) hok'.1 hok'.2 (by rw [hyc]; exact hx') hsz' ?_ hpos).mono ?_
         ·rw [hcc]; simp [aw, ba, am]
         ·rw [← c1]
          simp only [dq, aw, List.flatMap_cons, List.flatMap_nil, List.append_nil, ba, List.append_assoc]
          rw [(am (.arr m' u'')).len]
          rfl
         ·rintro v' w' ⟨rfl, C'⟩
          exact B2 F C hb hblt rfl (fun o ho => by cases ho) q1 q4 h (by simpa using C'.fr) (C'.okL 0 _ rfl)
        ·simp [ax] at h
       ·simp [ax] at h
      ·simp [ax] at h
     ·simp [ax] at h
    ·simp [ax] at h
   ·simp [ax] at h
  ·simp [ax] at h
end
section
variable {P : Program} {g g' : Env} {γ : Ghost} {S : St} {n : Nat} {a : Act} {w0 w w' : World} {D A : Nat → Prop} {α : Type} {K : St → SV → Option α} {out : α}
theorem zc (F : Fit g γ S n a) (C : Cx g S w0 D A w) {o e : Nat} {u : Ty} {xs zs : List u.den} {fu : Bool} {cs : List Value} {fs : List Fact} {v : Value} (ho : S.ob o = .row e u xs .own fu) (holt : o < S.obs.length)
 (hK : K (({ S with mods := o :: S.mods, obs := S.obs.set o .gone } : St).add [.row e u zs .own false]) (.v (.a (.sl S.obs.length))) = some out) (hrep : gn (gL u) zs cs fs) (hfs : FromR g S fs) (hsl : SlV v zs.length)
 (hf : Fr (eX (g o).v e u.sz xs.length (g o).cs).dom w w') (hok : (eX v e u.sz zs.length cs).ok w') (hd : ∀ b, (eX v e u.sz zs.length cs).dom b → (eX (g o).v e u.sz xs.length (g o).cs).dom b ∨ w.heap.size ≤ b) :
 Post g γ S n a w0 D A K out v w' := by
 obtain ⟨S1, hS1⟩ : ∃ S1 : St, S1 = { S with mods := o :: S.mods, obs := S.obs.set o .gone } := ⟨_, rfl⟩
 rw [← hS1] at hK
 have hl1 : S1.obs.length = S.obs.length := by rw [hS1]; simp
 have ob1 : ∀ i, S1.ob i = if o = i then .gone else S.ob i := fun i => by
  have : S1.ob i = ({ S with obs := S.obs.set o .gone } : St).ob i := by rw [hS1]; rfl
  rw [this, E8]
  by_cases h : o = i
  ·subst h; simp only [holt, and_self, if_true]
  ·simp only [h, false_and, if_false]
 obtain ⟨g', hg'⟩ : ∃ g' : Env, g' = fun i => if i < S.obs.length then g i else ⟨v, hsl.one, (0, fun _ => 0), cs, fs, []⟩ := ⟨_, rfl⟩
 have hext : Ext g g' S.obs.length := fun i hi => by simp [hg', hi]
 have hnew : g' S.obs.length = ⟨v, hsl.one, (0, fun _ => 0), cs, fs, []⟩ := by simp [hg']
 have okE : ∀ v : V1, okV S v → okV S1 v := fun v h => by
  cases v with
  | elp o' sz i off =>
    intro e t ys m fu he
    rw [ob1] at he
    split at he
    ·cases he
    ·exact h e t ys m fu he
  | arp b off t n i => exact h
  | _ => trivial
 have F1 : Fit g γ S1 n a := by
  refine ⟨F.size, F.lo, F.defers, ?_, ?_, ?_, ?_, ?_⟩
  ·rw [hS1]; exact F.sl
  ·intro i; rw [ob1]; split
   ·trivial
   ·exact F.ob i
  ·intro t s h
   have := F.ok t s (by rw [hS1] at h; exact h)
   cases s with
   | v x => exact okE x this
   | tup xs => exact fun x hx => okE x (this x hx)
  ·intro t s h; rw [hl1]; exact F.rs t s (by rw [hS1] at h; exact h)
  ·intro i T ls h
   rw [hl1]
   rw [ob1] at h
   split at h
   ·cases h
   ·exact F.rb i T ls h
 have hext1 : Ext g g' S1.obs.length := by rw [hl1]; exact hext
 have F2 : Fit g' γ (S1.add [.row e u zs .own false]) n a := gb F1 hext1 (fun j ob hj => by
  match j with
  | 0 => simp only [List.getElem?_cons_zero, Option.some.injEq] at hj; subst hj; rw [Nat.add_zero, hl1]; exact ⟨by rw [hnew]; exact hrep, by rw [hnew]; exact hsl, fun h => by cases h⟩
  | j + 1 => simp at hj) (fun j T ls hj => by
  match j with
  | 0 => simp at hj
  | j + 1 => simp at hj)
 have obN : ∀ i, (S1.add [Ob.row e u zs .own false]).ob i = if i = S.obs.length then .row e u zs .own false else if o = i then .gone else S.ob i := fun i => by
  rcases Nat.lt_trichotomy i S.obs.length with h | h | h
  ·rw [aW (by rw [hl1]; exact h), ob1, if_neg (show ¬ i = S.obs.length by omega)]
  ·rw [bO (by rw [hl1]; omega), hl1, if_pos h, h]; simp
  ·rw [bO (by rw [hl1]; omega), if_neg (show ¬ i = S.obs.length by omega), if_neg (show ¬ o = i by omega), kF (by omega), hl1]
   have : i - S.obs.length = (i - S.obs.length - 1) + 1 := by omega
   rw [this]; rfl
 have hLo : an g o (S.ob o) = eX (g o).v e u.sz xs.length (g o).cs := by rw [ho]; rfl
 have C1 : CtxF w0 D A (fun i => if i = o then eX v e u.sz zs.length cs else an g i (S.ob i)) (fun i => az g i (S.ob i)) w' :=
  rM o (E' := eX v e u.sz zs.length cs) C (by simp only [hLo]; exact hf) hok (fun b hb => by simp only [hLo]; exact hd b hb) (fun j hj => if_neg hj) (if_pos rfl)
 refine ⟨g', _, _, hK, by simp [aq, aU, aJ, hnew], F2, ?_, trivial, ?_, ?_⟩
 ·refine oH C1 (fun i => if i = S.obs.length then o else i) (fun i => ?_) (fun i j hij hi hj => ?_) (fun i => ?_)
  ·simp only [obN]
   by_cases h : i = S.obs.length
   ·rw [if_pos h, if_pos h, if_pos rfl]
    subst h
    simp only [an, hnew]
    exact ⟨hok, fun _ => id⟩
   ·rw [if_neg h, if_neg h]
    by_cases h' : o = i
    ·rw [if_pos h']; exact ⟨trivial, fun b hb => hb.elim⟩
    ·rw [if_neg h', if_neg (fun e => h' e.symm)]
     have : an g' i (S.ob i) = an g i (S.ob i) := by
      rcases Nat.lt_or_ge i S.obs.length with hi | hi
      ·exact iW (hext i hi) (fun T ls e x hm => hext x (F.rb i T ls e x hm))
      ·rw [kF hi]; rfl
     rw [this]
     have := C1.okL i
     simp only [if_neg (fun e => h' (Eq.symm e))] at this
     exact ⟨this, fun _ => id⟩
  ·simp only [obN] at hi hj
   by_cases h1 : i = S.obs.length
   ·by_cases h2 : j = S.obs.length
    ·exact absurd (h1.trans h2.symm) hij
    ·simp only [if_pos h1, if_neg h2]
     intro e
     subst e
     rw [if_neg h2, if_pos rfl] at hj
     obtain ⟨b, hb⟩ := hj
     exact hb.elim
   ·by_cases h2 : j = S.obs.length
    ·simp only [if_pos h2, if_neg h1]
     intro e
     subst e
     rw [if_neg h1, if_pos rfl] at hi
     obtain ⟨b, hb⟩ := hi
     exact hb.elim
    ·simp only [if_neg h1, if_neg h2]; exact hij
  ·simp only [obN]
   by_cases h : i = S.obs.length
   ·rw [if_pos h]
    subst h
    simp only [az, hnew]
    refine ⟨fun f hf => ?_, fun b hb => ?_⟩
    ·rcases hfs f hf with ⟨h, _⟩ | ⟨j, _, h, _⟩
     ·exact h w'
     ·exact h w' (C1.okR j)
    ·obtain ⟨f, hf, h1, h2⟩ := hb
     rcases hfs f hf with ⟨_, h⟩ | ⟨j, hl, _, h⟩
     ·exact absurd h h1
     ·exact .inl ⟨j, h b h1 h2, fun _ => hl⟩
   ·rw [if_neg h]
    by_cases h' : o = i
    ·rw [if_pos h']; exact ⟨trivial, fun b hb => hb.elim⟩
    ·rw [if_neg h']
     have : az g' i (S.ob i) = az g i (S.ob i) := by
      rcases Nat.lt_or_ge i S.obs.length with hi | hi
      ·exact cQ (hext i hi)
      ·rw [kF hi]; rfl
     rw [this]
     exact ⟨C1.okR i, fun b hb => .inl ⟨i, hb, id⟩⟩
 ·intro o' ho'
  simp only [aL, bi, aN, List.mem_singleton] at ho'
  simp [St.add, ho', hl1]
 ·refine ⟨by simp [St.add, hl1], fun i hi => by rw [hext i hi]; exact ⟨rfl, rfl⟩, fun i hi hm => ?_, fun i hi => by rw [hS1]; exact List.mem_cons_of_mem _ hi, fun _ _ => by rw [hS1]; rfl, fun i hi e t xs m fu h => ?_⟩
  ·have hne : o ≠ i := fun e => hm (by rw [hS1]; simp [St.add, e])
   rw [obN, if_neg (by omega), if_neg hne]
   exact ⟨rfl, hext i hi⟩
  ·rw [obN, if_neg (by omega)] at h
   split at h
   ·cases h
   ·exact ⟨e, xs, m, fu, h, rfl⟩
theorem HS {L R R' : Nat → Ent} (C : CtxF w0 D A L R w) (hf : Fr nob w w') (hR : ∀ i, (R' i).ok w' ∧ ∀ b, (R' i).dom b → (∃ j, (R j).dom b ∧ ((R' i).lent = false → (R j).lent = false)) ∨ w.heap.size ≤ b) : CtxF w0 D A L R' w' := by
 have C' := jM C hf
 refine ⟨C'.fr, C'.okL, fun i => (hR i).1, C'.mine, C'.sepL, fun i j b hb hb' => ?_, fun i hl b hb => ?_⟩
 ·rcases (hR j).2 b hb' with ⟨k, h, _⟩ | h
  ·exact C.sepR i k b hb h
  ·have := (L i).lt w (C.okL i) b hb; omega
 ·rcases (hR i).2 b hb with ⟨k, h, hl'⟩ | h
  ·exact C.src k (hl' hl) b h
  ·exact .inr (.inr (Nat.le_trans C.fr.size h))
theorem HT (F : Fit g γ S n a) (C : Cx g S w0 D A w) {o e : Nat} {u : Ty} {xs zs : List u.den} {m : Md} {fu : Bool} {cs : List Value} {fs : List Fact} {v : Value} (ho : S.ob o = .row e u xs m fu) (hm : m ≠ .own)
 (hK : K (S.add [.row e u zs m false]) (.v (.a (.sl S.obs.length))) = some out) (hrep : gn (gL u) zs cs fs) (hfs : ∀ f ∈ fs, f ∈ (g o).fs ∨ ((∀ w', Rds f.v f.n f.sz f.cs w') ∧ f.cs = []) ∨ ∃ j, (az g j (S.ob j)).lent = false ∧ (∀ w', (az g j (S.ob j)).ok w' → Rds f.v f.n f.sz f.cs w') ∧ ∀ b, f.cs ≠ [] → aT f.v = some b → (az g j (S.ob j)).dom b) (hsl : SlV v zs.length)
 (hf : Fr nob w w') (hrd : Rds v zs.length u.sz cs w') (hd : ∀ b, cs ≠ [] → aT v = some b → ((g o).cs ≠ [] ∧ aT (g o).v = some b) ∨ w.heap.size ≤ b) :
 Post g γ S n a w0 D A K out v w' := by
 obtain ⟨g', hg'⟩ : ∃ g' : Env, g' = fun i => if i < S.obs.length then g i else ⟨v, hsl.one, (0, fun _ => 0), cs, fs, []⟩ := ⟨_, rfl⟩
 have hext : Ext g g' S.obs.length := fun i hi => by simp [hg', hi]
 have hnew : g' S.obs.length = ⟨v, hsl.one, (0, fun _ => 0), cs, fs, []⟩ := by simp [hg']
 have C' := jM C hf
 have obN : ∀ i, i ≠ S.obs.length → (S.add [Ob.row e u zs m false]).ob i = S.ob i := fun i hi => by
  rcases Nat.lt_or_ge i S.obs.length with h | h
  ·exact aW h
  ·rw [bO h, kF h]
   have : i - S.obs.length = (i - S.obs.length - 1) + 1 := by omega
   rw [this]; rfl
 have obE : (S.add [Ob.row e u zs m false]).ob S.obs.length = .row e u zs m false := by rw [bO (Nat.le_refl _)]; simp
 have hro : (∀ f ∈ (g o).fs, Rds f.v f.n f.sz f.cs w') ∧ (∀ f ∈ (g o).fs, ∀ b, f.cs ≠ [] → aT f.v = some b → (az g o (S.ob o)).dom b) ∧ ((g o).cs ≠ [] → ∀ b, aT (g o).v = some b → (az g o (S.ob o)).dom b) ∧ ((az g o (S.ob o)).lent = true ↔ m = .lent) := by
  have h := C'.okR o
  simp only [ho] at h
  rw [ho]
  cases m with
  | own => exact absurd rfl hm
  | rd => exact ⟨fun f hf => h f (List.mem_cons_of_mem _ hf), fun f hf b h1 h2 => ⟨f, List.mem_cons_of_mem _ hf, h1, h2⟩, fun h1 b h2 => ⟨_, List.mem_cons_self .., h1, h2⟩, by simp [az, dK]⟩
  | lent => exact ⟨fun f hf => h f (List.mem_cons_of_mem _ hf), fun f hf b h1 h2 => ⟨f, List.mem_cons_of_mem _ hf, h1, h2⟩, fun h1 b h2 => ⟨_, List.mem_cons_self .., h1, h2⟩, by simp [az, dK]⟩
 obtain ⟨r1, r2, r3, r4⟩ := hro
 have entE : az g' S.obs.length (.row e u zs m false) = dK (decide (m = .lent)) (⟨v, zs.length, u.sz, cs⟩ :: fs) := by
  cases m with
  | own => exact absurd rfl hm
  | rd => simp [az, hnew]
  | lent => simp [az, hnew]
 refine ⟨g', _, _, hK, by simp [aq, aU, aJ, hnew], ?_, ?_, trivial, ?_, Kp.add _ hext⟩
 ·refine gb F hext (fun j ob hj => ?_) (fun j T ls hj => ?_)
  ·match j with
   | 0 => simp only [List.getElem?_cons_zero, Option.some.injEq] at hj; subst hj; rw [Nat.add_zero]; exact ⟨by rw [hnew]; exact hrep, by rw [hnew]; exact hsl, fun h => by cases h⟩
   | j + 1 => simp at hj
  ·match j with
   | 0 => simp at hj
   | j + 1 => simp at hj
 ·have hLf : (fun i => an g' i ((S.add [Ob.row e u zs m false]).ob i)) = fun i => an g i (S.ob i) := by
   funext i
   by_cases h : i = S.obs.length
   ·subst h; rw [obE, kF (Nat.le_refl _)]
    cases m with
    | own => exact absurd rfl hm
    | _ => rfl
   ·rw [obN i h]
    rcases Nat.lt_or_ge i S.obs.length with hi | hi
    ·exact iW (hext i hi) (fun T ls e x hm => hext x (F.rb i T ls e x hm))
    ·rw [kF hi]; rfl
  unfold Cx
  rw [hLf]
  refine HS C hf (fun i => ?_)
  by_cases h : i = S.obs.length
  ·subst h
   rw [obE, entE]
   refine ⟨fun f hf' => ?_, fun b hb => ?_⟩
   ·rcases List.mem_cons.1 hf' with rfl | hf'
    ·exact hrd
    ·rcases hfs f hf' with h | ⟨h, _⟩ | ⟨j, _, h, _⟩
     ·exact r1 f h
     ·exact h w'
     ·exact h w' (C'.okR j)
   ·obtain ⟨f, hf', h1, h2⟩ := hb
    have hlo : (dK (decide (m = .lent)) (⟨v, zs.length, u.sz, cs⟩ :: fs)).lent = false → (az g o (S.ob o)).lent = false := fun h => by
     have h : decide (m = .lent) = false := h
     cases hl : (az g o (S.ob o)).lent with
     | false => rfl
     | true => rw [r4.1 hl] at h; simp at h
    rcases List.mem_cons.1 hf' with rfl | hf'
    ·rcases hd b h1 h2 with ⟨h3, h4⟩ | h3
     ·exact .inl ⟨o, r3 h3 b h4, hlo⟩
     ·exact .inr h3
    ·rcases hfs f hf' with h | ⟨_, h⟩ | ⟨j, hl, _, h⟩
     ·exact .inl ⟨o, r2 f h b h1 h2, hlo⟩
     ·exact absurd h h1
     ·exact .inl ⟨j, h b h1 h2, fun _ => hl⟩
  ·rw [obN i h]
   have : az g' i (S.ob i) = az g i (S.ob i) := by
    rcases Nat.lt_or_ge i S.obs.length with hi | hi
    ·exact cQ (hext i hi)
    ·rw [kF hi]; rfl
   rw [this]
   exact ⟨C'.okR i, fun b hb => .inl ⟨i, hb, id⟩⟩
 ·intro o' ho'
  simp only [aL, bi, aN, List.mem_singleton] at ho'
  simp [St.add, ho']
end
section
variable {P : Program} {g g' g1 : Env} {γ : Ghost} {S S1 : St} {n : Nat} {a : Act} {w0 w w' : World} {D A : Nat → Prop} {α : Type} {K : St → SV → Option α} {out : α}
theorem Post.of (hk : Kp g S noD g1 S1) {v : Value} (h : Post g1 γ S1 n a w0 D A K out v w') : Post g γ S n a w0 D A K out v w' := by
 obtain ⟨g', S', sv, h1, h2, h3, h4, h5, h6, h7⟩ := h
 exact ⟨g', S', sv, h1, h2, h3, h4, h5, h6, hk.trans h7 (fun _ => id) (fun _ => id)⟩
theorem xJ (F : Fit g γ S n a) {o e : Nat} {u : Ty} {xs : List u.den} {fu : Bool} (ho : S.ob o = .row e u xs .own fu) (holt : o < S.obs.length) :
 Fit g γ (S.setOb o (.row e u xs .rd fu)) n a ∧ (∀ w0 D A w, Cx g S w0 D A w → Cx g (S.setOb o (.row e u xs .rd fu)) w0 D A w) ∧ Kp g S noD g (S.setOb o (.row e u xs .rd fu)) ∧ (∀ v, okS S v → okS (S.setOb o (.row e u xs .rd fu)) v) := by
 have hl : (S.setOb o (.row e u xs .rd fu)).obs.length = S.obs.length := by simp [St.setOb]
 have obE : ∀ i, i ≠ o → (S.setOb o (.row e u xs .rd fu)).ob i = S.ob i := fun i hi => by rw [iX, if_neg (fun h => hi h.1.symm)]
 have obB : (S.setOb o (.row e u xs .rd fu)).ob o = .row e u xs .rd fu := by rw [iX, if_pos ⟨rfl, holt⟩]
 have okE : ∀ v : V1, okV S v → okV (S.setOb o (.row e u xs .rd fu)) v := fun v h => by
  cases v with
  | elp o' sz i off =>
    intro e' t ys m fu' he
    by_cases eo : o' = o
    ·subst eo
     rw [obB] at he
     cases he
     exact h _ _ _ _ _ ho
    ·rw [obE o' eo] at he; exact h _ _ _ _ _ he
  | arp b off t n i => exact h
  | _ => trivial
 have okS' : ∀ v, okS S v → okS (S.setOb o (.row e u xs .rd fu)) v := fun v h => by
  cases v with
  | v x => exact okE x h
  | tup xs => exact fun x hx => okE x (h x hx)
 refine ⟨⟨F.size, F.lo, F.defers, F.sl, fun i => ?_, fun t s h => okS' s (F.ok t s h), fun t s h => by rw [hl]; exact F.rs t s h, fun i T ls h => ?_⟩, fun w0 D A w C => ?_, ?_, okS'⟩
 ·by_cases h : i = o
  ·subst h; rw [obB]; have := F.ob i; rw [ho] at this; exact this
  ·rw [obE i h]; exact F.ob i
 ·rw [hl]
  by_cases h' : i = o
  ·subst h'; rw [obB] at h; cases h
  ·rw [obE i h'] at h; exact F.rb i T ls h
 ·refine oH C id (fun i => ?_) (fun i j hij _ _ => hij) (fun i => ?_)
  ·by_cases h : i = o
   ·subst h; simp only [obB, an]; exact ⟨trivial, fun b hb => hb.elim⟩
   ·simp only [obE i h]; exact ⟨C.okL i, fun _ => id⟩
  ·by_cases h : i = o
   ·subst h
    have h1 := C.okL i
    have h2 := C.okR i
    simp only [ho, an] at h1
    simp only [ho, az] at h2
    simp only [obB, az]
    refine ⟨fun f hf => ?_, fun b hb => ?_⟩
    ·rcases List.mem_cons.1 hf with rfl | hf
     ·exact kD h1
     ·exact h2 f hf
    ·obtain ⟨f, hf, q1, q2⟩ := hb
     rcases List.mem_cons.1 hf with rfl | hf
     ·refine .inr ⟨i, ?_, fun k hk e => ?_⟩
      ·simp only [ho, an]
       show (g i).v.ownBlock = some b
       exact rS (h1 : OwnR w _ u.sz (g i).v xs.length (g i).cs) q2
      ·have e : k = i := e
       subst e
       rw [obB] at hk
       obtain ⟨b', hb'⟩ := hk
       exact hb'.elim
     ·exact .inl ⟨i, by simp only [ho, az]; exact ⟨f, hf, q1, q2⟩, fun _ => by simp only [ho]; rfl⟩
   ·simp only [obE i h]; exact ⟨C.okR i, fun b hb => .inl ⟨i, hb, id⟩⟩
 ·refine ⟨by rw [hl]; exact Nat.le_refl _, fun _ _ => ⟨rfl, rfl⟩, fun i _ hm => ⟨obE i (fun e => hm (by simp [St.setOb, e])), rfl⟩, fun i hi => by simp [St.setOb, hi], fun _ _ => rfl, fun i _ e' t ys m fu' h => by
   by_cases e'' : i = o
   ·subst e''; rw [obB] at h; cases h; exact ⟨_, _, _, _, ho, rfl⟩
   ·rw [obE i e''] at h; exact ⟨_, _, _, _, h, rfl⟩⟩
structure Frozen (g : Env) (γ : Ghost) (S S' : St) (n : Nat) (a : Act) : Prop where
 fit : Fit g γ S' n a
 cx : ∀ w0 D A w, Cx g S w0 D A w → Cx g S' w0 D A w
 kp : Kp g S noD g S'
 ok : ∀ v, okS S v → okS S' v
 len : S'.obs.length = S.obs.length
theorem Frozen.refl (F : Fit g γ S n a) : Frozen g γ S S n a := ⟨F, fun _ _ _ _ => id, Kp.refl _ _ _, fun _ => id, rfl⟩
theorem Frozen.trans {S2 : St} (h : Frozen g γ S S1 n a) (k : Frozen g γ S1 S2 n a) : Frozen g γ S S2 n a :=
 ⟨k.fit, fun w0 D A w C => k.cx _ _ _ _ (h.cx _ _ _ _ C), h.kp.trans k.kp (fun _ => id) (fun _ => id), fun v hv => k.ok v (h.ok v hv), k.len.trans h.len⟩
theorem nJ {i : Nat} (h : S.ob i ≠ .gone) : i < S.obs.length := by
 rcases Nat.lt_or_ge i S.obs.length with hi | hi
 ·exact hi
 ·exact absurd (kF hi) h
theorem eZ : ∀ (ls : List At) {S : St}, Fit g γ S n a → Frozen g γ S (kB S ls) n a
 | [], S, F => Frozen.refl F
 | x :: r, S, F => by
   cases x with
   | sl o =>
     simp only [kB]
     split
     ·rename_i e t xs fu ho
      obtain ⟨f1, f2, f3, f4⟩ := xJ F ho (nJ (by rw [ho]; simp))
      exact Frozen.trans ⟨f1, f2, f3, f4, by simp [St.setOb]⟩ (eZ r f1)
     ·exact eZ r F
   | _ => exact eZ r F
theorem qI (F : Fit g γ S n a) (v : SV) : Frozen g γ S (xC S v) n a := by
 unfold xC
 split
 ·exact eZ _ F
 ·exact eZ _ F
 ·exact Frozen.refl F
theorem qJ : ∀ (vs : List (Nat × SV)) {S : St}, Fit g γ S n a → Frozen g γ S (qE S vs) n a
 | [], S, F => Frozen.refl F
 | p :: vs, S, F => Frozen.trans (qI F p.2) (qJ vs (qI F p.2).fit)
end
theorem HU {g g' : Env} (a : At) (h : ∀ o ∈ aN a, (g' o).v = (g o).v ∧ (g' o).bb = (g o).bb) : ba g' a = ba g a := by
 cases a <;> simp_all [ba, aN, GV.b, nt, gq]
theorem xK {g g' : Env} : ∀ (ls : List At), (∀ o ∈ ls.flatMap aN, (g' o).v = (g o).v ∧ (g' o).bb = (g o).bb) → aw g' ls = aw g ls
 | [], _ => rfl
 | a :: ls, h => by
   simp only [List.flatMap_cons, List.mem_append] at h
   have := xK ls (fun o ho => h o (.inr ho))
   simp only [aw] at this ⊢
   rw [List.flatMap_cons, List.flatMap_cons, HU a (fun o ho => h o (.inl ho)), this]
section
variable {g g' : Env}
theorem tE {i : Nat} {o : Ob} (h : g' i = g i) (hr : ∀ T ls, o = .box T ls → ∀ x ∈ ls.flatMap aN, (g' x).v = (g x).v ∧ (g' x).bb = (g x).bb) : an g' i o = an g i o := by
 cases o with
 | box T ls => simp only [an, qH, h, xK ls (hr T ls rfl)]
 | row e t xs m fu => cases m <;> simp only [an, h]
 | fleet e d xs ho => simp only [an, h]
 | gone => rfl
end
def VB (g g' : Env) (o : Nat) : Prop := (g' o).v = (g o).v ∧ (g' o).bb = (g o).bb
theorem B4 {g g' : Env} (a : At) (h : ∀ o ∈ aN a, VB g g' o) : aJ g' a = aJ g a := by
 cases a with
 | fl t x => cases t <;> rfl
 | _ => simp_all [aJ, aN, VB, GV.b, nt, gq]
theorem xL {g g' : Env} : ∀ (ls : List At), (∀ o ∈ ls.flatMap aN, VB g g' o) → ls.map (aJ g') = ls.map (aJ g)
 | [], _ => rfl
 | a :: ls, h => by
   simp only [List.flatMap_cons, List.mem_append] at h
   rw [List.map_cons, List.map_cons, B4 a (fun o ho => h o (.inl ho)), xL ls (fun o ho => h o (.inr ho))]
theorem B5 {g g' : Env} (x : V1) (h : ∀ o ∈ bi x, VB g g' o) : aU g' x = aU g x := by
 cases x with
 | a x => exact B4 x h
 | elp o sz i off => simp only [bi, List.mem_singleton, forall_eq] at h; simp only [aU, h.1]
 | arp b off t n i => simp only [bi, List.mem_singleton, forall_eq] at h; simp only [aU, GV.b, h.2]
 | fn f fs cs =>
   simp only [bi, List.mem_append] at h
   simp only [aU, xL fs (fun o ho => h o (.inl ho)), xL cs (fun o ho => h o (.inr ho))]
 | st ls => simp only [aU, xK ls h]
 | cutf o => simp only [bi, List.mem_singleton, forall_eq] at h; simp only [aU, h.1]
theorem qK {g g' : Env} (x : SV) (h : ∀ o ∈ aL x, VB g g' o) : aq g' x = aq g x := by
 cases x with
 | v x => exact B5 x h
 | tup xs =>
   simp only [aq]
   congr 2
   apply List.map_congr_left
   intro x hx
   exact B5 x (fun o ho => h o (List.mem_flatMap.2 ⟨x, hx, ho⟩))
def nilG : GV := ⟨.slice none 0 0, rfl, (0, fun _ => 0), [], [], []⟩
def pM (o : Ob) : Prop := ∃ e t xs m fu, o = .row e t xs m fu ∧ m ≠ .own
def Kh : Ob → Prop
 | .box _ _ => True
 | _ => False
def HV : Ob → Prop
 | .row _ _ _ .own _ => True
 | .fleet _ _ _ _ => True
 | _ => False
def K9 : Ob → Prop
 | .row _ _ _ _ _ => True
 | .fleet _ _ _ _ => True
 | _ => False
def lJ (S : St) (nb : Nat) (sy : List Nat) (pl : List Src) : Prop :=
 ∀ j o : Nat, pl[j]? = some (.ob o) → (HV (S.ob o) → ¬ (o < nb ∧ sy.elem o = true)) ∧ (Kh (S.ob o) → nb ≤ o) ∧ ∀ j' : Nat, j' ≠ j → pl[j']? = some (.ob o) → pM (S.ob o)
def Good (g g' : Env) (nb : Nat) (pl : List Src) : Prop :=
 (∀ i, i < nb → g' i = g i) ∧ ∀ j : Nat, (∀ o, pl[j]? = some (.ob o) → g' (nb + j) = g o) ∧ (∀ e t, pl[j]? = some (.nil e t) → g' (nb + j) = nilG) ∧ (∀ e d, pl[j]? = some (.nilr e d) → g' (nb + j) = nilG)
def vN : At → Bool
 | .nils _ _ | .nilr _ _ | .lit _ => false
 | _ => true
def uD : V1 → Bool
 | .a x => vN x
 | .fn _ fs cs => fs.all vN && cs.all vN
 | .st ls => ls.all vN
 | _ => false
def kt : SV → Bool
 | .v x => uD x
 | .tup xs => xs.all uD
theorem Good.pre {g g' : Env} {nb : Nat} {pl pl' : List Src} (h : Good g g' nb pl') (hp : pl <+: pl') : Good g g' nb pl := by
 obtain ⟨ext, rfl⟩ := hp
 refine ⟨h.1, fun j => ⟨fun o ho => (h.2 j).1 o ?_, fun e t ho => (h.2 j).2.1 e t ?_, fun e d ho => (h.2 j).2.2 e d ?_⟩⟩
 all_goals
  have hlt := (List.getElem?_eq_some_iff.1 ho).1
  rw [List.getElem?_append_left hlt]; exact ho
theorem jy {o : Nat} : ∀ {pl : List Src} {b j : Nat}, eQ o pl b = some j → b ≤ j ∧ pl[j - b]? = some (.ob o)
 | [], b, j, h => by simp [eQ] at h
 | .ob p :: r, b, j, h => by
   simp only [eQ] at h
   split at h
   ·rename_i e; cases h; subst e; simp
   ·obtain ⟨h1, h2⟩ := jy h
    refine ⟨by omega, ?_⟩
    rw [show j - b = (j - (b + 1)) + 1 by omega]; simpa using h2
 | .nil e t :: r, b, j, h => by
   simp only [eQ] at h
   obtain ⟨h1, h2⟩ := jy h
   refine ⟨by omega, ?_⟩
   rw [show j - b = (j - (b + 1)) + 1 by omega]; simpa using h2
 | .nilr e d :: r, b, j, h => by
   simp only [eQ] at h
   obtain ⟨h1, h2⟩ := jy h
   refine ⟨by omega, ?_⟩
   rw [show j - b = (j - (b + 1)) + 1 by omega]; simpa using h2
theorem jz {o : Nat} : ∀ {pl : List Src} {b : Nat}, eQ o pl b = none → ∀ j : Nat, pl[j]? ≠ some (.ob o)
 | [], b, h, j => by simp
 | .ob p :: r, b, h, j => by
   simp only [eQ] at h
   split at h
   ·cases h
   ·rename_i e
    match j with
    | 0 => simp only [List.getElem?_cons_zero, ne_eq, Option.some.injEq, Src.ob.injEq]; exact e
    | j + 1 => simpa using jz h j
 | .nil e t :: r, b, h, j => by
   simp only [eQ] at h
   match j with
   | 0 => simp
   | j + 1 => simpa using jz h j
 | .nilr e d :: r, b, h, j => by
   simp only [eQ] at h
   match j with
   | 0 => simp
   | j + 1 => simpa using jz h j
theorem wD {S : St} {nb : Nat} {sy : List Nat} {pl : List Src} (h : lJ S nb sy pl) {o : Nat} (h1 : HV (S.ob o) → ¬ (o < nb ∧ sy.elem o = true)) (h2 : Kh (S.ob o) → nb ≤ o)
 (h3 : (∀ j : Nat, pl[j]? ≠ some (.ob o)) ∨ pM (S.ob o)) : lJ S nb sy (pl ++ [.ob o]) := by
 have get : ∀ {j p : Nat}, (pl ++ [Src.ob o])[j]? = some (.ob p) → pl[j]? = some (.ob p) ∨ (j = pl.length ∧ p = o) := fun {j p} hj => by
  rcases Nat.lt_or_ge j pl.length with hlt | hge
  ·rw [List.getElem?_append_left hlt] at hj; exact .inl hj
  ·rw [List.getElem?_append_right hge] at hj
   match hk : j - pl.length, hj with
   | 0, hj => simp only [List.getElem?_cons_zero, Option.some.injEq, Src.ob.injEq] at hj; exact .inr ⟨by omega, hj.symm⟩
   | k + 1, hj => simp at hj
 intro j p hj
 rcases get hj with k | ⟨k1, k2⟩
 ·obtain ⟨q1, q2, q3⟩ := h j p k
  refine ⟨q1, q2, fun j' hne hj' => ?_⟩
  rcases get hj' with k' | ⟨k1, k2⟩
  ·exact q3 j' hne k'
  ·subst k2; exact h3.resolve_left (fun h => h j k)
 ·subst k2
  refine ⟨h1, h2, fun j' hne hj' => ?_⟩
  rcases get hj' with k' | ⟨k1', _⟩
  ·exact h3.resolve_left (fun h => h j' k')
  ·exact absurd (k1'.trans k1.symm) hne
theorem wE {S : St} {nb : Nat} {sy : List Nat} {pl : List Src} (h : lJ S nb sy pl) {s : Src} (hs : ∀ o, s ≠ .ob o) : lJ S nb sy (pl ++ [s]) := by
 have get : ∀ {j p : Nat}, (pl ++ [s])[j]? = some (.ob p) → pl[j]? = some (.ob p) := fun {j p} hj => by
  rcases Nat.lt_or_ge j pl.length with hlt | hge
  ·rwa [List.getElem?_append_left hlt] at hj
  ·rw [List.getElem?_append_right hge] at hj
   match hk : j - pl.length, hj with
   | 0, hj => exact absurd (by simpa using hj) (hs p)
   | k + 1, hj => simp at hj
 intro j p hj
 obtain ⟨q1, q2, q3⟩ := h j p (get hj)
 exact ⟨q1, q2, fun j' hne hj' => q3 j' hne (get hj')⟩
theorem Fd {S : St} {nb : Nat} {sy : List Nat} {pl : List Src} (h : lJ S nb sy pl) (e : Nat) (t : Ty) : lJ S nb sy (pl ++ [.nil e t]) := wE h (fun o h => by cases h)
theorem jR {S : St} {nb o : Nat} {sy : List Nat} {pl : List Src} (h : lJ S nb sy pl) (h1 : HV (S.ob o) → ¬ (o < nb ∧ sy.elem o = true)) (h2 : Kh (S.ob o) → nb ≤ o) :
 pl <+: (iT nb o pl).2 ∧ lJ S nb sy (iT nb o pl).2 ∧ (iT nb o pl).1 < nb + (iT nb o pl).2.length ∧ ∀ {g g' : Env}, Good g g' nb (iT nb o pl).2 → g' (iT nb o pl).1 = g o := by
 unfold iT
 split
 ·rename_i j hj
  obtain ⟨_, hj⟩ := jy hj
  rw [Nat.sub_zero] at hj
  have := (List.getElem?_eq_some_iff.1 hj).1
  exact ⟨List.prefix_refl _, h, by simp only; omega, fun hg => (hg.2 j).1 o hj⟩
 ·rename_i hn
  refine ⟨List.prefix_append _ _, wD h h1 h2 (.inl (jz hn)), by simp, fun hg => (hg.2 pl.length).1 o (by simp)⟩
structure RenOk (S : St) (nb : Nat) (sy : List Nat) (pl pl' : List Src) (rf : List Nat) (en : Env → Env → Prop) : Prop where
 pre : pl <+: pl'
 ok : lJ S nb sy pl'
 refs : ∀ o ∈ rf, o < nb + pl'.length
 enc : ∀ g g' : Env, Good g g' nb pl' → en g g'
theorem wF {S : St} {nb : Nat} {sy : List Nat} {a a' : At} {pl pl' : List Src} (hpl : lJ S nb sy pl) (h : kV S nb sy a pl = some (a', pl')) :
 vN a' = true ∧ (gP a = true → gP a' = true) ∧ RenOk S nb sy pl pl' (aN a') (fun g g' => ba g' a' = ba g a ∧ aJ g' a' = aJ g a) := by
 have triv : ∀ {x : At}, (∀ g g' : Env, ba g' x = ba g a ∧ aJ g' x = aJ g a) → aN x = [] → RenOk S nb sy pl pl (aN x) (fun g g' => ba g' x = ba g a ∧ aJ g' x = aJ g a) := fun h hr =>
  ⟨List.prefix_refl _, hpl, (by rw [hr]; intro o ho; cases ho), fun g g' _ => h g g'⟩
 have idx : ∀ {x : Nat}, x < nb → ∀ {g g' : Env}, Good g g' nb pl → g' x = g x := fun hx => @fun g g' hg => hg.1 _ hx
 have ref1 : ∀ {i m : Nat}, i < m → ∀ o ∈ [i], o < m := fun h o ho => by simp only [List.mem_singleton] at ho; subst ho; exact h
 cases a with
 | fl t x => simp only [kV, Option.some.injEq, Prod.mk.injEq] at h; obtain ⟨rfl, rfl⟩ := h; exact ⟨rfl, fun _ => rfl, triv (fun _ _ => by cases t <;> exact ⟨rfl, rfl⟩) rfl⟩
 | lit b => simp only [kV, Option.some.injEq, Prod.mk.injEq] at h; obtain ⟨rfl, rfl⟩ := h; exact ⟨rfl, fun _ => rfl, triv (fun _ _ => ⟨rfl, rfl⟩) rfl⟩
 | sl o =>
   simp only [kV] at h
   split at h
   ·rename_i e t xs fu ho
    split at h
    ·rename_i hs
     simp only [Bool.and_eq_true, decide_eq_true_eq] at hs
     simp only [Option.some.injEq, Prod.mk.injEq] at h; obtain ⟨rfl, rfl⟩ := h
     exact ⟨rfl, fun _ => rfl, List.prefix_refl _, hpl, ref1 (by omega), fun g g' hg => by simp only [ba, aJ, idx hs.1 hg, and_self]⟩
    ·rename_i hs
     simp only [Bool.and_eq_true, decide_eq_true_eq] at hs
     simp only [Option.some.injEq, Prod.mk.injEq] at h; obtain ⟨rfl, rfl⟩ := h
     obtain ⟨q1, q2, q3, q4⟩ := jR (o := o) hpl (fun _ => hs) (fun h => by rw [ho] at h; exact h.elim)
     exact ⟨rfl, fun _ => rfl, q1, q2, ref1 q3, fun g g' hg => by simp only [ba, aJ, q4 hg, and_self]⟩
   ·rename_i e t xs m fu hm ho
    simp only [Option.some.injEq, Prod.mk.injEq] at h; obtain ⟨rfl, rfl⟩ := h
    have hmo : m ≠ .own := fun e => hm e
    refine ⟨rfl, fun _ => rfl, List.prefix_append _ _, wD hpl (fun h => ?_) (fun h => by rw [ho] at h; exact h.elim) (.inr ⟨e, t, xs, m, fu, ho, hmo⟩), ref1 (by simp), fun g g' hg => ?_⟩
    ·rw [ho] at h; cases m <;> first | exact absurd rfl hmo | exact h.elim
    ·have := (hg.2 pl.length).1 o (by simp)
     simp only [ba, aJ, this, and_self]
   ·rename_i e d xs ho
    split at h
    ·rename_i hs
     simp only [Bool.and_eq_true, decide_eq_true_eq] at hs
     simp only [Option.some.injEq, Prod.mk.injEq] at h; obtain ⟨rfl, rfl⟩ := h
     exact ⟨rfl, fun _ => rfl, List.prefix_refl _, hpl, ref1 (by omega), fun g g' hg => by simp only [ba, aJ, idx hs.1 hg, and_self]⟩
    ·rename_i hs
     simp only [Bool.and_eq_true, decide_eq_true_eq] at hs
     simp only [Option.some.injEq, Prod.mk.injEq] at h; obtain ⟨rfl, rfl⟩ := h
     obtain ⟨q1, q2, q3, q4⟩ := jR (o := o) (sy := sy) hpl (fun _ => hs) (fun h => by rw [ho] at h; exact h.elim)
     exact ⟨rfl, fun _ => rfl, q1, q2, ref1 q3, fun g g' hg => by simp only [ba, aJ, q4 hg, and_self]⟩
   ·cases h
 | nils e t =>
   simp only [kV, Option.some.injEq, Prod.mk.injEq] at h; obtain ⟨rfl, rfl⟩ := h
   refine ⟨rfl, fun _ => rfl, List.prefix_append _ _, Fd hpl e t, ref1 (by simp), fun g g' hg => ?_⟩
   have := (hg.2 pl.length).2.1 e t (by simp)
   simp only [ba, aJ, this, nilG, and_self]
 | nil0 => simp only [kV, Option.some.injEq, Prod.mk.injEq] at h; obtain ⟨rfl, rfl⟩ := h; exact ⟨rfl, fun _ => rfl, triv (fun _ _ => ⟨rfl, rfl⟩) rfl⟩
 | nilr e d =>
   simp only [kV, Option.some.injEq, Prod.mk.injEq] at h; obtain ⟨rfl, rfl⟩ := h
   refine ⟨rfl, fun _ => rfl, List.prefix_append _ _, wE hpl (fun o h => by cases h), ref1 (by simp), fun g g' hg => ?_⟩
   have := (hg.2 pl.length).2.2 e d (by simp)
   simp only [ba, aJ, this, nilG, and_self]
 | pel o k off =>
   simp only [kV] at h
   split at h
   ·rename_i e d xs ho
    split at h
    ·rename_i hs
     simp only [Bool.and_eq_true, decide_eq_true_eq] at hs
     simp only [Option.some.injEq, Prod.mk.injEq] at h; obtain ⟨rfl, rfl⟩ := h
     exact ⟨rfl, fun _ => rfl, List.prefix_refl _, hpl, ref1 (by omega), fun g g' hg => by simp only [ba, aJ, idx hs.1 hg, and_self]⟩
    ·rename_i hs
     simp only [Bool.and_eq_true, decide_eq_true_eq] at hs
     simp only [Option.some.injEq, Prod.mk.injEq] at h; obtain ⟨rfl, rfl⟩ := h
     obtain ⟨q1, q2, q3, q4⟩ := jR (o := o) (sy := sy) hpl (fun _ => hs) (fun h => by rw [ho] at h; exact h.elim)
     exact ⟨rfl, fun _ => rfl, q1, q2, ref1 q3, fun g g' hg => by simp only [ba, aJ, q4 hg, and_self]⟩
   ·cases h
 | ptr b off =>
   simp only [kV] at h
   split at h
   ·rename_i hb
    simp only [Option.some.injEq, Prod.mk.injEq] at h; obtain ⟨rfl, rfl⟩ := h
    exact ⟨rfl, fun _ => rfl, List.prefix_refl _, hpl, ref1 (by omega), fun g g' hg => by simp only [ba, aJ, idx hb hg, and_self]⟩
   ·rename_i hb
    simp only [Option.some.injEq, Prod.mk.injEq] at h; obtain ⟨rfl, rfl⟩ := h
    obtain ⟨q1, q2, q3, q4⟩ := jR (o := b) (sy := sy) hpl (fun _ hs => hb hs.1) (fun _ => by omega)
    exact ⟨rfl, fun _ => rfl, q1, q2, ref1 q3, fun g g' hg => by simp only [ba, aJ, q4 hg, and_self]⟩
 | asl b off n =>
   simp only [kV] at h
   split at h
   ·rename_i hb
    simp only [Option.some.injEq, Prod.mk.injEq] at h; obtain ⟨rfl, rfl⟩ := h
    exact ⟨rfl, fun _ => rfl, List.prefix_refl _, hpl, ref1 (by omega), fun g g' hg => by simp only [ba, aJ, idx hb hg, and_self]⟩
   ·rename_i hb
    simp only [Option.some.injEq, Prod.mk.injEq] at h; obtain ⟨rfl, rfl⟩ := h
    obtain ⟨q1, q2, q3, q4⟩ := jR (o := b) (sy := sy) hpl (fun _ hs => hb hs.1) (fun _ => by omega)
    exact ⟨rfl, fun _ => rfl, q1, q2, ref1 q3, fun g g' hg => by simp only [ba, aJ, q4 hg, and_self]⟩
 | nilp => simp only [kV, Option.some.injEq, Prod.mk.injEq] at h; obtain ⟨rfl, rfl⟩ := h; exact ⟨rfl, fun _ => rfl, triv (fun _ _ => ⟨rfl, rfl⟩) rfl⟩
 | nilf => simp only [kV, Option.some.injEq, Prod.mk.injEq] at h; obtain ⟨rfl, rfl⟩ := h; exact ⟨rfl, fun _ => rfl, triv (fun _ _ => ⟨rfl, rfl⟩) rfl⟩
 | nili => simp only [kV, Option.some.injEq, Prod.mk.injEq] at h; obtain ⟨rfl, rfl⟩ := h; exact ⟨rfl, fun _ => rfl, triv (fun _ _ => ⟨rfl, rfl⟩) rfl⟩
 | un => simp only [kV, Option.some.injEq, Prod.mk.injEq] at h; obtain ⟨rfl, rfl⟩ := h; exact ⟨rfl, (fun h => by cases h), triv (fun _ _ => ⟨rfl, rfl⟩) rfl⟩
theorem ir {S : St} {nb : Nat} {sy : List Nat} : ∀ {ls ls' : List At} {pl pl' : List Src}, lJ S nb sy pl → eU (kV S nb sy) ls pl = some (ls', pl') →
 ls'.all vN = true ∧ (ls.all gP = true → ls'.all gP = true) ∧ RenOk S nb sy pl pl' (ls'.flatMap aN) (fun g g' => aw g' ls' = aw g ls ∧ ls'.map (aJ g') = ls.map (aJ g))
 | [], ls', pl, pl', hpl, h => by
   simp only [eU, Option.some.injEq, Prod.mk.injEq] at h; obtain ⟨rfl, rfl⟩ := h
   exact ⟨rfl, fun _ => rfl, List.prefix_refl _, hpl, by simp, fun _ _ _ => ⟨rfl, rfl⟩⟩
 | a :: ls, ls', pl, pl', hpl, h => by
   simp only [eU] at h
   split at h
   ·rename_i a' pl1 ha
    split at h
    ·rename_i ls1 pl2 hl
     simp only [Option.some.injEq, Prod.mk.injEq] at h; obtain ⟨rfl, rfl⟩ := h
     obtain ⟨n1, s1, r1⟩ := wF hpl ha
     obtain ⟨n2, s2, r2⟩ := ir r1.ok hl
     refine ⟨by simp [n1, n2], fun hs => ?_, r1.pre.trans r2.pre, r2.ok, ?_, ?_⟩
     ·simp only [List.all_cons, Bool.and_eq_true] at hs ⊢
      exact ⟨s1 hs.1, s2 hs.2⟩
     ·intro o ho
      simp only [List.flatMap_cons, List.mem_append] at ho
      rcases ho with ho | ho
      ·have h1 := r1.refs o ho; have h2 := r2.pre.length_le; exact Nat.lt_of_lt_of_le h1 (Nat.add_le_add_left h2 nb)
      ·exact r2.refs o ho
     ·intro g g' hg
      have q1 := r1.enc g g' (hg.pre r2.pre)
      have q2 := r2.enc g g' hg
      refine ⟨?_, by simp only [List.map_cons, q1.2, q2.2]⟩
      have := q2.1
      simp only [aw] at this ⊢
      simp only [List.flatMap_cons, q1.1, this]
    ·cases h
   ·cases h
theorem wG {S : St} {nb : Nat} {sy : List Nat} {x x' : V1} {pl pl' : List Src} (hpl : lJ S nb sy pl) (h : AE S nb sy x pl = some (x', pl')) :
 uD x' = true ∧ RenOk S nb sy pl pl' (bi x') (fun g g' => aU g' x' = aU g x) := by
 cases x with
 | a x =>
   simp only [AE, Option.map_eq_some_iff, Prod.mk.injEq] at h
   obtain ⟨⟨y, q⟩, hy, rfl, rfl⟩ := h
   obtain ⟨n, _, r⟩ := wF hpl hy
   exact ⟨n, r.pre, r.ok, r.refs, fun g g' hg => (r.enc g g' hg).2⟩
 | fn f fs cs =>
   simp only [AE] at h
   split at h
   ·rename_i a pl1 ha
    simp only [Option.map_eq_some_iff, Prod.mk.injEq] at h
    obtain ⟨⟨y, q⟩, hy, rfl, rfl⟩ := h
    obtain ⟨n1, _, r1⟩ := ir hpl ha
    obtain ⟨n2, _, r2⟩ := ir r1.ok hy
    refine ⟨by simp [uD, n1, n2], r1.pre.trans r2.pre, r2.ok, fun o ho => ?_, fun g g' hg => ?_⟩
    ·simp only [bi, List.mem_append] at ho
     rcases ho with ho | ho
     ·have h1 := r1.refs o ho; have h2 := r2.pre.length_le; exact Nat.lt_of_lt_of_le h1 (Nat.add_le_add_left h2 nb)
     ·exact r2.refs o ho
    ·have q1 := r1.enc g g' (hg.pre r2.pre)
     have q2 := r2.enc g g' hg
     simp only [aU, q1.2, q2.2]
   ·cases h
 | st ls =>
   simp only [AE, Option.map_eq_some_iff, Prod.mk.injEq] at h
   obtain ⟨⟨y, q⟩, hy, rfl, rfl⟩ := h
   obtain ⟨n, _, r⟩ := ir hpl hy
   exact ⟨n, r.pre, r.ok, r.refs, fun g g' hg => by simp only [aU, (r.enc g g' hg).1]⟩
 | elp o sz i off => cases h
 | cutf o => cases h
 | arp b off t n i => cases h
theorem uE {S : St} {nb : Nat} {sy : List Nat} : ∀ {ls ls' : List V1} {pl pl' : List Src}, lJ S nb sy pl → eU (AE S nb sy) ls pl = some (ls', pl') →
 ls'.all uD = true ∧ RenOk S nb sy pl pl' (ls'.flatMap bi) (fun g g' => ls'.map (aU g') = ls.map (aU g))
 | [], ls', pl, pl', hpl, h => by
   simp only [eU, Option.some.injEq, Prod.mk.injEq] at h; obtain ⟨rfl, rfl⟩ := h
   exact ⟨rfl, List.prefix_refl _, hpl, by simp, fun _ _ _ => rfl⟩
 | a :: ls, ls', pl, pl', hpl, h => by
   simp only [eU] at h
   split at h
   ·rename_i a' pl1 ha
    split at h
    ·rename_i ls1 pl2 hl
     simp only [Option.some.injEq, Prod.mk.injEq] at h; obtain ⟨rfl, rfl⟩ := h
     obtain ⟨n1, r1⟩ := wG hpl ha
     obtain ⟨n2, r2⟩ := uE r1.ok hl
     refine ⟨by simp [n1, n2], r1.pre.trans r2.pre, r2.ok, ?_, ?_⟩
     ·intro o ho
      simp only [List.flatMap_cons, List.mem_append] at ho
      rcases ho with ho | ho
      ·have h1 := r1.refs o ho; have h2 := r2.pre.length_le; exact Nat.lt_of_lt_of_le h1 (Nat.add_le_add_left h2 nb)
      ·exact r2.refs o ho
     ·intro g g' hg
      simp only [List.map_cons, r1.enc g g' (hg.pre r2.pre), r2.enc g g' hg]
    ·cases h
   ·cases h
theorem Da {S : St} {nb : Nat} {sy : List Nat} {x x' : SV} {pl pl' : List Src} (hpl : lJ S nb sy pl) (h : HI S nb sy x pl = some (x', pl')) :
 kt x' = true ∧ RenOk S nb sy pl pl' (aL x') (fun g g' => aq g' x' = aq g x) := by
 cases x with
 | v x =>
   simp only [HI, Option.map_eq_some_iff, Prod.mk.injEq] at h
   obtain ⟨⟨y, q⟩, hy, rfl, rfl⟩ := h
   exact wG hpl hy
 | tup xs =>
   simp only [HI, Option.map_eq_some_iff, Prod.mk.injEq] at h
   obtain ⟨⟨y, q⟩, hy, rfl, rfl⟩ := h
   obtain ⟨n, r⟩ := uE hpl hy
   exact ⟨n, r.pre, r.ok, r.refs, fun g g' hg => by simp only [aq, r.enc g g' hg]⟩
theorem fZ {S : St} {nb : Nat} {sy : List Nat} : ∀ (C : List Nat) {pl : List Src}, lJ S nb sy pl →
 RenOk S nb sy pl (bV S nb sy C pl).2 ((bV S nb sy C pl).1.flatMap fun p => aL p.2) (fun g g' => ∀ p ∈ (bV S nb sy C pl).1, p.1 ∈ C ∧ kt p.2 = true ∧ ∃ sv, aA S.slots p.1 = some sv ∧ aq g' p.2 = aq g sv)
 | [], pl, hpl => ⟨List.prefix_refl _, hpl, by simp [bV], fun _ _ _ p hp => by simp [bV] at hp⟩
 | t :: C, pl, hpl => by
   simp only [bV]
   split
   ·rename_i v pl1 hv
    obtain ⟨sv, hsv, hr⟩ := Option.bind_eq_some_iff.1 hv
    obtain ⟨n1, r1⟩ := Da hpl hr
    have r2 := fZ C r1.ok
    refine ⟨r1.pre.trans r2.pre, r2.ok, ?_, ?_⟩
    ·intro o ho
     simp only [List.flatMap_cons, List.mem_append] at ho
     rcases ho with ho | ho
     ·have h1 := r1.refs o ho; have h2 := r2.pre.length_le; exact Nat.lt_of_lt_of_le h1 (Nat.add_le_add_left h2 nb)
     ·exact r2.refs o ho
    ·intro g g' hg p hp
     rcases List.mem_cons.1 hp with rfl | hp
     ·exact ⟨List.mem_cons_self .., n1, sv, hsv, r1.enc g g' (hg.pre r2.pre)⟩
     ·obtain ⟨q1, q2⟩ := r2.enc g g' hg p hp
      exact ⟨List.mem_cons_of_mem _ q1, q2⟩
   ·have r2 := fZ C hpl
    refine ⟨r2.pre, r2.ok, r2.refs, fun g g' hg p hp => ?_⟩
    obtain ⟨q1, q2⟩ := r2.enc g g' hg p hp
    exact ⟨List.mem_cons_of_mem _ q1, q2⟩
def oX (g g' : Env) (ob0 ob : Ob) (bd : Nat) : Prop :=
 match ob with
 | .gone => True
 | .box T ls => ∃ ls0, ob0 = .box T ls0 ∧ aw g' ls = aw g ls0 ∧ (ls0.all gP = true → ls.all gP = true) ∧ ∀ o ∈ ls.flatMap aN, o < bd
 | .row e t xs m fu => ∃ m0 fu0, ob0 = .row e t xs m0 fu0 ∧ leM m0 m = true ∧ (fu = true → fu0 = true)
 | .fleet e d xs h => ob0 = .fleet e d xs h
def uF : Ob → Bool
 | .box _ ls => ls.all vN
 | .row _ _ _ _ fu => !fu
 | .fleet _ _ _ h => h.isNone
 | .gone => true
theorem qL (m : Md) : leM m m = true := by cases m <;> rfl
theorem cY {S : St} {nb : Nat} {sy : List Nat} : ∀ {M : List Nat} {bx : List (Nat × Ob)} {pl pl' : List Src}, lJ S nb sy pl → iU S nb sy M pl = some (bx, pl') →
 bx.map (·.1) = M ∧ RenOk S nb sy pl pl' [] (fun g g' => ∀ p ∈ bx, uF p.2 = true ∧ oX g g' (S.ob p.1) p.2 (nb + pl'.length) ∧ (K9 p.2 → sy.elem p.1 = true))
 | [], bx, pl, pl', hpl, h => by
   simp only [iU, Option.some.injEq, Prod.mk.injEq] at h; obtain ⟨rfl, rfl⟩ := h
   exact ⟨rfl, List.prefix_refl _, hpl, by simp, fun _ _ _ p hp => by simp at hp⟩
 | b :: M, bx, pl, pl', hpl, h => by
   simp only [iU] at h
   split at h
   ·rename_i T ls hb
    split at h
    ·rename_i ls' pl1 hl
     simp only [Option.map_eq_some_iff, Prod.mk.injEq] at h
     obtain ⟨⟨bx1, q⟩, hy, rfl, rfl⟩ := h
     obtain ⟨n1, s1, r1⟩ := ir hpl hl
     obtain ⟨e2, r2⟩ := cY r1.ok hy
     refine ⟨by simp [e2], r1.pre.trans r2.pre, r2.ok, by simp, fun g g' hg p hp => ?_⟩
     rcases List.mem_cons.1 hp with rfl | hp
     ·refine ⟨n1, ⟨ls, hb, (r1.enc g g' (hg.pre r2.pre)).1, s1, fun o ho => ?_⟩, fun h => h.elim⟩
      have h1 := r1.refs o ho; have h2 := r2.pre.length_le; exact Nat.lt_of_lt_of_le h1 (Nat.add_le_add_left h2 nb)
     ·exact r2.enc g g' hg p hp
    ·cases h
   ·rename_i e t xs m fu hb
    simp only [Option.map_eq_some_iff, Prod.mk.injEq] at h
    obtain ⟨⟨bx1, q⟩, hy, rfl, rfl⟩ := h
    obtain ⟨e2, r2⟩ := cY hpl hy
    refine ⟨by simp [e2], r2.pre, r2.ok, by simp, fun g g' hg p hp => ?_⟩
    rcases List.mem_cons.1 hp with rfl | hp
    ·simp only
     split
     ·rename_i hs
      exact ⟨rfl, ⟨m, fu, hb, qL m, fun h => by cases h⟩, fun _ => hs⟩
     ·exact ⟨rfl, trivial, fun h => h.elim⟩
    ·exact r2.enc g g' hg p hp
   ·rename_i e d xs hb
    simp only [Option.map_eq_some_iff, Prod.mk.injEq] at h
    obtain ⟨⟨bx1, q⟩, hy, rfl, rfl⟩ := h
    obtain ⟨e2, r2⟩ := cY hpl hy
    refine ⟨by simp [e2], r2.pre, r2.ok, by simp, fun g g' hg p hp => ?_⟩
    rcases List.mem_cons.1 hp with rfl | hp
    ·simp only
     split
     ·rename_i hs; exact ⟨rfl, hb, fun _ => hs⟩
     ·exact ⟨rfl, trivial, fun h => h.elim⟩
    ·exact r2.enc g g' hg p hp
   ·cases h
   ·rename_i hb
    simp only [Option.map_eq_some_iff, Prod.mk.injEq] at h
    obtain ⟨⟨bx1, q⟩, hy, rfl, rfl⟩ := h
    obtain ⟨e2, r2⟩ := cY hpl hy
    refine ⟨by simp [e2], r2.pre, r2.ok, by simp, fun g g' hg p hp => ?_⟩
    rcases List.mem_cons.1 hp with rfl | hp
    ·exact ⟨rfl, trivial, fun h => h.elim⟩
    ·exact r2.enc g g' hg p hp
theorem cR {S : St} {nb : Nat} {sy : List Nat} : ∀ {fuel j : Nat} {os : List Ob} {pl pl' : List Src}, lJ S nb sy pl → j ≤ pl.length → jv S nb sy fuel j pl = some (os, pl') →
 j + os.length = pl'.length ∧ RenOk S nb sy pl pl' [] (fun g g' => ∀ (i : Nat) ob, os[i]? = some ob → uF ob = true ∧ ((∃ o, pl'[j + i]? = some (.ob o) ∧ ob ≠ .gone ∧ oX g g' (S.ob o) ob (nb + pl'.length)) ∨ (∃ e t, pl'[j + i]? = some (.nil e t) ∧ ob = .row e t [] .own false) ∨ ∃ e d, pl'[j + i]? = some (.nilr e d) ∧ ob = .fleet e d [] none))
 | 0, j, os, pl, pl', hpl, hj, h => by simp [jv] at h
 | fuel + 1, j, os, pl, pl', hpl, hj, h => by
   have keep : ∀ {pl pl' : List Src} {s : Src}, pl <+: pl' → pl[j]? = some s → pl'[j]? = some s := fun {pl pl' s} hp hs => by
    obtain ⟨ext, rfl⟩ := hp
    rw [List.getElem?_append_left (List.getElem?_eq_some_iff.1 hs).1]; exact hs
   simp only [jv] at h
   split at h
   ·rename_i hn
    simp only [Option.some.injEq, Prod.mk.injEq] at h; obtain ⟨rfl, rfl⟩ := h
    have := List.getElem?_eq_none_iff.1 hn
    exact ⟨by simp; omega, List.prefix_refl _, hpl, by simp, fun _ _ _ i ob hi => by simp at hi⟩
   ·rename_i e t hs
    simp only [Option.map_eq_some_iff, Prod.mk.injEq] at h
    obtain ⟨⟨os1, q⟩, hy, rfl, rfl⟩ := h
    obtain ⟨e2, r2⟩ := cR hpl (by have := (List.getElem?_eq_some_iff.1 hs).1; omega) hy
    refine ⟨by simp; omega, r2.pre, r2.ok, by simp, fun g g' hg i ob hi => ?_⟩
    match i with
    | 0 =>
      simp only [List.getElem?_cons_zero, Option.some.injEq] at hi
      subst hi
      exact ⟨rfl, .inr (.inl ⟨e, t, by rw [Nat.add_zero]; exact keep r2.pre hs, rfl⟩)⟩
    | i + 1 =>
      have := r2.enc g g' hg i ob (by simpa using hi)
      rwa [show j + 1 + i = j + (i + 1) by omega] at this
   ·rename_i e d hs
    simp only [Option.map_eq_some_iff, Prod.mk.injEq] at h
    obtain ⟨⟨os1, q⟩, hy, rfl, rfl⟩ := h
    obtain ⟨e2, r2⟩ := cR hpl (by have := (List.getElem?_eq_some_iff.1 hs).1; omega) hy
    refine ⟨by simp; omega, r2.pre, r2.ok, by simp, fun g g' hg i ob hi => ?_⟩
    match i with
    | 0 =>
      simp only [List.getElem?_cons_zero, Option.some.injEq] at hi
      subst hi
      exact ⟨rfl, .inr (.inr ⟨e, d, by rw [Nat.add_zero]; exact keep r2.pre hs, rfl⟩)⟩
    | i + 1 =>
      have := r2.enc g g' hg i ob (by simpa using hi)
      rwa [show j + 1 + i = j + (i + 1) by omega] at this
   ·rename_i o hs
    split at h
    ·rename_i T ls hb
     split at h
     ·rename_i ls' pl1 hl
      simp only [Option.map_eq_some_iff, Prod.mk.injEq] at h
      obtain ⟨⟨os1, q⟩, hy, rfl, rfl⟩ := h
      obtain ⟨n1, s1, r1⟩ := ir hpl hl
      obtain ⟨e2, r2⟩ := cR r1.ok (by have := (List.getElem?_eq_some_iff.1 hs).1; have := r1.pre.length_le; omega) hy
      refine ⟨by simp; omega, r1.pre.trans r2.pre, r2.ok, by simp, fun g g' hg i ob hi => ?_⟩
      match i with
      | 0 =>
        simp only [List.getElem?_cons_zero, Option.some.injEq] at hi
        subst hi
        refine ⟨n1, .inl ⟨o, by rw [Nat.add_zero]; exact keep (r1.pre.trans r2.pre) hs, by simp, ls, hb, (r1.enc g g' (hg.pre r2.pre)).1, s1, fun o ho => ?_⟩⟩
        have h1 := r1.refs o ho; have h2 := r2.pre.length_le; exact Nat.lt_of_lt_of_le h1 (Nat.add_le_add_left h2 nb)
      | i + 1 =>
        have := r2.enc g g' hg i ob (by simpa using hi)
        rwa [show j + 1 + i = j + (i + 1) by omega] at this
     ·cases h
    ·rename_i e t xs m fu hb
     simp only [Option.map_eq_some_iff, Prod.mk.injEq] at h
     obtain ⟨⟨os1, q⟩, hy, rfl, rfl⟩ := h
     obtain ⟨e2, r2⟩ := cR hpl (by have := (List.getElem?_eq_some_iff.1 hs).1; omega) hy
     refine ⟨by simp; omega, r2.pre, r2.ok, by simp, fun g g' hg i ob hi => ?_⟩
     match i with
     | 0 =>
       simp only [List.getElem?_cons_zero, Option.some.injEq] at hi
       subst hi
       exact ⟨rfl, .inl ⟨o, by rw [Nat.add_zero]; exact keep r2.pre hs, by simp, m, fu, hb, qL m, fun h => by cases h⟩⟩
     | i + 1 =>
       have := r2.enc g g' hg i ob (by simpa using hi)
       rwa [show j + 1 + i = j + (i + 1) by omega] at this
    ·rename_i e d xs hb
     simp only [Option.map_eq_some_iff, Prod.mk.injEq] at h
     obtain ⟨⟨os1, q⟩, hy, rfl, rfl⟩ := h
     obtain ⟨e2, r2⟩ := cR hpl (by have := (List.getElem?_eq_some_iff.1 hs).1; omega) hy
     refine ⟨by simp; omega, r2.pre, r2.ok, by simp, fun g g' hg i ob hi => ?_⟩
     match i with
     | 0 =>
       simp only [List.getElem?_cons_zero, Option.some.injEq] at hi
       subst hi
       exact ⟨rfl, .inl ⟨o, by rw [Nat.add_zero]; exact keep r2.pre hs, by simp, hb⟩⟩
     | i + 1 =>
       have := r2.enc g g' hg i ob (by simpa using hi)
       rwa [show j + 1 + i = j + (i + 1) by omega] at this
    ·cases h
    ·cases h
theorem cm {t : Ty} (x : t.den) : ct (a := t) (b := t) x = some x := by unfold ct; rw [dif_pos rfl]
theorem Fe {a : At} (h : vN a = true) (ds : List Dyn) : fiA (shA a) (coA a ++ ds) = some (a, ds) := by
 cases a with
 | fl t x =>
   show (ct (a := t) (b := t) x).map (fun x => (At.fl t x, ds)) = _
   rw [cm]; rfl
 | lit b => cases h
 | nils e t => cases h
 | nilr e d => cases h
 | pel o k off =>
   show (ct (a := .int .i64) (b := .int .i64) k).map (fun (k : Int) => (At.pel o k off, ds)) = _
   rw [cm (t := .int .i64)]; rfl
 | _ => rfl
theorem oJ {α β : Type} {f : β → List Dyn → Option (α × List Dyn)} {sh : α → β} {co : α → List Dyn} : ∀ (xs : List α) (ds : List Dyn), (∀ x ∈ xs, ∀ ds, f (sh x) (co x ++ ds) = some (x, ds)) → bo f (xs.map sh) (xs.flatMap co ++ ds) = some (xs, ds)
 | [], ds, _ => rfl
 | x :: xs, ds, h => by
   simp only [List.map_cons, List.flatMap_cons, bo, List.append_assoc, h x (List.mem_cons_self ..), oJ xs ds (fun y hy => h y (List.mem_cons_of_mem _ hy))]
theorem tF {ls : List At} (h : ls.all vN = true) (ds : List Dyn) : bo fiA (ls.map shA) (coL ls ++ ds) = some (ls, ds) :=
 oJ ls ds (fun x hx ds => Fe (List.all_eq_true.1 h x hx) ds)
theorem Ff {x : V1} (h : uD x = true) (ds : List Dyn) : fiV (shV x) (coV x ++ ds) = some (x, ds) := by
 cases x with
 | a x => simp only [shV, coV, fiV, Fe h, Option.map_some]
 | fn f fs cs =>
   simp only [uD, Bool.and_eq_true] at h
   simp only [shV, coV, fiV, List.append_assoc, tF h.1, tF h.2, Option.map_some]
 | st ls => simp only [shV, coV, fiV, tF h, Option.map_some]
 | elp o sz i off => cases h
 | cutf o => cases h
 | arp b off t n i => cases h
theorem Ki {x : SV} (h : kt x = true) (ds : List Dyn) : fiS (shS x) (coS x ++ ds) = some (x, ds) := by
 cases x with
 | v x => simp only [shS, coS, fiS, Ff h, Option.map_some]
 | tup xs =>
   simp only [shS, coS, fiS, oJ xs ds (fun x hx ds => Ff (List.all_eq_true.1 h x hx) ds), Option.map_some]
def Wk (c : Bool) (ob ob' : Ob) : Prop := match ob with
 | .row e t xs m fu => ∃ m', ob' = .row e t xs m' fu ∧ leM m m' = true
 | .fleet e d xs hl => ob' = .fleet e d xs hl ∨ c = true ∧ ob' = .fleet e d.lent xs hl
 | o => ob' = o
def All2 {α β : Type} (R : α → β → Prop) : List α → List β → Prop
 | [], [] => True
 | x :: xs, y :: ys => R x y ∧ All2 R xs ys
 | _, _ => False
theorem All2.len {α β : Type} {R : α → β → Prop} : ∀ {xs : List α} {ys : List β}, All2 R xs ys → xs.length = ys.length
 | [], [], _ => rfl
 | x :: xs, y :: ys, h => by simp [All2.len h.2]
 | [], _ :: _, h => h.elim
 | _ :: _, [], h => h.elim
theorem All2.get {α β : Type} {R : α → β → Prop} : ∀ {xs : List α} {ys : List β} {i : Nat} {y : β}, All2 R xs ys → ys[i]? = some y → ∃ x, xs[i]? = some x ∧ R x y
 | [], [], i, y, _, h => by simp at h
 | x :: xs, z :: ys, 0, y, h, hi => by simp only [List.getElem?_cons_zero, Option.some.injEq] at hi; subst hi; exact ⟨x, rfl, h.1⟩
 | x :: xs, z :: ys, i + 1, y, h, hi => All2.get (i := i) h.2 (by simpa using hi)
 | [], _ :: _, _, _, h, _ => h.elim
 | _ :: _, [], _, _, h, _ => h.elim
theorem Wk.fl {e : Nat} {d : Kd} {xs : List (bm d).den} {hl : Option Nat} {ob' : Ob} (h : Wk false (.fleet e d xs hl) ob') : ob' = .fleet e d xs hl := by
 rcases (show ob' = .fleet e d xs hl ∨ _ from h) with h | ⟨hc, _⟩
 ·exact h
 ·cases hc
theorem Fg {c : Bool} {ob : Ob} {s : OSh} (h : uF ob = true) (hs : leO c (shO ob) s = true) (ds : List Dyn) : ∃ ob', fiO s (coO ob ++ ds) = some (ob', ds) ∧ Wk c ob ob' := by
 cases ob with
 | box T ls =>
   have : s = .box T (ls.map shA) := by
    cases s <;> simp [shO, leO] at hs
    simp [hs]
   subst this
   exact ⟨_, by simp only [coO, fiO, tF h, Option.map_some], rfl⟩
 | row e t xs m fu =>
   cases s with
   | row e' t' m' =>
     simp only [shO, leO, Bool.and_eq_true, decide_eq_true_eq] at hs
     obtain ⟨⟨rfl, rfl⟩, hm⟩ := hs
     have hf : fu = false := by simpa [uF] using h
     subst hf
     refine ⟨.row e t xs m' false, ?_, m', rfl, hm⟩
     show (ct (a := .sl e t) (b := .sl e t) xs).map (fun (xs : List t.den) => (Ob.row e t xs m' false, ds)) = _
     rw [cm (t := .sl e t)]; rfl
   | _ => simp [shO, leO] at hs
 | fleet e d xs hl =>
   have hh : hl = none := by simpa [uF] using h
   subst hh
   cases s with
   | fleet e' d' =>
     simp only [shO, leO, Bool.and_eq_true, Bool.or_eq_true, decide_eq_true_eq] at hs
     obtain ⟨rfl, rfl | ⟨hc, rfl⟩⟩ := hs
     ·refine ⟨.fleet e d xs none, ?_, .inl rfl⟩
      show (ct (a := .sl 0 (bm d)) (b := .sl 0 (bm d)) xs).map (fun (xs : List (bm d).den) => (Ob.fleet e d xs none, ds)) = _
      rw [cm (t := .sl 0 (bm d))]; rfl
     ·refine ⟨.fleet e d.lent xs none, ?_, .inr ⟨hc, rfl⟩⟩
      show (ct (a := .sl 0 (bm d)) (b := .sl 0 (bm d)) xs).map (fun (xs : List (bm d).den) => (Ob.fleet e d.lent xs none, ds)) = _
      rw [cm (t := .sl 0 (bm d))]; rfl
   | _ => simp [shO, leO] at hs
 | gone =>
   have : s = .gone := by cases s <;> simp [shO, leO] at hs; rfl
   subst this
   exact ⟨_, rfl, rfl⟩
theorem xM {c : Bool} : ∀ {os : List Ob} {ss : List OSh}, os.all uF = true → ti c (os.map shO) ss = true → ∀ ds, ∃ os', bo fiO ss (os.flatMap coO ++ ds) = some (os', ds) ∧ All2 (Wk c) os os'
 | [], [], _, _, ds => ⟨[], rfl, trivial⟩
 | [], _ :: _, _, h, _ => by simp [ti] at h
 | _ :: _, [], _, h, _ => by simp [ti] at h
 | o :: os, s :: ss, hn, h, ds => by
   simp only [List.all_cons, Bool.and_eq_true, List.map_cons, ti] at hn h
   obtain ⟨os', h1, h2⟩ := xM (os := os) (ss := ss) hn.2 h.2 ds
   obtain ⟨o', h3, h4⟩ := Fg hn.1 h.1 (os.flatMap coO ++ ds)
   exact ⟨o' :: os', by simp only [List.flatMap_cons, List.append_assoc, bo, h3, h1], h4, h2⟩
theorem B6 {c : Bool} : ∀ {os : List (Nat × Ob)} {ss : List (Nat × OSh)}, (∀ p ∈ os, uF p.2 = true) → os.map (·.1) = ss.map (·.1) → ti c (os.map fun p => shO p.2) (ss.map (·.2)) = true → ∀ ds, ∃ os', bo (fiP fiO) ss (os.flatMap (fun p => coO p.2) ++ ds) = some (os', ds) ∧ All2 (fun p q => q.1 = p.1 ∧ Wk c p.2 q.2) os os'
 | [], [], _, _, _, ds => ⟨[], rfl, trivial⟩
 | [], _ :: _, _, _, h, _ => by simp [ti] at h
 | _ :: _, [], _, _, h, _ => by simp [ti] at h
 | o :: os, s :: ss, hn, he, h, ds => by
   simp only [List.map_cons, ti, Bool.and_eq_true, List.cons.injEq] at he h
   obtain ⟨os', h1, h2⟩ := B6 (os := os) (ss := ss) (fun p hp => hn p (List.mem_cons_of_mem _ hp)) he.2 h.2 ds
   obtain ⟨o', h3, h4⟩ := Fg (hn o (List.mem_cons_self ..)) h.1 (os.flatMap (fun p => coO p.2) ++ ds)
   exact ⟨(s.1, o') :: os', by simp only [List.flatMap_cons, List.append_assoc, bo, fiP, h3, h1, Option.map_some], ⟨he.1.symm, h4⟩, h2⟩
structure WkN (c : Bool) (N N' : Nst) : Prop where
 slots : N'.slots = N.slots
 boxes : All2 (fun p q => q.1 = p.1 ∧ Wk c p.2 q.2) N.boxes N'.boxes
 news : All2 (Wk c) N.news N'.news
theorem AU {c : Bool} {N : Nst} {s : NSh} (h1 : ∀ p ∈ N.slots, kt p.2 = true) (h2 : ∀ p ∈ N.boxes, uF p.2 = true) (h3 : N.news.all uF = true) (hl : leN c (shN N) s = true) : ∃ N', fiN s (coN N) = some N' ∧ WkN c N N' := by
 simp only [leN, shN, Bool.and_eq_true, decide_eq_true_eq, List.map_map] at hl
 obtain ⟨⟨⟨l1, l2⟩, l3⟩, l4⟩ := hl
 have l1 : s.slots = N.slots.map fun p => (p.1, shS p.2) := (of_decide_eq_true l1).symm
 obtain ⟨os, q1, q2⟩ := xM h3 l4 []
 have hS := oJ (f := fiP fiS) (sh := fun p : Nat × SV => (p.1, shS p.2)) (co := fun p => coS p.2) N.slots (N.boxes.flatMap (fun p => coO p.2) ++ N.news.flatMap coO) (fun p hp ds => by simp only [fiP, Ki (h1 p hp), Option.map_some])
 obtain ⟨bs, b1, b2⟩ := B6 (os := N.boxes) (ss := s.boxes) h2 (by simpa [Function.comp_def] using l2) (by simpa [Function.comp_def] using l3) (N.news.flatMap coO)
 rw [List.append_nil] at q1
 refine ⟨⟨N.slots, bs, os⟩, ?_, rfl, b2, q2⟩
 unfold fiN coN
 rw [l1, List.append_assoc, hS]
 simp only [b1, q1, Option.map_some]
theorem rW {R : Type} : ∀ {cs : List (List Ty)} {i : Nat} {ds : List Dyn} {x : fC cs} {f : Nat → List Dyn → R}, yK cs i ds = some x → ej cs x f = f i ds
 | [], i, ds, x, f, h => nomatch x
 | [c], 0, ds, x, f, h => by simp only [yK] at h; simp only [ej, jK c ds x h]
 | [c], i + 1, ds, x, f, h => by simp [yK] at h
 | c :: d :: r, 0, ds, x, f, h => by
   simp only [yK, Option.map_eq_some_iff] at h
   obtain ⟨y, hy, rfl⟩ := h
   simp only [ej, bT, jK c ds y hy]
 | c :: d :: r, i + 1, ds, x, f, h => by
   simp only [yK, Option.map_eq_some_iff] at h
   obtain ⟨y, hy, rfl⟩ := h
   simp only [ej, bT]
   exact rW (f := fun i => f (i + 1)) hy
theorem mi {e : Ek} {s : NSh} : ∀ {cls : List (Ek × NSh)} {b i : Nat}, oD e s cls b = some i → b ≤ i ∧ ∃ s', cls[i - b]? = some (e, s') ∧ leN false s s' = true
 | [], b, i, h => by simp [oD] at h
 | (e', s') :: r, b, i, h => by
   simp only [oD] at h
   split at h
   ·rename_i hc
    cases h
    exact ⟨Nat.le_refl _, s', by simp [hc.1], hc.2⟩
   ·obtain ⟨h1, s2, h2, h3⟩ := mi h
    refine ⟨by omega, s2, ?_, h3⟩
    rw [show i - b = (i - (b + 1)) + 1 by omega]; simpa using h2
theorem jS : ∀ (l m : List (Nat × SV)) (t : Nat), aA (l ++ m) t = (aA l t).or (aA m t)
 | [], m, t => rfl
 | (i, v) :: l, m, t => by
   simp only [List.cons_append, aA]
   split
   ·rfl
   ·exact jS l m t
theorem nK (f : Nat → Bool) : ∀ (l : List (Nat × SV)) (t : Nat), aA (l.filter fun p => f p.1) t = if f t = true then aA l t else none
 | [], t => by simp [aA]
 | (i, v) :: l, t => by
   simp only [List.filter_cons]
   have ih := nK f l t
   by_cases hi : f i = true
   ·rw [if_pos hi]
    simp only [aA, ih]
    by_cases e : i = t
    ·subst e; simp [hi]
    ·simp [e]
   ·rw [if_neg hi, ih]
    simp only [aA]
    by_cases e : i = t
    ·subst e; simp [hi]
    ·simp [e]
theorem gW : ∀ {l : List (Nat × SV)} {t : Nat} {v : SV}, aA l t = some v → (t, v) ∈ l
 | [], t, v, h => by simp [aA] at h
 | (i, u) :: l, t, v, h => by
   simp only [aA] at h
   split at h
   ·rename_i e
    cases h
    have : i = t := by simpa using e
    subst this; exact List.mem_cons_self ..
   ·exact List.mem_cons_of_mem _ (gW h)
theorem nL : ∀ (bx : List (Nat × Ob)) (l : List Ob) (i : Nat), (bx.foldl (fun l p => l.set p.1 p.2) l).length = l.length ∧
 ((i ∉ bx.map (·.1) ∧ (bx.foldl (fun l p => l.set p.1 p.2) l).getD i .gone = l.getD i .gone) ∨ ∃ p ∈ bx, p.1 = i ∧ ((bx.foldl (fun l p => l.set p.1 p.2) l).getD i .gone = p.2 ∨ (bx.foldl (fun l p => l.set p.1 p.2) l).getD i .gone = .gone))
 | [], l, i => ⟨rfl, .inl ⟨by simp, rfl⟩⟩
 | p :: bx, l, i => by
   obtain ⟨h1, h2⟩ := nL bx (l.set p.1 p.2) i
   simp only [List.foldl_cons]
   refine ⟨by rw [h1]; simp, ?_⟩
   rcases h2 with ⟨h2, h3⟩ | ⟨q, hq, h2, h3⟩
   ·by_cases e : p.1 = i
    ·refine .inr ⟨p, List.mem_cons_self .., e, ?_⟩
     rw [h3]
     subst e
     by_cases hl : p.1 < l.length
     ·left; simp [List.getD_eq_getElem?_getD, hl]
     ·right; simp [List.getD_eq_getElem?_getD, hl]
    ·refine .inl ⟨by simp only [List.map_cons, List.mem_cons, not_or]; exact ⟨fun h => e h.symm, h2⟩, ?_⟩
     rw [h3]
     simp [List.getD_eq_getElem?_getD, List.getElem?_set, e]
   ·exact .inr ⟨q, List.mem_cons_of_mem _ hq, h2, h3⟩
theorem wH {a b c : Md} (h : leM a b = true) (k : leM b c = true) : leM a c = true := by cases a <;> cases b <;> cases c <;> simp_all [leM]
theorem tG {g g' : Env} {ob0 ob ob' : Ob} {bd : Nat} (h : oX g g' ob0 ob bd) (k : Wk false ob ob') : oX g g' ob0 ob' bd := by
 cases ob with
 | gone => have : ob' = .gone := k; subst this; trivial
 | box T ls => have : ob' = .box T ls := k; subst this; exact h
 | fleet e d xs hl =>
   rcases (show ob' = .fleet e d xs hl ∨ _ from k) with rfl | ⟨hc, _⟩
   ·exact h
   ·cases hc
 | row e t xs m fu =>
   obtain ⟨m', rfl, hm⟩ := k
   obtain ⟨m0, fu0, h1, h2, h3⟩ := h
   exact ⟨m0, fu0, h1, wH h2 hm, h3⟩
theorem it (e : Nat) (d : Kd) : (∀ b, ¬ (el nilG e d [] none).dom b) ∧ (∀ w, (el nilG e d [] none).ok w) ∧ (∀ b, ¬ (fE nilG d [] none).dom b) ∧ ∀ w, (fE nilG d [] none).ok w := by
 have hL : ∀ q : Option (Nat × Nat), (∀ b, ¬ (aF nilG e d [] none q).dom b) ∧ ∀ w, (aF nilG e d [] none q).ok w := fun q => by
  cases q with
  | none => exact ⟨fun b hb => by simp [aF, eX, nilG, Value.ownBlock] at hb, fun w => xF w e 1⟩
  | some kj => exact ⟨fun b hb => by simp [aF, Ent.nil, nob] at hb, fun w => by simp [aF, Ent.nil]⟩
 have hR : ∀ q : Nat × Nat, (∀ b, ¬ (aY nilG d [] none q).dom b) ∧ ∀ w, (aY nilG d [] none q).ok w := fun q =>
  ⟨fun b hb => by simp [aY, Ent.nil, nob] at hb, fun w => by simp [aY, Ent.nil]⟩
 exact ⟨fun b ⟨q, hb⟩ => (hL q).1 b hb, fun w q => (hL q).2 w, fun b ⟨q, hb⟩ => (hR q).1 b hb, fun w q => (hR q).2 w⟩
section
variable {P : Program} {g g' g'' g0 : Env} {γ : Ghost} {S S' S'' base : St} {n : Nat} {a a0 : Act} {w0 w w' : World} {D A : Nat → Prop} {σ : Nat → Nat} {bd σ0 : Nat}
structure Ren (g' : Env) (S' : St) (g'' : Env) (S'' : St) (bd : Nat) (σ : Nat → Nat) (fr : Nat → Prop) : Prop where
 ob : ∀ i, S''.ob i = .gone ∨ (∃ e t m, S''.ob i = .row e t [] m false ∧ g'' i = nilG) ∨ (∃ e d, S''.ob i = .fleet e d [] none ∧ g'' i = nilG) ∨ fr i
 frm : ∀ i, fr i → g'' i = g' (σ i) ∧ oX g' g'' (S'.ob (σ i)) (S''.ob i) bd
 once : ∀ i k, i ≠ k → fr i → fr k → σ i = σ k → pM (S'.ob (σ i))
theorem Ren.own {frm : Nat → Prop} (R : Ren g' S' g'' S'' bd σ frm) {i : Nat} (h : ∃ b, (an g'' i (S''.ob i)).dom b) : frm i ∧ ¬ pM (S'.ob (σ i)) := by
 obtain ⟨b, hb⟩ := h
 rcases R.ob i with h | ⟨e, t, m, h, hg⟩ | ⟨e, d, h, hg⟩ | h
 ·rw [h] at hb; exact hb.elim
 ·rw [h] at hb
  cases m with
  | own =>
    have : (g'' i).v.ownBlock = some b := hb
    rw [hg] at this
    simp [nilG, Value.ownBlock] at this
  | rd => exact hb.elim
  | lent => exact hb.elim
 ·rw [h] at hb
  simp only [an, hg] at hb
  exact absurd hb ((it e d).1 b)
 ·refine ⟨h, ?_⟩
  rintro ⟨e, t, xs, m, fu, hs, hm⟩
  obtain ⟨_, hM⟩ := R.frm i h
  rw [hs] at hM
  cases ho : S''.ob i with
  | gone => rw [ho] at hb; exact hb.elim
  | box T ls => rw [ho] at hM; obtain ⟨ls0, h1, _⟩ := hM; cases h1
  | fleet e' d' xs' hl' => rw [ho] at hM; cases hM
  | row e' t' xs' m' fu' =>
    rw [ho] at hM hb
    obtain ⟨m0, fu0, h1, h2, _⟩ := hM
    cases h1
    cases m' with
    | own => cases m <;> simp_all [leM]
    | rd => exact hb.elim
    | lent => exact hb.elim
theorem xN {e : Nat} {u : Ty} {xs : List u.den} {b : Nat} (h1 : OwnR w e u.sz (g' σ0).v xs.length (g' σ0).cs) (q2 : aT (g' σ0).v = some b) : (g' σ0).v.ownBlock = some b := by
 exact rS h1 q2
theorem Fh {frm : Nat → Prop} (R : Ren g' S' g'' S'' bd σ frm) (C : Cx g' S' w0 D A w) : Cx g'' S'' w0 D A w := by
 refine oH C σ (fun i => ?_) (fun i j hij hi hj hs => ?_) (fun i => ?_)
 ·rcases R.ob i with h | ⟨e, t, m, h, hg⟩ | ⟨e, d, h, hg⟩ | h
  ·simp only [h]; exact ⟨trivial, fun b hb => hb.elim⟩
  ·simp only [h]
   cases m with
   | own =>
     refine ⟨?_, fun b hb => ?_⟩
     ·simp only [an, hg, nilG]; exact xF _ _ _
     ·have : (g'' i).v.ownBlock = some b := hb
      rw [hg] at this
      simp [nilG, Value.ownBlock] at this
   | rd => exact ⟨trivial, fun b hb => hb.elim⟩
   | lent => exact ⟨trivial, fun b hb => hb.elim⟩
  ·simp only [h, an, hg]
   exact ⟨(it e d).2.1 w, fun b hb => ((it e d).1 b hb).elim⟩
  ·obtain ⟨hg, hM⟩ := R.frm i h
   have hL := C.okL (σ i)
   cases ho : S''.ob i with
   | gone => exact ⟨trivial, fun b hb => hb.elim⟩
   | box T ls =>
     rw [ho] at hM
     obtain ⟨ls0, h1, h2, _⟩ := hM
     have : an g'' i (.box T ls) = an g' (σ i) (S'.ob (σ i)) := by simp only [h1, an, qH, hg, h2]
     simp only [ho, this]
     exact ⟨hL, fun _ => id⟩
   | fleet e d xs hl =>
     rw [ho] at hM
     have h1 : S'.ob (σ i) = .fleet e d xs hl := hM
     have : an g'' i (.fleet e d xs hl) = an g' (σ i) (S'.ob (σ i)) := by simp only [h1, an, hg]
     simp only [ho, this]
     exact ⟨hL, fun _ => id⟩
   | row e t xs m fu =>
     rw [ho] at hM
     obtain ⟨m0, fu0, h1, h2, _⟩ := hM
     cases m with
     | own =>
       cases m0 <;> simp [leM] at h2
       have : an g'' i (.row e t xs .own fu) = an g' (σ i) (S'.ob (σ i)) := by simp only [h1, an, hg]
       simp only [ho, this]
       exact ⟨hL, fun _ => id⟩
     | rd => exact ⟨trivial, fun b hb => hb.elim⟩
     | lent => exact ⟨trivial, fun b hb => hb.elim⟩
 ·obtain ⟨fi, ni⟩ := R.own hi
  obtain ⟨fj, nj⟩ := R.own hj
  exact ni (R.once i j hij fi fj hs)
 ·rcases R.ob i with h | ⟨e, t, m, h, hg⟩ | ⟨e, d, h, hg⟩ | h
  ·simp only [h]; exact ⟨trivial, fun b hb => hb.elim⟩
  ·simp only [h]
   have hnil : ∀ f ∈ (⟨nilG.v, 0, t.sz, nilG.cs⟩ :: nilG.fs : List Fact), f.cs = [] ∧ Rds f.v f.n f.sz f.cs w := by
    intro f hf
    simp only [nilG, List.mem_cons, List.not_mem_nil, or_false] at hf
    subst hf
    exact ⟨rfl, mb _ w⟩
   cases m with
   | own =>
     refine ⟨fun f hf => ?_, fun b ⟨f, hf, h1, h2⟩ => ?_⟩
     ·rw [hg] at hf; cases hf
     ·rw [hg] at hf; cases hf
   | rd =>
     refine ⟨fun f hf => ?_, fun b ⟨f, hf, h1, h2⟩ => ?_⟩
     ·rw [hg] at hf; exact (hnil f hf).2
     ·rw [hg] at hf; exact absurd (hnil f hf).1 h1
   | lent =>
     refine ⟨fun f hf => ?_, fun b ⟨f, hf, h1, h2⟩ => ?_⟩
     ·rw [hg] at hf; exact (hnil f hf).2
     ·rw [hg] at hf; exact absurd (hnil f hf).1 h1
  ·simp only [h, az, hg]
   exact ⟨(it e d).2.2.2 w, fun b hb => ((it e d).2.2.1 b hb).elim⟩
  ·obtain ⟨hg, hM⟩ := R.frm i h
   have hR := C.okR (σ i)
   have hL := C.okL (σ i)
   cases ho : S''.ob i with
   | gone => exact ⟨trivial, fun b hb => hb.elim⟩
   | box T ls => exact ⟨trivial, fun b hb => hb.elim⟩
   | fleet e d xs hl =>
     rw [ho] at hM
     have h1 : S'.ob (σ i) = .fleet e d xs hl := hM
     simp only [h1] at hR
     simp only [az, hg]
     exact ⟨hR, fun b hb => .inl ⟨σ i, by simp only [h1, az]; exact hb, fun h => by simp only [h1]; exact h⟩⟩
   | row e t xs m fu =>
     rw [ho] at hM
     obtain ⟨m0, fu0, h1, h2, _⟩ := hM
     simp only [h1] at hR hL
     -- a row of one's own that is read from now on
     have weak : ∀ q : Bool, m ≠ .own → m0 = .own → (dK q (⟨(g' (σ i)).v, xs.length, t.sz, (g' (σ i)).cs⟩ :: (g' (σ i)).fs)).ok w ∧
      ∀ b, (dK q (⟨(g' (σ i)).v, xs.length, t.sz, (g' (σ i)).cs⟩ :: (g' (σ i)).fs)).dom b →
       (∃ j, (az g' j (S'.ob j)).dom b ∧ (q = false → (az g' j (S'.ob j)).lent = false)) ∨ (∃ j, (an g' j (S'.ob j)).dom b ∧ ∀ k, (∃ b, (an g'' k (S''.ob k)).dom b) → σ k ≠ j) := by
      intro q hm hm0
      subst hm0
      refine ⟨fun f hf => ?_, fun b ⟨f, hf, q1, q2⟩ => ?_⟩
      ·rcases List.mem_cons.1 hf with rfl | hf
       ·exact kD hL
       ·exact hR f hf
      ·rcases List.mem_cons.1 hf with rfl | hf
       ·refine .inr ⟨σ i, ?_, fun k hk e' => ?_⟩
        ·simp only [h1, an]
         exact xN (σ0 := σ i) (u := t) hL q2
        ·obtain ⟨fk, nk⟩ := R.own hk
         by_cases hki : k = i
         ·subst hki
          obtain ⟨b', hb'⟩ := hk
          rw [ho] at hb'
          cases m with
          | own => exact absurd rfl hm
          | rd => exact hb'.elim
          | lent => exact hb'.elim
         ·exact nk (R.once k i hki fk h e')
       ·exact .inl ⟨σ i, by simp only [h1, az]; exact ⟨f, hf, q1, q2⟩, fun _ => by simp only [h1]; rfl⟩
     cases m with
     | own =>
       cases m0 <;> simp [leM] at h2
       simp only [az, hg]
       exact ⟨hR, fun b hb => .inl ⟨σ i, by simp only [h1, az]; exact hb, fun _ => by simp only [h1]; rfl⟩⟩
     | rd =>
       simp only [az, hg]
       cases m0 with
       | own =>
         obtain ⟨q1, q2⟩ := weak false (by simp) rfl
         refine ⟨q1, fun b hb => ?_⟩
         rcases q2 b hb with ⟨j, x1, x2⟩ | h
         ·exact .inl ⟨j, x1, fun _ => x2 rfl⟩
         ·exact .inr h
       | rd => exact ⟨hR, fun b hb => .inl ⟨σ i, by simp only [h1, az]; exact hb, fun _ => by simp only [h1]; rfl⟩⟩
       | lent => simp [leM] at h2
     | lent =>
       simp only [az, hg]
       cases m0 with
       | own =>
         obtain ⟨q1, q2⟩ := weak true (by simp) rfl
         refine ⟨q1, fun b hb => ?_⟩
         rcases q2 b hb with ⟨j, x1, x2⟩ | h
         ·exact .inl ⟨j, x1, fun hl => by cases hl⟩
         ·exact .inr h
       | rd => exact ⟨hR, fun b hb => .inl ⟨σ i, by simp only [h1, az]; exact hb, fun hl => by cases hl⟩⟩
       | lent => exact ⟨hR, fun b hb => .inl ⟨σ i, by simp only [h1, az]; exact hb, fun hl => by cases hl⟩⟩
end
end Go.Proofs.YtlepjakmadlkjaaGreatDoor
