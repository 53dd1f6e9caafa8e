/- Texts of the proof, put together: part 5. No condition. -/
import Derived.Test.YtlepjakmadlkjaaGreatDoorT4
import Derived.OrdersIn
set_option linter.unusedVariables false
set_option linter.unusedSimpArgs false
namespace Go.Proofs.YtlepjakmadlkjaaGreatDoor
open Go
theorem bg (S : St) (st : List Nat) (i : Nat) : (aC S st).ob i = if st.elem i then S.ob i else .gone := by
 simp only [St.ob, aC, List.getD_eq_getElem?_getD, List.getElem?_map, List.getElem?_zipIdx]
 cases h : S.obs[i]? <;> simp
theorem cS (S : St) (st : List Nat) : (aC S st).obs.length = S.obs.length := by simp [aC]
section
variable {P : Program} {g g' g0 : Env} {γ : Ghost} {S S' S0 : St} {n : Nat} {a a0 : Act} {w0 w w' : World} {D A : Nat → Prop} {α : Type} {out : α} {st : List Nat}
theorem sW (C : Cx g S w0 D A w) (st : List Nat) : Cx g (aC S st) w0 D A w := by
 refine qA C id (fun i => ?_) (fun i j hij _ _ => hij) (fun i => ?_)
 ·simp only [bg]
  split
  ·exact .inr (Sub1.refl _ _)
  ·exact .inl ⟨fun b h => h.elim, trivial⟩
 ·simp only [bg]
  split
  ·exact .inr (.inl ⟨i, Sub1.refl _ _, id⟩)
  ·exact .inl ⟨fun b h => h.elim, trivial⟩
theorem qQ (F : Fit g γ S n a) (st : List Nat) : Fit g γ (aC S st) n a := by
 have hob : ∀ i, (aC S st).ob i = S.ob i ∨ (aC S st).ob i = .gone := fun i => by rw [bg]; split; exact .inl rfl; exact .inr rfl
 refine ⟨F.size, F.lo, F.defers, F.sl, fun i => ?_, fun t sv h => ?_, fun t sv h => by rw [cS]; exact F.rs t sv h, fun i T ls h => ?_⟩
 ·rcases hob i with h | h <;> rw [h]
  ·exact F.ob i
  ·trivial
 ·have := F.ok t sv h
  have okE : ∀ v : V1, okV S v → okV (aC S st) v := fun v hv => by
   cases v with
   | elp o sz i off =>
     intro e t xs m fu he
     rcases hob o with h | h <;> rw [h] at he
     ·exact hv e t xs m fu he
     ·cases he
   | arp b off t n i => exact hv
   | _ => trivial
  cases sv with
  | v x => exact okE x this
  | tup xs => exact fun x hx => okE x (this x hx)
 ·rw [cS]
  rcases hob i with h1 | h1 <;> rw [h1] at h
  ·exact F.rb i T ls h
  ·cases h
theorem Cg (F : Fit g γ S n a) (hst : ∀ i ∈ st, i < S.obs.length ∧ S'.ob i = S.ob i ∧ g' i = g i) (hvb : ∀ i, i < S.obs.length → (g' i).v = (g i).v ∧ (g' i).bb = (g i).bb) :
 Cx g' (aC S' st) w0 D A w ↔ Cx g (aC S st) w0 D A w := by
 have h1 : (fun i => an g' i ((aC S' st).ob i)) = fun i => an g i ((aC S st).ob i) := by
  funext i
  simp only [bg]
  split
  ·rename_i hi
   obtain ⟨h1, h2, h3⟩ := hst i (by simpa using hi)
   rw [h2]
   exact tE h3 (fun T ls e x hx => hvb x (F.rb i T ls e x hx))
  ·rfl
 have h2 : (fun i => az g' i ((aC S' st).ob i)) = fun i => az g i ((aC S st).ob i) := by
  funext i
  simp only [bg]
  split
  ·rename_i hi
   obtain ⟨h1, h2, h3⟩ := hst i (by simpa using hi)
   rw [h2]
   exact cQ h3
  ·rfl
 unfold Cx
 rw [h1, h2]
theorem A4 {news : List Ob} (h : uq g g' (aC S st) w news) : uq g g' S w news := by
 intro j ob hj
 obtain ⟨h1, h2, h3⟩ := h j ob hj
 rw [cS] at h1 h2 h3
 refine ⟨h1, h2, ?_⟩
 rcases h3 with h3 | ⟨o, h3, h4⟩
 ·exact .inl h3
 ·rw [bg] at h3 h4
  split at h3
  ·rename_i hi
   rw [if_pos hi] at h4
   exact .inr ⟨o, h3, h4⟩
  ·exact .inl ⟨fun b hb => (h3.dom b hb).elim, h3.ok trivial⟩
theorem A5 {news : List Ob} {e : List Nat} (h : uq g g' (aC S st) w news) : uq g g' (aC S (st ++ e)) w news := by
 intro j ob hj
 obtain ⟨h1, h2, h3⟩ := h j ob hj
 rw [cS] at h1 h2 h3
 rw [cS]
 refine ⟨h1, h2, ?_⟩
 rcases h3 with h3 | ⟨o, h3, h4⟩
 ·exact .inl h3
 ·rw [bg] at h3 h4
  split at h3
  ·rename_i hi
   rw [if_pos hi] at h4
   refine .inr ⟨o, ?_, ?_⟩
   ·rw [bg, if_pos (by simp at hi; simp [hi])]; exact h3
   ·rw [bg, if_pos (by simp at hi; simp [hi])]; exact h4
  ·exact .inl ⟨fun b hb => (h3.dom b hb).elim, h3.ok trivial⟩
theorem xS (S : St) (st e : List Nat) (i : Nat) : (aC (aC S (st ++ e)) st).ob i = (aC S st).ob i := by
 rw [bg, bg, bg]
 split
 ·rename_i h
  rw [if_pos (by simp at h; simp [h])]
 ·rfl
theorem zk {st e : List Nat} (C : Cx g (aC S (st ++ e)) w0 D A w) : Cx g (aC S st) w0 D A w := by
 have := sW C st
 unfold Cx at this ⊢
 simpa only [xS] using this
theorem A6 {e : List Nat} {o : Oper} {q : Qt} (h : BW P S st e o = some q) : (yM st q.v = true ∧ qC P (aC S st) o.type o.op = some q) ∨ (yM (st ++ e) q.v = true ∧ qC P (aC S (st ++ e)) o.type o.op = some q ∧ q.news = []) := by
 unfold BW at h
 split at h
 ·rename_i q' hq
  split at h
  ·rename_i he
   cases h
   exact .inl ⟨he, hq⟩
  ·cases h
 ·split at h
  ·rename_i q' hq
   split at h
   ·rename_i he
    cases h
    exact .inr ⟨he.1, hq, by simpa using he.2⟩
   ·cases h
  ·cases h
theorem jU {ops : Array Oper} {l dead : List Nat} {ex : List (Nat × List Nat)} : ∀ {rs : List Nat} {j : Nat} {o : Oper} {r : Option Qt}, ui P (pH ops) ops ex dead S st l rs = some (j, o, r) →
 ops.toList[j]? = some o ∧ pH ops l j = true ∧ dead.elem j = false ∧ (match r with
  | some q => nF ops.toList S o.guard = some (.inl true) ∧ BW P S st (exl ex j) o = some q
  | none => nF ops.toList S o.guard = some (.inl false))
 | [], j, o, r, h => by simp [ui] at h
 | i :: rs, j, o, r, h => by
   simp only [ui] at h
   split at h
   ·rename_i oi hoi
    split at h
    ·rename_i hc
     rw [Bool.and_eq_true, Bool.not_eq_true'] at hc
     split at h
     ·rename_i hw
      split at h
      ·rename_i q hq
       cases h
       exact ⟨hoi, hc.1, hc.2, hw, hq⟩
      ·exact jU h
     ·rename_i hw
      cases h
      exact ⟨hoi, hc.1, hc.2, hw⟩
     ·exact jU h
    ·exact jU h
   ·cases h
theorem tH {ex : List (Nat × List Nat)} {i x : Nat} : x ∈ exl ex i ↔ ∃ p ∈ ex, p.1 = i ∧ x ∈ p.2 := by
 simp only [exl, List.mem_flatMap, List.mem_filter, beq_iff_eq]
 exact ⟨fun ⟨p, ⟨h1, h2⟩, h3⟩ => ⟨p, h1, h2, h3⟩, fun ⟨p, h1, h2, h3⟩ => ⟨p, ⟨h1, h2⟩, h3⟩⟩
theorem wO {ops : Array Oper} {ex : List (Nat × List Nat)} {dead M : List Nat} {j : Nat} (h : K8 ops ex dead j M = true) {i : Nat} (hf : frB ops j i = true) : (∀ p ∈ ex, p.1 = i → dead.elem i = false) ∧ ∀ x ∈ exl ex i, x ∉ M := by
 have all := List.all_eq_true.1 h
 constructor
 ·intro p hp he
  have := all p hp
  rw [he, hf] at this
  simp only [Bool.not_true, Bool.false_or, Bool.and_eq_true, Bool.not_eq_true'] at this
  exact this.1
 ·intro x hx hm
  obtain ⟨p, hp, he, hxp⟩ := tH.1 hx
  have := all p hp
  rw [he, hf] at this
  simp only [Bool.not_true, Bool.false_or, Bool.and_eq_true, Bool.not_eq_true'] at this
  have h2 := List.all_eq_true.1 this.2 x hm
  simp at h2
  exact h2 hxp
theorem A7 {ops : Array Oper} {ex : List (Nat × List Nat)} {j i : Nat} : (uj ops ex j).elem i = true ↔ (∃ p ∈ ex, p.1 = i) ∧ frB ops j i = false := by
 simp only [uj, List.elem_eq_mem, decide_eq_true_eq, List.mem_map, List.mem_filter, Bool.not_eq_true']
 exact ⟨fun ⟨p, ⟨h1, h2⟩, h3⟩ => ⟨⟨p, h1, h3⟩, h3 ▸ h2⟩, fun ⟨⟨p, h1, h3⟩, h2⟩ => ⟨p, ⟨h1, h3 ▸ h2⟩, h3⟩⟩
theorem uH {ops : Array Oper} : ∀ {rs : List Nat} {d : Nat} {b : Bool}, yN ops S rs = some (d, b) → ∃ o ∈ ops.toList, ∃ want, nF ops.toList S o.guard = some (.inr (d, b, want))
 | [], d, b, h => by simp [yN] at h
 | i :: rs, d, b, h => by
   simp only [yN] at h
   split at h
   ·rename_i o ho
    split at h
    ·rename_i d' b' want hw
     cases h
     exact ⟨o, List.mem_of_getElem? ho, want, hw⟩
    ·exact uH h
   ·cases h
theorem mem_range' {i s m : Nat} : i ∈ List.range' s m ↔ s ≤ i ∧ i < s + m := by
 simp only [List.mem_range', Nat.one_mul]
 exact ⟨fun ⟨j, h1, h2⟩ => by omega, fun h => ⟨i - s, by omega, by omega⟩⟩
variable {Γ : List Con} {inl : List Nat} {H : Inl} {k : Nat}
theorem uI {rs0 : List Nat} {act : Nat → St → Option α} : ∀ {rs : List Nat} {S : St}, yO (ax α) rs0 act rs S = some out → ∀ j ∈ rs, ∃ p, act j (S.to p) = some out
 | [], S, h, j, hj => by cases hj
 | [i], S, h, j, hj => by
   obtain rfl : j = i := by simpa using hj
   exact ⟨S.pl, h⟩
 | i :: i2 :: r, S, h, j, hj => by
   simp only [yO, ax] at h
   obtain ⟨h1, h2⟩ := AG h
   rcases List.mem_cons.1 hj with rfl | hj
   ·exact ⟨S.pl.kid 0, h1⟩
   ·obtain ⟨p, hp⟩ := uI (rs := i2 :: r) (S := S.kid 1) h2 j hj
    exact ⟨p, hp⟩
theorem iY {ops : Array Oper} {Q : Exit → Act → World → Prop} {q : Nat} {ex : List (Nat × List Nat)} (hc : dg P (fun R A S f xs K => nE A P Γ k S f xs K)) (hi : dg P (fun R A S f xs K => H f (cP P f xs) R A S K))
 {K : St → Option α} (hd : ∀ o ∈ ops.toList, ∀ d, o.dst = some d → d < n) (hl : lA ops q = true) (hn : Region.noSelect ops = true) {st0 : List Nat} (hst0 : ∀ i ∈ st0, i < S0.obs.length) (hex0 : ∀ i, ∀ o ∈ exl ex i, o < S0.obs.length) (F0 : Fit g0 γ S0 n a0)
 (hK : ∀ g' S' a' w', K S' = some out → Fit g' γ S' n a' → Cx g' S' w0 D A w' → Kp g0 S0 (pQ ops.toList) g' S' → Q .normal a' w') :
 ∀ (fu fuel : Nat) (l dead st : List Nat) {S : St} {g : Env} {a : Act} {w : World}, jP (ax α) P Γ inl H k (fun l => Region.ready .any ops (gj ops.size l)) (pH ops) ops none q ex fu fuel l dead st S K = some out → kS ops (gj ops.size l) → Fit g γ S n a → Cx g S w0 D A w →
  Kp g0 S0 (pQ ops.toList) g S → (∀ i ∈ st0, i ∈ st ∧ S.ob i = S0.ob i ∧ g i = g0 i) → (∀ i, dead.elem i = false → ∀ o ∈ exl ex i, S.ob o = S0.ob o ∧ g o = g0 o) → (∀ i ∈ st, i < S.obs.length) →
  (∀ i, dead.elem i = false → ∀ w', (∃ w0 D A, Cx g0 (aC S0 (st0 ++ exl ex i)) w0 D A w') → ∃ w0 D A, Cx g (aC S (st ++ exl ex i)) w0 D A w') →
  wpE P ops (sJ Q) (fun i w' => ∃ w0 D A, Cx g0 (aC S0 (st0 ++ exl ex i)) w0 D A w') q fuel (gj ops.size l) a w
 | 0, fuel, l, dead, st, S, g, a, w, h, _, _, _, _, _, _, _, _ => by simp [jP, ax] at h
 | fu + 1, fuel, l, dead, st, S, g, a, w, h, hcl, F, C, Z, hs, he, hst, hI => by
   have Sw : ∀ {g : Env} {S : St} {w : World} (x : Nat), Cx g S w0 D A w → Kp g0 S0 (pQ ops.toList) g S → (∀ i ∈ st0, S.ob i = S0.ob i ∧ g i = g0 i) → (∀ o ∈ exl ex x, S.ob o = S0.ob o ∧ g o = g0 o) → ∃ w0 D A, Cx g0 (aC S0 (st0 ++ exl ex x)) w0 D A w := fun {g S w} x C Z hs he =>
    ⟨w0, D, A, (Cg (S' := S) (g' := g) F0 (fun i hi => by
     rcases List.mem_append.1 hi with hi | hi
     ·exact ⟨hst0 i hi, (hs i hi).1, (hs i hi).2⟩
     ·exact ⟨hex0 x i hi, (he i hi).1, (he i hi).2⟩) Z.vb).1 (sW C _)⟩
   have hSw := fun x (hx : dead.elem x = false) => Sw x C Z (fun i hi => (hs i hi).2) (he x hx)
   simp only [jP] at h
   split at h
   ·split at h
    ·rename_i hr
     exact ⟨hr, hK g S a w h F C Z⟩
    ·simp [ax] at h
   ·rename_i fuel
    split at h
    ·-- it only looks
     rename_i j o qq hp
     obtain ⟨ho, hcan, hdj, hw, hlq⟩ := jU hp
     have hq := A6 hlq
     have hom := List.mem_of_getElem? ho
     have ho' : ops[j]? = some o := by simpa using ho
     have hp : qq.p ∧ jP (ax α) P Γ inl H k (fun l => Region.ready .any ops (gj ops.size l)) (pH ops) ops none q ex fu fuel (j :: l) dead (st ++ List.range' S.obs.length qq.news.length) ((S.add qq.news).put o.dst qq.v) K = some out := by
      simp only [ax] at h
      split at h
      ·rename_i hp; exact ⟨hp, h⟩
      ·cases h
     have hexl : ∀ i, ∀ o ∈ exl ex i, o < S.obs.length := fun i o ho => Nat.lt_of_lt_of_le (hex0 i o ho) Z.len
     obtain ⟨stx, hstx, hel, hq, hmore, hnn⟩ : ∃ stx, (∀ o ∈ stx, o < S.obs.length) ∧ yM stx qq.v = true ∧ qC P (aC S stx) o.type o.op = some qq ∧ (∀ {w0 : World} {D A : Nat → Prop} {w' : World}, Cx g (aC S (st ++ exl ex j)) w0 D A w' → Cx g (aC S stx) w0 D A w') ∧ (qq.news = [] ∨ stx = st) := by
      rcases hq with ⟨he, hq⟩ | ⟨he, hq, hn⟩
      ·exact ⟨st, hst, he, hq, fun C => zk C, .inr rfl⟩
      ·exact ⟨st ++ exl ex j, fun o ho => (List.mem_append.1 ho).elim (hst o) (hexl j o), he, hq, fun C => C, .inl hn⟩
     obtain ⟨g', L⟩ := uz (qQ F stx) hq hp.1
     have hx : Ext g g' S.obs.length := by have := L.ext; rwa [cS] at this
     simp only [pH, Bool.and_eq_true] at hcan
     have hrdy : j ∈ Region.ready .any ops (gj ops.size l) := by simpa using hcan.2
     have hrl : (aC S stx).obs.length = S.obs.length := cS S stx
     have hnew : ∀ j ob, qq.news[j]? = some ob → ((aC S stx).add qq.news).ob (S.obs.length + j) = ob := fun j ob hj => by
      rw [bO (by omega), hrl]
      simp [List.getD_eq_getElem?_getD, hj]
     have Fa : Fit g' γ (S.add qq.news) n a := by
      refine gb F hx (fun j ob hj => ?_) (fun j T ls hj => ?_)
      ·have := L.fit.ob (S.obs.length + j); rwa [hnew j ob hj] at this
      ·have := L.fit.rb (S.obs.length + j) T ls (hnew j _ hj)
       simpa [St.add, hrl] using this
     obtain ⟨w1, D1, A1, C1⟩ := hI j hdj w (hSw j hdj)
     have Ca : Cx g' (S.add qq.news) w0 D A w := ur F hx (A4 (L.run w1 D1 A1 w (hmore C1)).1) C
     have hok : okS (S.add qq.news) qq.v := by
      have okE : ∀ v : V1, HJ stx v = true → okV ((aC S stx).add qq.news) v → okV (S.add qq.news) v := fun v he hv => by
       cases v with
       | elp o sz i off =>
         intro e t xs m fu hob
         have hmo : o ∈ stx := by simpa [HJ] using he
         have hlt := hstx o hmo
         rw [aW hlt] at hob
         refine hv e t xs m fu ?_
         rw [aW (by rw [hrl]; exact hlt), bg, if_pos (by simpa using hmo)]
         exact hob
       | arp b off t n i => exact hv
       | _ => trivial
      have hLok := L.ok
      cases hv : qq.v with
      | v x => rw [hv] at hLok hel; exact okE x hel hLok
      | tup xs => rw [hv] at hLok hel; exact fun x hx => okE x (List.all_eq_true.1 hel x hx) (hLok x hx)
     have hrs : ∀ o ∈ aL qq.v, o < (S.add qq.news).obs.length := by
      have := L.rs
      simpa [St.add, hrl] using this
     have Fp : Fit g' γ ((S.add qq.news).put o.dst qq.v) n (a.put o.dst (aq g' qq.v)) := kI Fa (hd o hom) hok hrs
     refine yw hl ho' hn (ng _ _ _) _ _ _ _ hcl (Region.free_spec ho' hcan.1) hrdy (.inl ⟨ew F hd hw, fun w' hw' => ?_⟩) (hSw j hdj)
      (iY hc hi hd hl hn hst0 hex0 F0 hK fu fuel (j :: l) dead _ hp.2 (dm hcl hrdy) Fp Ca ?_ ?_ ?_ ?_ ?_)
     ·obtain ⟨w1, D1, A1, C1⟩ := hI j hdj w' hw'
      exact (L.run w1 D1 A1 w' (hmore C1)).2 o rfl
     ·exact (Z.trans (Kp.add noD hx) (fun _ => id) (fun _ h => h.elim)).trans (nI _ _ _ _) (fun _ => id) (fun t ht => ⟨o, hom, ht⟩)
     ·intro i hi
      obtain ⟨h1, h2, h3⟩ := hs i hi
      have hlt := hst i h1
      refine ⟨List.mem_append_left _ h1, ?_, (hx i hlt).trans h3⟩
      exact (aW hlt).trans h2
     ·intro i hdi o ho
      obtain ⟨h2, h3⟩ := he i hdi o ho
      have hlt := hexl i o ho
      exact ⟨(aW hlt).trans h2, (hx o hlt).trans h3⟩
     ·intro i hi
      simp only [St.put, St.add, List.length_append]
      rcases List.mem_append.1 hi with hi | hi
      ·have := hst i hi; omega
      ·have := mem_range'.1 hi; omega
     ·intro i hdi w' hw'
      obtain ⟨w1, D1, A1, C1⟩ := hI i hdi w' hw'
      refine ⟨w1, D1, A1, ?_⟩
      have hrl2 : (aC S (st ++ exl ex i)).obs.length = S.obs.length := cS S _
      have hnk : uq g g' (aC S (st ++ exl ex i)) w' qq.news := by
       rcases hnn with hnn | hnn
       ·rw [hnn]; intro j ob hj; simp at hj
       ·subst hnn
        exact A5 (L.run w1 D1 A1 w' (zk C1)).1
      have C2 := ur (qQ F (st ++ exl ex i)) (by rw [hrl2]; exact hx) hnk C1
      have hobs : ∀ x, (aC ((S.add qq.news).put o.dst qq.v) ((st ++ List.range' S.obs.length qq.news.length) ++ exl ex i)).ob x = ((aC S (st ++ exl ex i)).add qq.news).ob x := by
       intro x
       rw [bg]
       show (if ((st ++ List.range' S.obs.length qq.news.length) ++ exl ex i).elem x = true then (S.add qq.news).ob x else Ob.gone) = _
       rcases Nat.lt_or_ge x S.obs.length with hlt | hge
       ·rw [aW hlt, aW (by rw [hrl2]; exact hlt), bg]
        have : ((st ++ List.range' S.obs.length qq.news.length) ++ exl ex i).elem x = (st ++ exl ex i).elem x := by
         rw [Bool.eq_iff_iff]
         simp only [List.elem_eq_mem, decide_eq_true_eq, List.mem_append, mem_range']
         exact ⟨fun h => h.elim (fun h => h.elim .inl (fun h => by omega)) .inr, fun h => h.elim (fun h => .inl (.inl h)) .inr⟩
        rw [this]
       ·rw [bO hge, bO (by rw [hrl2]; exact hge), hrl2]
        split
        ·rfl
        ·rename_i hne
         have : ¬ x < S.obs.length + qq.news.length := fun hlt => hne (by simp only [List.elem_eq_mem, decide_eq_true_eq, List.mem_append, mem_range']; exact .inl (.inr ⟨hge, hlt⟩))
         rw [List.getD_eq_getElem?_getD, List.getElem?_eq_none (by omega)]; rfl
      unfold Cx at C2 ⊢
      simp only [hobs]
      exact C2
    ·-- it isn't wanted
     rename_i j o hp
     obtain ⟨ho, hcan, hdj, hw⟩ := jU hp
     simp only at hw
     have hom := List.mem_of_getElem? ho
     have ho' : ops[j]? = some o := by simpa using ho
     simp only [pH, Bool.and_eq_true] at hcan
     have hrdy : j ∈ Region.ready .any ops (gj ops.size l) := by simpa using hcan.2
     have Fp : Fit g γ (S.put o.dst ES) n (a.put o.dst undef) := kI F (v := ES) (hd o hom) trivial (fun o ho => by cases ho)
     exact yw hl ho' hn (ng _ _ _) _ _ _ _ hcl (Region.free_spec ho' hcan.1) hrdy (.inr ⟨ew F hd hw, rfl⟩) (hSw j hdj)
      (iY hc hi hd hl hn hst0 hex0 F0 hK fu fuel (j :: l) dead st h (dm hcl hrdy) Fp C (Z.trans (nI _ _ _ _) (fun _ => id) (fun t ht => ⟨o, hom, ht⟩)) hs he hst hI)
    ·split at h
     ·-- a guard is opened
      rename_i d b hg
      obtain ⟨o, hom, want, hw⟩ := uH hg
      obtain ⟨hlk, hds, _⟩ := ew F hd hw
      have Fb : Fit g γ (S.put (some d) (.lit b)) n a := Cf F hlk rfl trivial (fun o ho => by cases ho)
      have Zb : Kp g0 S0 (pQ ops.toList) g (S.put (some d) (.lit b)) := Z.trans (nI _ _ _ _) (fun _ => id) (fun t ht => by cases ht; exact hds)
      obtain ⟨i, go⟩ : ∃ i, jP (ax α) P Γ inl H k (fun l => Region.ready .any ops (gj ops.size l)) (pH ops) ops none q ex fu (fuel + 1) l dead st ((S.put (some d) (.lit b)).kid i) K = some out := by
       simp only [ax, ai] at h
       cases b
       ·exact ⟨1, h⟩
       ·exact ⟨0, h⟩
      exact iY hc hi hd hl hn hst0 hex0 F0 hK fu (fuel + 1) l dead st go hcl (fF Fb _) C (nH Zb _) hs he hst hI
     ·-- those that may come up, whichever is first
      refine ⟨fun h0 => ?_, fun j hrdy => ?_⟩
      ·simp only [h0, yO, ax] at h; cases h
      ·have hb := uI h j hrdy
       clear h
       obtain ⟨p, h⟩ := hb
       replace F := fF F p
       replace Z := nH Z p
       replace C : Cx g (S.to p) w0 D A w := C
       replace hs : ∀ i ∈ st0, i ∈ st ∧ (S.to p).ob i = S0.ob i ∧ g i = g0 i := hs
       replace he : ∀ i, dead.elem i = false → ∀ o ∈ exl ex i, (S.to p).ob o = S0.ob o ∧ g o = g0 o := he
       replace hst : ∀ i ∈ st, i < (S.to p).obs.length := hst
       replace hI : ∀ i, dead.elem i = false → ∀ w', (∃ w0 D A, Cx g0 (aC S0 (st0 ++ exl ex i)) w0 D A w') → ∃ w0 D A, Cx g (aC (S.to p) (st ++ exl ex i)) w0 D A w' := hI
       clear hSw
       generalize S.to p = S at F Z C hs he hst hI h
       split at h
       ·rename_i o ho
        have hom := List.mem_of_getElem? ho
        have ho' : ops[j]? = some o := by simpa using ho
        split at h
        ·rename_i hw
         have main : ∀ {K' : St → SV → Option α} {N : Act → World → Prop}, AM (ax α) P Γ inl H k S o.type o.op K' = some out → (∀ v w', Post g γ S n a w0 D A K' out v w' → N (a.put o.dst v) w') →
          wpOp P ops (sJ Q) j N a w := by
          intro K' N hdo hN
          unfold wpOp
          rw [ho']
          simp only
          rw [if_pos (ew F hd hw)]
          exact .inl ((wN hc hi F C hdo) o a _ _ rfl rfl (fun v w' hK' => hN v w' hK')).1
         split at h
         ·rename_i hjq
          split at h
          ·rename_i hf
           obtain ⟨rfl, hdone⟩ := hf
           have m2 := main (N := fun a' w' => Q .normal a' w') h (by
            rintro v w' ⟨g', S', sv, h1, rfl, h3, h4, h5, h6, h7⟩
            exact hK g' _ _ w' h1 (kI h3 (hd o hom) h5 h6) h4 ((Z.trans h7 (fun _ => id) (fun _ h => h.elim)).trans (nI _ _ _ _) (fun _ => id) (fun t ht => ⟨o, hom, ht⟩)))
           refine wpOp_mono (fun a' w' hN => ?_) m2
           exact ⟨.inl hjq, hdone, hN⟩
          ·simp [ax] at h
         ·rename_i hjq
          have m2 := main (N := fun a' w' => (∀ x, frB ops j x = true → (∃ w0 D A, Cx g0 (aC S0 (st0 ++ exl ex x)) w0 D A w) → (∃ w0 D A, Cx g0 (aC S0 (st0 ++ exl ex x)) w0 D A w')) ∧ wpE P ops (sJ Q) (fun i w' => ∃ w0 D A, Cx g0 (aC S0 (st0 ++ exl ex i)) w0 D A w') q fuel (gj ops.size (j :: l)) a' w') h (by
           rintro v w' ⟨g', S', sv, h1, rfl, h3, h4, h5, h6, h7⟩
           simp only at h1
           split at h1
           ·rename_i hdis
            have hboth := hdis.resolve_left (by simp)
            rw [Bool.and_eq_true] at hboth
            obtain ⟨hdis, hexk⟩ := hboth
            have hnm : ∀ i ∈ st, i ∉ S'.mods := fun i hi' hm => by
             have := List.all_eq_true.1 hdis i hm
             simp at this
             exact this hi'
            have hsm : ∀ i ∈ st, S'.ob i = S.ob i ∧ g' i = g i := fun i hi' => h7.same i (hst i hi') (hnm i hi')
            have hexl : ∀ i, ∀ o ∈ exl ex i, o < S.obs.length := fun i o ho => Nat.lt_of_lt_of_le (hex0 i o ho) Z.len
            have hsx : ∀ x, frB ops j x = true → ∀ o ∈ exl ex x, S'.ob o = S.ob o ∧ g' o = g o := fun x hx o ho => h7.same o (hexl x o ho) ((wO hexk hx).2 o ho)
            have hdx : ∀ x, frB ops j x = true → ∀ o ∈ exl ex x, S'.ob o = S0.ob o ∧ g' o = g0 o := fun x hx o ho => by
             obtain ⟨p, hp, hpe, _⟩ := tH.1 ho
             obtain ⟨q2, q3⟩ := he x ((wO hexk hx).1 p hp hpe) o ho
             exact ⟨(hsx x hx o ho).1.trans q2, (hsx x hx o ho).2.trans q3⟩
            have Z' : Kp g0 S0 (pQ ops.toList) g' S' := Z.trans h7 (fun _ => id) (fun _ h => h.elim)
            have hs' : ∀ i ∈ st0, i ∈ st ∧ S'.ob i = S0.ob i ∧ g' i = g0 i := fun i hi' => by
             obtain ⟨q1, q2, q3⟩ := hs i hi'
             exact ⟨q1, (hsm i q1).1.trans q2, (hsm i q1).2.trans q3⟩
            have Z2 : Kp g0 S0 (pQ ops.toList) g' (S'.put o.dst sv) := Z'.trans (nI _ _ _ _) (fun _ => id) (fun t ht => ⟨o, hom, ht⟩)
            have live : ∀ i, (dead ++ uj ops ex j).elem i = false → dead.elem i = false ∧ ∀ o ∈ exl ex i, frB ops j i = true := fun i hi => by
             have h1 : i ∉ dead ++ uj ops ex j := by simpa using hi
             rw [List.mem_append, not_or] at h1
             refine ⟨by simpa using h1.1, fun o ho => ?_⟩
             obtain ⟨p, hp, hpe, _⟩ := tH.1 ho
             cases hf : frB ops j i with
             | true => rfl
             | false => exact absurd (by simpa using A7.2 ⟨⟨p, hp, hpe⟩, hf⟩) h1.2
            refine ⟨fun x hx _ => Sw x h4 Z' (fun i hi' => (hs' i hi').2) (hdx x hx), iY hc hi hd hl hn hst0 hex0 F0 hK fu fuel (j :: l) _ st h1 (dm hcl hrdy) (kI h3 (hd o hom) h5 h6) h4 Z2 hs' (fun i hi o ho => hdx i ((live i hi).2 o ho) o ho) (fun i hi' => Nat.lt_of_lt_of_le (hst i hi') h7.len) (fun i hi w' hw' => ?_)⟩
            obtain ⟨w1, D1, A1, C1⟩ := hI i (live i hi).1 w' hw'
            exact ⟨w1, D1, A1, (Cg (S' := S'.put o.dst sv) (g' := g') F (fun x hx => by
             rcases List.mem_append.1 hx with hx | hx
             ·exact ⟨hst x hx, hsm x hx⟩
             ·exact ⟨hexl i x hx, hsx i ((live i hi).2 x hx) x hx⟩) h7.vb).2 C1⟩
           ·simp [ax] at h1)
          refine wpOp_mono (fun a' w' hN => ?_) m2
          obtain ⟨q1, q2⟩ := hN
          exact ⟨.inr q1, q2⟩
        ·simp [ax] at h
       ·simp [ax] at h
end
end Go.Proofs.YtlepjakmadlkjaaGreatDoor
namespace Go.Proofs.YtlepjakmadlkjaaGreatDoor
open Go
def jA (d : Nat) : Nat → Prop := fun t => bit d t = true
theorem iw {x y t : Nat} : bit (x ||| y) t = true ↔ bit x t = true ∨ bit y t = true := by simp [bit, Nat.testBit_or]
theorem HY {x y t : Nat} : bit (x &&& y) t = true ↔ bit x t = true ∧ bit y t = true := by simp [bit, Nat.testBit_and]
theorem Ch (t : Nat) : bit (1 <<< t) t = true := by simp [bit, Nat.testBit_shiftLeft]
theorem Fm {n b t : Nat} (h : t ∈ ug n b) : bit b t = true := (List.mem_filter.1 h).2
theorem zl : ∀ {os : List Oper} {t : Nat}, pQ os t → jA (jw os) t
 | [], t, ⟨o, ho, _⟩ => by cases ho
 | o :: os, t, ⟨o', ho', hd⟩ => by
   rw [jA, jw]
   refine iw.2 ?_
   rcases List.mem_cons.1 ho' with rfl | h
   ·left; rw [hd]; exact Ch t
   ·exact .inr (zl ⟨o', h, hd⟩)
def mn (D : Nat) : Deferred := { target := .collected D, args := #[] }
def Mk (γ : Ghost) (w : World) : Prop := γ.lo ≤ w.heap.size ∧ ∃ Ds : List Nat, γ.ds = Ds.map mn ∧ Ds.Pairwise (· ≠ ·) ∧ ∀ D ∈ Ds, γ.lo ≤ D ∧ w.heap[D]? = some (.deferred (some []))
theorem uJ {f : Nat → Value} {lo : Nat} {gp : ∀ t, rG ≤ t → GlV (f t) (t % shift)} {w : World} (h : lo ≤ w.heap.size) : Mk ⟨f, [], lo, gp⟩ w := ⟨h, [], rfl, .nil, fun _ h => by cases h⟩
theorem rZ {v : Value} {e sz n : Nat} {xs : List Value} {w : World} {b : Nat} (h : (eX v e sz n xs).ok w) (hd : (eX v e sz n xs).dom b) : ∃ x : Obj, w.heap[b]? = some x ∧ x.isCells = true := by
 have h : OwnR w e sz v n xs := h
 have hd : v.ownBlock = some b := hd
 rcases h.see.2 with hn | ⟨q, cap, cur, e', fz, hv, hgg, rest⟩
 ·rw [hn.1] at hd; simp [Value.ownBlock] at hd
 ·rw [hv] at hd
  simp [Value.ownBlock] at hd
  subst hd
  exact ⟨_, hgg, rfl⟩
theorem zm {g : Env} {i : Nat} {o : Ob} {w : World} {b : Nat} (h : (cF g i o).ok w) (hd : (cF g i o).dom b) : ∃ x : Obj, w.heap[b]? = some x ∧ x.isCells = true := by
 cases o with
 | box T ls => have e : b = (g i).b := hd; subst e; exact ⟨_, h, rfl⟩
 | row e t xs m fu =>
   cases m with
   | own => exact rZ h hd
   | rd => exact hd.elim
   | lent => exact hd.elim
 | fleet e d xs hl => exact hd.elim
 | gone => exact hd.elim
theorem zn {G : GV} {e : Nat} {d : Kd} {xs : List (bm d).den} {hole : Option Nat} {q : Option (Nat × Nat)} {w : World} {b : Nat} (h : (aF G e d xs hole q).ok w) (hd : (aF G e d xs hole q).dom b) : ∃ x : Obj, w.heap[b]? = some x ∧ x.isCells = true := by
 cases q with
 | none => exact rZ h hd
 | some kj =>
   simp only [aF] at h hd
   split at hd
   ·exact hd.elim
   ·rename_i hh
    rw [if_neg hh] at h
    split at hd
    ·rename_i x hx
     rw [hx] at h
     exact zm h hd
    ·exact hd.elim
theorem uK {g : Env} {i : Nat} {o : Ob} {w : World} {b : Nat} (h : (an g i o).ok w) (hd : (an g i o).dom b) : ∃ x : Obj, w.heap[b]? = some x ∧ x.isCells = true := by
 cases o with
 | box T ls => have e : b = (g i).b := hd; subst e; exact ⟨_, h, rfl⟩
 | row e t xs m fu =>
   cases m with
   | own => exact rZ h hd
   | rd => exact hd.elim
   | lent => exact hd.elim
 | fleet e d xs hl => obtain ⟨q, hq⟩ := hd; exact zn (h q) hq
 | gone => exact hd.elim
theorem sX {l : Bool} {F : List Fact} {w : World} {b : Nat} (h : (dK l F).ok w) (hd : (dK l F).dom b) : ∃ x : Obj, w.heap[b]? = some x ∧ x.isCells = true := by
 obtain ⟨f, hf, hne, ha⟩ := hd
 obtain ⟨_, ao, c, hv, _, _, _, h2⟩ := h f hf
 obtain ⟨u, us, hus⟩ := List.exists_cons_of_ne_nil hne
 obtain ⟨ad, rfl, hc⟩ := h2 0 u (by rw [hus]; rfl)
 rw [hv] at ha
 have e : ad.block = b := by simpa [aT] using ha
 obtain ⟨x, h1, h2⟩ := cells_of_cell hc
 rw [jF, e] at h1
 exact ⟨x, h1, h2⟩
theorem zo {g : Env} {i : Nat} {o : Ob} {w : World} {b : Nat} (h : (cG g i o).ok w) (hd : (cG g i o).dom b) : ∃ x : Obj, w.heap[b]? = some x ∧ x.isCells = true := by
 cases o with
 | box T ls => exact hd.elim
 | row e t xs m fu => cases m <;> first | exact sX h hd | exact hd.elim
 | fleet e d xs hl => exact hd.elim
 | gone => exact hd.elim
theorem zp {G : GV} {d : Kd} {xs : List (bm d).den} {hole : Option Nat} {q : Nat × Nat} {w : World} {b : Nat} (h : (aY G d xs hole q).ok w) (hd : (aY G d xs hole q).dom b) : ∃ x : Obj, w.heap[b]? = some x ∧ x.isCells = true := by
 simp only [aY] at h hd
 split at hd
 ·exact hd.elim
 ·rename_i hh
  rw [if_neg hh] at h
  split at hd
  ·rename_i x hx
   rw [hx] at h
   exact zo h hd
  ·exact hd.elim
theorem A8 {g : Env} {i : Nat} {o : Ob} {w : World} {b : Nat} (h : (az g i o).ok w) (hd : (az g i o).dom b) : ∃ x : Obj, w.heap[b]? = some x ∧ x.isCells = true := by
 cases o with
 | box T ls => exact hd.elim
 | row e t xs m fu => cases m <;> exact sX h hd
 | fleet e d xs hl => obtain ⟨q, hq⟩ := hd; exact zp (h q) hq
 | gone => exact hd.elim
theorem HZ {w0 w : World} {D A : Nat → Prop} {L R : Nat → Ent} (C : CtxF w0 D A L R w) : CtxF w (pI L) (qB R) L R w :=
 ⟨Fr.refl _ _, C.okL, C.okR, fun i b hb => .inl ⟨i, hb⟩, C.sepL, C.sepR, fun i hl b hb => .inl ⟨i, hl, hb⟩⟩
theorem qR {w0 w w' : World} {D A : Nat → Prop} {L R L' R' : Nat → Ent} (C : CtxF w0 D A L R w) (K : CtxF w (pI L) (qB R) L' R' w') : CtxF w0 D A L' R' w' := by
 refine ⟨C.fr.trans K.fr (fun x hx => ?_), K.okL, K.okR, fun i b hb => ?_, K.sepL, K.sepR, fun i hl b hb => ?_⟩
 ·obtain ⟨i, hi⟩ := hx; exact C.mine i x hi
 ·rcases K.mine i b hb with ⟨j, hj⟩ | h
  ·exact C.mine j b hj
  ·exact .inr (Nat.le_trans C.fr.size h)
 ·rcases K.src i hl b hb with ⟨j, h1, h2⟩ | ⟨j, hj⟩ | h
  ·exact C.src j h1 b h2
  ·exact .inr (C.mine j b hj)
  ·exact .inr (.inr (Nat.le_trans C.fr.size h))
theorem Kk {w0 w w' : World} {D A F : Nat → Prop} {g : Env} {S : St} (C : Cx g S w0 D A w) (h : Fr F w w') (hF : ∀ b, F b → b < w.heap.size → ∃ o : Obj, w.heap[b]? = some o ∧ o.isCells = false) (hD : ∀ b, F b → D b ∨ w0.heap.size ≤ b) : Cx g S w0 D A w' := by
 have no : ∀ {b : Nat}, b < w.heap.size → (∃ x : Obj, w.heap[b]? = some x ∧ x.isCells = true) → ¬ F b := fun {b} hlt ⟨x, h1, h2⟩ hb => by
  obtain ⟨o, h3, h4⟩ := hF b hb hlt
  rw [h1] at h3; cases h3; rw [h2] at h4; cases h4
 have lt : ∀ {b : Nat}, (∃ x : Obj, w.heap[b]? = some x ∧ x.isCells = true) → b < w.heap.size := fun {b} ⟨x, h1, _⟩ => (Array.getElem?_eq_some_iff.1 h1).1
 refine ⟨C.fr.trans h hD, fun i => ?_, fun i => ?_, C.mine, C.sepL, C.sepR, C.src⟩
 ·exact Ent.keep _ (C.okL i) h (fun b hb => by have := uK (C.okL i) hb; exact no (lt this) this)
 ·exact Ent.keep _ (C.okR i) h (fun b hb => by have := A8 (C.okR i) hb; exact no (lt this) this)
theorem qS {w0 w : World} {D A : Nat → Prop} {g : Env} {S : St} (C : Cx g S w0 D A w) : Cx g S w (pI fun i => an g i (S.ob i)) (qB fun i => az g i (S.ob i)) w := HZ C
theorem qT {w0 w w' : World} {D A : Nat → Prop} {g g' : Env} {S S' : St} (C : Cx g S w0 D A w) (K : Cx g' S' w (pI fun i => an g i (S.ob i)) (qB fun i => az g i (S.ob i)) w') {b : Nat} {o : Obj} (h : w.heap[b]? = some o) (ho : o.isCells = false) :
 w'.heap[b]? = some o := by
 rw [K.fr.block b (Array.getElem?_eq_some_iff.1 h).1 (fun hd => ?_)]
 ·exact h
 ·obtain ⟨i, hi⟩ := hd
  obtain ⟨x, h1, h2⟩ := uK (C.okL i) hi
  rw [h] at h1; cases h1; rw [ho] at h2; cases h2
theorem Ci {w0 w w' : World} {D A : Nat → Prop} {g g' : Env} {S S' : St} {γ : Ghost} (C : Cx g S w0 D A w) (K : Cx g' S' w (pI fun i => an g i (S.ob i)) (qB fun i => az g i (S.ob i)) w') (h : Mk γ w) : Mk γ w' := by
 obtain ⟨h0, Ds, h1, h2, h3⟩ := h
 exact ⟨Nat.le_trans h0 K.fr.size, Ds, h1, h2, fun D hD => ⟨(h3 D hD).1, qT C K (h3 D hD).2 rfl⟩⟩
section
variable {P : Program} {g g' g'' g0 : Env} {γ γ0 : Ghost} {S S' S'' base : St} {n : Nat} {a a0 : Act} {w0 w w' : World} {D A : Nat → Prop} {d : Nat → Prop}
theorem Lb {γ' : Ghost} (F : Fit g γ S n a) (h : SameG γ' γ) (hd : γ'.ds = γ.ds) : Fit g γ' S n a := ⟨F.size, F.lo, F.defers.trans hd.symm, fun t sv hl => by have := F.sl t sv hl; rwa [h.f], F.ob, F.ok, F.rs, F.rb⟩
theorem A9 {ds : List Deferred} (F : Fit g γ S n a) : Fit g ⟨γ.f, ds, γ.lo, γ.gp⟩ S n { a with defers := ds } := ⟨F.size, F.lo, rfl, F.sl, F.ob, F.ok, F.rs, F.rb⟩
def sa (e : Ek) (S : St) (dfs : Nat) (c : Cls) (x : fC c.T) (g0 : Env) (γ : Ghost) (n : Nat) (a : Act) (w0 : World) (D A : Nat → Prop) (w : World) : Prop :=
 ∀ (R : Type) (K : Ek → St → Option R) (ps : List Plan) (r : R), ej c.T x (fD (ax R) S dfs c.cls ps K) = some r →
  ∃ g'' γ' S'', K e S'' = some r ∧ Fit g'' γ' S'' n a ∧ Cx g'' S'' w0 D A w ∧ Mk γ' w ∧ SameG γ' γ ∧ Kp g0 S (jA dfs) g'' S''
theorem fa {c : Cls} {lv : Ek → Nat} {e : Ek} {dfs : Nat} {x : fC c.T} {γ' : Ghost} (hS : S.slots = base.slots) (hO : S.obs = base.obs) (F0 : Fit g0 γ base n a0) (F : Fit g' γ' S' n a) (C' : Cx g' S' w0 D A w) (M : Mk γ' w) (hf : SameG γ' γ) (K : Kp g0 base d g' S')
 (hd : ∀ t, d t → jA dfs t) (h : tk base dfs c lv e S' = some x) : sa e S dfs c x g0 γ n a w0 D A w := by
 intro R KK ps r hr
 unfold tk at h
 split at h
 ·rename_i N pl hN
  split at h
  ·rename_i hc
   simp only [Bool.and_eq_true] at hc
   split at h
   ·rename_i i hi
    obtain ⟨_, s', hs, hl⟩ := mi hi
    rw [Nat.sub_zero] at hs
    rw [rW h] at hr
    unfold fD at hr
    rw [hs] at hr
    simp only at hr
    obtain ⟨n1, n2, n3⟩ := qM hN
    obtain ⟨N', hfi, hW⟩ := AU n1 n2 n3 hl
    rw [hfi] at hr
    simp only at hr
    have F0' : Fit g0 γ' base n { a0 with defers := γ'.ds } := Lb (A9 (ds := γ'.ds) F0) ⟨hf.f, hf.lo⟩ rfl
    obtain ⟨g'', q1, q2, q3⟩ := wJ hS hO F0' F C' K hd (fun t ht => (HY.1 (Fm ht)).2) hN hc.1 hc.2 hW
    exact ⟨g'', γ', _, hr, fF q1 _, q2, M, hf, nH q3 _⟩
   ·cases h
  ·cases h
 ·cases h
theorem dI (F : Fit g γ S n a) : Fit g γ (aQ S) n a := ⟨F.size, F.lo, F.defers, F.sl, F.ob, F.ok, F.rs, F.rb⟩
def toX : Ek → Exit
 | .normal => .normal
 | .exit i => .exit i
 | .ret => .ret
def sY (n : Nat) (dfs : Nat) (run : Run) (W : (Exit → Act → World → Prop) → Act → World → Prop) : Prop :=
 ∀ {α : Type} {K : Ek → St → Option α} {out : α} {Q : Exit → Act → World → Prop} {g : Env} {γ : Ghost} {S : St} {a : Act} {w w0 : World} {D A : Nat → Prop}, run _ (ax α) S K = some out → Fit g γ S n a → Cx g S w0 D A w → Mk γ w →
  (∀ g' γ' S' e a' w', K e S' = some out → Fit g' γ' S' n a' → Cx g' S' w0 D A w' → Mk γ' w' → SameG γ' γ → Kp g S (jA dfs) g' S' → Q (toX e) a' w') → W Q a w
def Kl (γ : Ghost) (n : Nat) (dfs : Nat) (run : Run) (W : (Exit → Act → World → Prop) → Act → World → Prop) : Prop :=
 ∀ {α : Type} {K : Ek → St → Option α} {out : α} {Q : Exit → Act → World → Prop} {g : Env} {S : St} {a : Act} {w w0 : World} {D A : Nat → Prop}, run _ (ax α) S K = some out → Fit g γ S n a → Cx g S w0 D A w →
  (∀ g' S' e a' w', K e S' = some out → Fit g' γ S' n a' → Cx g' S' w0 D A w' → Kp g S (jA dfs) g' S' → Q (toX e) a' w') → W Q a w
theorem Fo {dfs : Nat} {run : Run} {W : (Exit → Act → World → Prop) → Act → World → Prop} (h : ∀ γ, Kl γ n dfs run W) : sY n dfs run W :=
 fun {α K out Q g γ S a w w0 D A} hr F C M hK =>
  h γ hr F (qS C) (fun g' S' e a' w' h1 h2 h3 h4 => hK g' γ S' e a' w' h1 h2 (qR C h3) (Ci C h3 M) (SameG.refl _) h4)
theorem Ba {α : Type} {K : Ek → St → Option α} {out : α} {Q : Exit → Act → World → Prop} {dfs : Nat} {lv : Ek → Nat} {c : Cls} {p : Plan} {ps : List Plan} {run : Run} {W : (Exit → Act → World → Prop) → Act → World → Prop} (hrun : sY n dfs run W)
 (h : EU (ax α) S dfs lv c p ps run K = some out) (F : Fit g γ S n a) (C : Cx g S w0 D A w) (M : Mk γ w)
 (hK : ∀ g' γ' S' e a' w', K e S' = some out → Fit g' γ' S' n a' → Cx g' S' w0 D A w' → Mk γ' w' → SameG γ' γ → Kp g S (jA dfs) g' S' → Q (toX e) a' w') : W Q a w := by
 unfold EU at h
 obtain ⟨y, hy, h⟩ := Option.bind_eq_some_iff.1 h
 refine hrun hy (fF (dI F) _) C M (fun g' γ' S' e a' w' hi F' C' M' hf Z => ?_)
 have Z' : Kp g (aQ S) (jA dfs) g' S' := ⟨Z.len, Z.vb, Z.same, Z.mods, Z.slots, Z.rows⟩
 obtain ⟨g'', γ'', S'', q1, q2, q3, q4, q5, q6⟩ := fa (S := S) (base := aQ S) rfl rfl (dI F) F' C' M' hf Z' (fun _ => id) hi _ _ _ _ h
 exact hK g'' γ'' S'' e a' w' q1 q2 q3 q4 q5 q6
theorem Bb {α : Type} {K : Ek → St → Option α} {out : α} {Q : Exit → Act → World → Prop} {dfs k : Nat} {lv : Ek → Nat} {run : Run} {ro : Option Nat} {b : Code} {hd oc : Cls} {hs os : List Plan} (hrun : sY n dfs run (fun Q a w => b.wpIn (FR ro) 3 P Q a w))
 (h : EV k (ax α) S dfs lv run K hd oc hs os = some out) (F : Fit g γ S n a) (C : Cx g S w0 D A w) (M : Mk γ w)
 (hK : ∀ g' γ' S' e a' w', K e S' = some out → Fit g' γ' S' n a' → Cx g' S' w0 D A w' → Mk γ' w' → SameG γ' γ → Kp g S (jA dfs) g' S' → Q (toX e) a' w') : (Code.loop b).wpIn (FR ro) 3 P Q a w := by
 unfold EV at h
 obtain ⟨y, hy, h⟩ := Option.bind_eq_some_iff.1 h
 obtain ⟨x0, hx0, hl0⟩ := Option.bind_eq_some_iff.1 hy
 refine Eb (I := fun j a w => ∃ x, aP j (qF (aQ S) dfs lv run hd oc hs) x = some y ∧ sa .normal (aQ S) dfs hd x g γ n a w0 D A w) rfl k
  ⟨x0, hl0, fa (S := aQ S) (base := aQ S) rfl rfl (dI F) (dI F) C M (SameG.refl _) (Kp.refl g (aQ S) (jA dfs)) (fun _ => id) hx0⟩ ?_
 rintro j a1 w1 ⟨x, hx, hst⟩
 cases j with
 | zero => simp [aP] at hx
 | succ j =>
   simp only [aP] at hx
   obtain ⟨z, hz, hx⟩ := Option.bind_eq_some_iff.1 hx
   obtain ⟨g1, γ1, S1, q1, q2, q3, qm, qf, q4⟩ := hst _ _ _ _ hz
   refine hrun q1 q2 q3 qm (fun g2 γ2 S2 e a2 w2 hk F2 C2 M2 hf2 Z2 => ?_)
   have Z := q4.trans Z2 (fun _ => id) (fun _ => id)
   by_cases he : e = .normal
   ·subst he
    rw [if_pos rfl] at hk
    obtain ⟨x', hx', rfl⟩ := Option.map_eq_some_iff.1 hk
    exact ⟨j, Nat.lt_succ_self j, x', hx, fa (S := aQ S) (base := aQ S) rfl rfl (dI F) F2 C2 M2 (hf2.trans qf) Z (fun _ => id) hx'⟩
   ·rw [if_neg he] at hk
    obtain ⟨x', hx', rfl⟩ := Option.map_eq_some_iff.1 hk
    simp only [bT, Option.some.injEq] at hx
    subst hx
    obtain ⟨g3, γ3, S3, p1, p2, p3, pm, pf, p4⟩ := fa (S := S) (base := aQ S) rfl rfl (dI F) F2 C2 M2 (hf2.trans qf) Z (fun _ => id) hx' _ _ _ _ h
    have := hK g3 γ3 S3 e a2 w2 p1 p2 p3 pm pf p4
    cases e with
    | normal => exact absurd rfl he
    | exit i => exact this
    | ret => exact this
end
def Fq (Q : Exit → Act → World → Prop) : Exit → Act → World → Prop
 | .normal, a, w => Q .normal a w
 | .exit i, a, w => Q (.exit i) a w
 | .ret, a, w => Q .ret a w
 | _, _, _ => False
theorem Bc {op : Op} (h : BY op = true) : ∀ c, op ≠ .defer c := by
 intro c hc; rw [hc] at h; cases h
theorem nN {P : Program} {ro : Option Nat} {ops : Array Oper} {Q : Exit → Act → World → Prop} (hno : ∀ a w, ¬ Q .outgrown a w) (hd : ∀ (i : Nat) (o : Oper), ops[i]? = some o → ∀ c, o.op ≠ .defer c) : ∀ (fuel : Nat) (listed : Array Bool) (a : Act) (w : World),
 wpAny P .any ops Q fuel listed a w → wpAnyIn (FR ro) 3 P .any ops Q fuel listed a w
 | 0, listed, a, w, h => h
 | fuel + 1, listed, a, w, ⟨h0, h1⟩ => by
   refine ⟨h0, fun i hi => ?_⟩
   have h := h1 i hi
   unfold wpOp at h
   unfold wpOpIn
   cases ho : ops[i]? with
   | none =>
     rw [ho] at h
     exact nN hno hd fuel _ _ _ h
   | some o =>
     rw [ho] at h
     simp only at h ⊢
     split
     ·rename_i hw
      rw [if_pos hw] at h
      rcases h with h | ⟨_, _, _, hq⟩
      ·refine ⟨fun _ _ => trivial, ?_⟩
       rw [Oper.semAt_eq _ _ _ (hd i o ho)]
       unfold Oper.wp at h
       generalize (execOp a.eval o).run P w = r at h ⊢
       cases r with
       | ok x w' =>
         cases x with
         | value v => exact nN hno hd fuel _ _ _ h
         | skip => exact nN hno hd fuel _ _ _ h
         | defer d => exact nN hno hd fuel _ _ _ h
         | enter f args =>
           refine ⟨fun _ => by decide, callsIn_wide.2 (Calls.mono h ?_)⟩
           rintro e w'' he
           cases e with
           | returned v => exact nN hno hd fuel _ _ _ he
           | panicked c => exact he
           | outgrown => obtain ⟨_, _, hq⟩ := he; exact (hno _ _ hq).elim
         | row row args =>
           refine ⟨fun _ => by decide, fun c cs _ => ?_⟩
           obtain ⟨v, w'', hR, hs⟩ := h c cs
           exact ⟨v, w'', nN hno hd fuel _ _ _ hR, stepsIn_wide.2 hs⟩
         | round l f t s b => exact h.elim
         | _ => exact h.elim
       | halt x w' =>
         cases x <;> first | exact h.elim | exact h
      ·exact (hno _ _ hq).elim
     ·rename_i hw
      rw [if_neg hw] at h
      exact ⟨fun _ _ => trivial, nN hno hd fuel _ _ _ h⟩
theorem H0 {P : Program} {ro : Option Nat} {c : Code} {Q : Exit → Act → World → Prop} {a : Act} {w : World} (h : c.wpIn (FR ro) 3 P (Fq Q) a w) : c.wpIn (FR ro) 3 P Q a w :=
 wpIn_mono h fun e a w q => by cases e <;> first | exact q | exact q.elim
theorem Fs {P : Program} {ro : Option Nat} {Q : Exit → Act → World → Prop} {a : Act} {w : World} {c : Code} {N : Nat} (q : Nat) (h : c.kind.1 = 3) (hm : P.follows .mixedOrders = true) (S : Nat → World → Prop) (hN : c.ops.size = N)
 (hl : (lA c.ops q && Region.noSelect c.ops) = true) (hnd : ∀ o ∈ c.ops.toList, BY o.op = true)
 (hd : ∀ w', Fr nob w w' → drE P c.ops (Fq Q) S q N [] a w') : c.wpIn (FR ro) 3 P Q a w := by
 simp only [Bool.and_eq_true] at hl
 cases c <;> simp [Code.kind] at h
 case region i o d =>
  cases d <;> simp at h
  refine H0 (Ec (wpIn_region_any hm (nN (fun _ _ h => h) (fun j x hj => Bc (hnd x ?_)) _ _ _ _ (BQ (S := S) (q := q) _ _ _ _ ?_))))
  ·exact List.mem_of_getElem? (by simpa [Code.ops] using hj)
  ·have := hd _ (Fr.drawn w (w.drawn + 1)) hl.1 hl.2 (fun j o _ hj => by simp [gj, Code.ops, Array.getElem?_replicate] at hj; split at hj <;> simp at hj)
   subst hN
   exact this
section
variable {P : Program} {g g3 : Env} {γ γ3 : Ghost} {S S3 : St} {n n3 : Nat} {a a3 : Act} {w0 w w' : World} {D A : Nat → Prop} {d : Nat → Prop}
theorem Ft (F : Fit g γ S n a) (F3 : Fit g3 γ3 S3 n3 a3) (K : Kp g S d g3 S3) (ds : List Deferred) : Fit g3 ⟨γ.f, ds, γ.lo, γ.gp⟩ { S3 with slots := S.slots } n { a with defers := ds } := by
 refine ⟨F.size, F.lo, rfl, fun t sv h => ?_, F3.ob, fun t sv h => ?_, fun t sv h o ho => Nat.lt_of_lt_of_le (F.rs t sv h o ho) K.len, F3.rb⟩
 ·rw [qK sv (fun o ho => K.vb o (F.rs t sv h o ho))]; exact F.sl t sv h
 ·have h1 := F.ok t sv h
  have h2 := F.rs t sv h
  have okE : ∀ v : V1, okV S v → (∀ o ∈ bi v, o < S.obs.length) → okV { S3 with slots := S.slots } v := fun v hv hr => by
   cases v with
   | elp o sz i off =>
     intro e t xs m fu he
     obtain ⟨e0, xs0, m0, fu0, q1, q2⟩ := K.rows o (hr o (by simp [bi])) e t xs m fu he
     have := hv e0 t xs0 m0 fu0 q1
     omega
   | arp b off t n i => exact hv
   | _ => trivial
  cases sv with
  | v x => exact okE x h1 h2
  | tup xs => exact fun x hx => okE x (h1 x hx) (fun o ho => h2 o (List.mem_flatMap.2 ⟨x, hx, ho⟩))
theorem H1 {S0 : St} (K : Kp g S0 d g3 S3) (hS : S.slots = S0.slots) (d' : Nat → Prop) : Kp g S0 d' g3 { S3 with slots := S.slots } :=
 ⟨K.len, K.vb, K.same, K.mods, fun t _ => by rw [← hS], K.rows⟩
theorem Km {γ : Ghost} {l : Nat} {o o' : Obj} (h : Mk γ w) (hl : w.heap[l]? = some o) (ho : ∀ x, o ≠ .deferred x) : Mk γ (w.putObj l o') := by
 obtain ⟨h0, Ds, h1, h2, h3⟩ := h
 refine ⟨by simpa using h0, Ds, h1, h2, fun D hD => ⟨(h3 D hD).1, ?_⟩⟩
 rw [World.putObj_heap_other (fun e => ?_)]
 ·exact (h3 D hD).2
 ·subst e
  have := (h3 D hD).2
  rw [hl] at this
  exact ho _ (Option.some.inj this)
theorem Kn (l : Nat) (o : Obj) : Fr (fun b => b = l) w (w.putObj l o) := ⟨rfl, rfl, rfl, by simp, fun b _ hb => World.putObj_heap_other hb⟩
theorem oK {l : Nat} {o o' : Obj} (C : Cx g S w0 D A w) (hl : w.heap[l]? = some o) (ho : o.isCells = false) (hb : w0.heap.size ≤ l) : Cx g S w0 D A (w.putObj l o') :=
 Kk C (Kn l o') (fun b e _ => by subst e; exact ⟨o, hl, ho⟩) (fun b e => by subst e; exact .inr hb)
theorem Fu (C : Cx g S w0 D A w) {o e : Nat} {u : Ty} {xs : List u.den} {m : Md} {fu : Bool} (h : S.ob o = .row e u xs m fu) : Shp (g o).v xs.length := by
 have hL := C.okL o
 have hR := C.okR o
 rw [h] at hL hR
 cases m with
 | own => exact dV (kD (hL : OwnR w e u.sz (g o).v xs.length (g o).cs))
 | rd => exact dV (hR ⟨(g o).v, xs.length, u.sz, (g o).cs⟩ (List.mem_cons_self ..))
 | lent => exact dV (hR ⟨(g o).v, xs.length, u.sz, (g o).cs⟩ (List.mem_cons_self ..))
theorem Fv {o e : Nat} {u : Ty} {xs : List u.den} {m : Md} {fu : Bool} (h : S.ob o = .row e u xs m fu) (e' : TypeId) (sz : Nat) (i : Int) : ldS P S e' (.v (.elp o sz i 0)) = Kc P e' u m (at_ u xs i) S.obs.length := by
 simp only [ldS, h, Kc]
 cases cellsOf P e' <;> rfl
theorem Bd {α : Type} (xs : List α) (m : Nat) (h : m < xs.length) : kA (xs.take (m + 1)) = ((m : Int), xs[m]) :: kA (xs.take m) := by
 unfold kA
 rw [List.take_add_one, List.getElem?_eq_getElem h, Option.toList_some, List.zipIdx_append, List.map_append, List.reverse_append]
 simp [Nat.min_eq_left (Nat.le_of_lt h)]
theorem Fw {ρ ρ' : Operand → Value} {t : TypeId} {X Y : Operand} {v : Value} (h : cV P ρ (.load t X) w v w) (e : ρ' Y = ρ X) : cV P ρ' (.load t Y) w v w := by
 intro o ho
 have := h { o with op := .load t X } rfl
 simp only [execOp, ho, e] at this ⊢
 exact this
def Lc : Ek → Code
 | .normal => .skip
 | .exit i => .exit i
 | .ret => .ret
end
section
variable {P : Program} {g : Env} {γ : Ghost} {S : St} {n : Nat} {a : Act} {w0 w : World} {D A : Nat → Prop}
theorem sZ {β : Type} {K : Ek → St → Option β} {out : β} {Q : Exit → Act → World → Prop} {B : Bk} (hB : BkOk P B) {gop : Operand} {ps : Array Tmp} {asg body : Code} {asgR bodyR : Run} {dA dB : Nat}
 {b o T e : Nat} {u : Ty} {xs : List u.den} {m : Md} {fu : Bool} {hd oc : Cls} {hs ns os : List Plan} (G : List (Int × u.den) → fC hd.T → Prop) {x0 : fC hd.T}
 (F : Fit g γ S n a) (C : Cx g S w0 D A w) (M : Mk γ w)
 (hg : a.eval gop = .func (.func B.gf) #[] #[.pointer (some ⟨(g b).b, 0, none⟩)]) (hb : S.ob b = .box T [.sl o]) (ho : S.ob o = .row e u xs m fu) (hTe : B.Te = e) (hsz : cg P B.Ts = some u.sz)
 (hps : ∀ p ∈ ps.toList, p < n)
 (hasg : ∀ l, sY n dA asgR (fun Q a w => asg.wpIn (FR (some l)) 3 P Q a w)) (hbody : ∀ l, sY n dB bodyR (fun Q a w => body.wpIn (FR (some l)) 3 P Q a w))
 (hx0 : tk (aQ S) 0 hd (fun _ => 0) .normal (aQ S) = some x0) (hG : G (kA xs) x0)
 (hG0 : ∀ x, G [] x → ej hd.T x (fD (ax β) S 0 hd.cls ns fun _ S' => K .normal S') = some out)
 (hG1 : ∀ p rest x, G (p :: rest) x → ∃ (δ : Type) (KK : Ek → St → Option δ) (z : δ), ej hd.T x (fD (ax δ) (aQ S) 0 hd.cls hs fun _ S' => rR P S b o e u m ps.toList asgR bodyR p _ (ax δ) S' KK) = some z ∧
  ∀ e S2, KK e S2 = some z → (e = .normal ∧ ∃ x', tk (aQ S) 0 hd (fun _ => 0) .normal S2 = some x' ∧ G rest x') ∨
   (e ≠ .normal ∧ ∃ x', tk (aQ S) 0 oc (fun _ => 0) e S2 = some x' ∧ ej oc.T x' (fD (ax β) S 0 oc.cls os K) = some out))
 (hK : ∀ g' γ' S' e a' w', K e S' = some out → Fit g' γ' S' n a' → Cx g' S' w0 D A w' → Mk γ' w' → SameG γ' γ → Kp g S (jA 0) g' S' → Q (toX e) a' w') :
 (Code.rangeFunc gop ps asg body).wpIn (FR none) 3 P Q a w := by
 refine wpIn_rangeFunc ?_
 intro fn hfn
 obtain ⟨rec, hrec⟩ : ∃ rec : LoopState → Option Code → Loop, rec = fun st pe => { state := st, pending := pe, fn, tmps := a.tmps, params := ps, assign := asg, body, defers := w.heap.size } := ⟨_, rfl⟩
 obtain ⟨W1, hW1⟩ : ∃ W1, (w.alloc (.deferred (some []))).alloc (.loop (rec .ready none)) = W1 := ⟨_, rfl⟩
 obtain ⟨l, hl⟩ : ∃ l, l = w.heap.size + 1 := ⟨_, rfl⟩
 have hL1 : W1.heap[l]? = some (.loop (rec .ready none)) := by
  rw [← hW1, hl]; have := World.alloc_heap_new (w.alloc (.deferred (some []))) (.loop (rec .ready none)); rwa [World.size_alloc] at this
 have hK1 : W1.heap[w.heap.size]? = some (.deferred (some [])) := by
  rw [← hW1]; exact (Go.RowKit.Below.heap_alloc _ _ _ (by simp)).trans (World.alloc_heap_new w _)
 have hFr1 : Fr nob w W1 := by rw [← hW1]; exact (Fr.alloc w _).then (Fr.alloc _ _)
 have C0 := qS C
 obtain ⟨DD, hDD⟩ : ∃ DD, DD = pI fun i => an g i (S.ob i) := ⟨_, rfl⟩
 obtain ⟨AA, hAA⟩ : ∃ AA, AA = qB fun i => az g i (S.ob i) := ⟨_, rfl⟩
 rw [← hDD, ← hAA] at C0
 have C1 : Cx g (aQ S) w DD AA W1 := jM C0 hFr1
 obtain ⟨ar, har⟩ : ∃ ar : Act, ar = { a with defers := [] } := ⟨_, rfl⟩
 have F0 : Fit g ⟨γ.f, [], γ.lo, γ.gp⟩ (aQ S) n ar := by rw [har]; exact A9 (dI F)
 have hlen : xs.length ≤ 9223372036854775807 := by obtain ⟨ao, c, _, h1, h2, _⟩ := Fu C ho; omega
 have hbl : b < S.obs.length := by
  rcases Nat.lt_or_ge b S.obs.length with h | h
  ·exact h
  ·rw [kF h] at hb; cases hb
 have hol : o < S.obs.length := by
  rcases Nat.lt_or_ge o S.obs.length with h | h
  ·exact h
  ·rw [kF h] at ho; cases ho
 obtain ⟨v, hv⟩ : ∃ v, v = (g o).v := ⟨_, rfl⟩
 have hshp : Shp v xs.length := by rw [hv]; exact Fu C ho
 -- between rounds
 obtain ⟨J, hJ⟩ : ∃ J : Nat → World → Prop, J = fun k W => W.heap[l]? = some (.loop (rec .ready none)) ∧ W.heap[w.heap.size]? = some (.deferred (some [])) ∧ ∃ x, G (kA (xs.take k)) x ∧
  sa .normal (aQ S) 0 hd x g ⟨γ.f, [], γ.lo, γ.gp⟩ n ar w DD AA W ∧ sa .normal S 0 hd x g ⟨γ.f, [], γ.lo, γ.gp⟩ n ar w DD AA W := ⟨_, rfl⟩
 obtain ⟨X, hX⟩ : ∃ X : World → Prop, X = fun W => ∃ (e : Ek) (x : fC oc.T), e ≠ .normal ∧ W.heap[l]? = some (.loop (rec .done (some (Lc e)))) ∧ W.heap[w.heap.size]? = some (.deferred (some [])) ∧
  ej oc.T x (fD (ax β) S 0 oc.cls os K) = some out ∧ sa e S 0 oc x g ⟨γ.f, [], γ.lo, γ.gp⟩ n ar w DD AA W := ⟨_, rfl⟩
 -- what is left behind
 have oldM : ∀ {g' : Env} {S' : St} {W : World}, Cx g' S' w DD AA W → Mk γ W := fun {g' S' W} K => by
  rw [hDD, hAA] at K; exact Ci C K M
 have backC : ∀ {g' : Env} {S' : St} {W : World}, Cx g' S' w DD AA W → Cx g' S' w0 D A W := fun {g' S' W} K => by
  rw [hDD, hAA] at K; exact qR C K
 have leave : ∀ (e : Ek) (g' : Env) (γ' : Ghost) (S' : St) (W : World) (st : LoopState) (pe : Option Code), K e S' = some out → Fit g' γ' S' n ar → Cx g' S' w DD AA W → SameG γ' γ → Kp g S (jA 0) g' S' → W.heap[l]? = some (.loop (rec st pe)) → W.heap[w.heap.size]? = some (.deferred (some [])) → ∀ o',
  Q (toX e) { a with defers := mn w.heap.size :: a.defers } (W.putObj l o') := by
  intro e g' γ' S' W st pe h1 h2 h3 h4 h5 h6 h7 o'
  have hds : a.defers = γ.ds := F.defers
  have Fn : Fit g' ⟨γ'.f, mn w.heap.size :: a.defers, γ'.lo, γ'.gp⟩ S' n { ar with defers := mn w.heap.size :: a.defers } := A9 h2
  have Cn : Cx g' S' w DD AA (W.putObj l o') := oK h3 h6 rfl (by omega)
  have Mo : Mk γ (W.putObj l o') := oldM Cn
  rw [har] at Fn
  refine hK g' _ S' e _ _ h1 Fn (backC Cn) ?_ ⟨h4.f, h4.lo⟩ h5
  obtain ⟨d0, Ds, d1, d2, d3⟩ := Mo
  obtain ⟨e0, Ds0, e1, e2, e3⟩ := M
  have hsame : Ds = Ds0 := by
   have : Ds.map mn = Ds0.map mn := by rw [← d1, ← e1]
   exact (List.map_inj_right (fun x y h => by simp [mn] at h; exact h)).1 this
  refine ⟨by simp only [h4.lo]; exact d0, w.heap.size :: Ds, by rw [hds, d1]; rfl, List.pairwise_cons.2 ⟨fun D hD e => ?_, d2⟩, fun D hD => ?_⟩
  ·subst hsame
   have := (Array.getElem?_eq_some_iff.1 (e3 D hD).2).1
   omega
  ·rcases List.mem_cons.1 hD with rfl | hD
   ·rw [World.putObj_heap_other (by omega)]; exact ⟨by simp only [h4.lo]; exact e0, h7⟩
   ·exact ⟨by simp only [h4.lo]; exact (d3 D hD).1, (d3 D hD).2⟩
 refine ⟨l, [mn w.heap.size], W1, { target := .fn (.func B.gf) #[.pointer (some ⟨(g b).b, 0, none⟩)], args := #[.func (.yield l) #[] #[]] }, W1, B.gf,
  #[.func (.yield l) #[] #[]] ++ #[.pointer (some ⟨(g b).b, 0, none⟩)], W1, ?_, ?_, fun _ _ => trivial, ?_, fun _ => by decide, callsIn_wide.2 ?_⟩
 ·rw [← hW1, hrec, hl]; exact run_enterLoop_outer _ _ _ _ _
 ·simp only [resolve, hg]
  simp [go_sem]
 ·simp [invoke, go_sem, qv hB.en]
 have key := CR hB (l := l) (bb := (g b).b) (W1 := W1) (N := xs.length) (v := v) J X hsz hshp hlen ?_ ?_ ?_
 ·refine Calls.mono (by simpa [kU] using key) ?_
  rintro e W ⟨⟨v, rfl⟩, h⟩
  rcases h with h | h
  ·rw [hJ] at h
   obtain ⟨h1, h2, x, hx, _, st⟩ := h
   refine ⟨_, _, run_endLoop h1 (by rw [hrec]; simp), ?_⟩
   rw [hrec]
   simp only
   obtain ⟨g8, γ8, S8, k1, k2, k3, k4, k5, k6⟩ := st _ _ _ _ (hG0 x (by simpa [kA] using hx))
   exact leave .normal g8 γ8 S8 W _ _ k1 k2 k3 ⟨k5.f, k5.lo⟩ k6 h1 h2 _
  ·rw [hX] at h
   obtain ⟨e, x, he, h1, h2, hx, st⟩ := h
   refine ⟨_, _, run_endLoop h1 (by rw [hrec]; simp), ?_⟩
   obtain ⟨g8, γ8, S8, k1, k2, k3, k4, k5, k6⟩ := st _ _ _ _ hx
   have fin := fun o' => leave e g8 γ8 S8 W _ _ k1 k2 k3 ⟨k5.f, k5.lo⟩ k6 h1 h2 o'
   rw [hrec]
   simp only
   cases e with
   | normal => exact absurd rfl he
   | exit i => exact Ao rfl (fin _)
   | ret => exact qu rfl (fin _)
 ·rw [hJ]
  refine ⟨hL1, hK1, x0, by rw [List.take_length]; exact hG, ?_, ?_⟩
  ·exact fa (S := aQ S) (base := aQ S) rfl rfl F0 F0 C1 (uJ (Nat.le_trans M.1 hFr1.size)) (SameG.refl _) (Kp.refl g (aQ S) (jA 0)) (fun _ => id) hx0
  ·exact fa (S := S) (base := aQ S) rfl rfl F0 F0 C1 (uJ (Nat.le_trans M.1 hFr1.size)) (SameG.refl _) (Kp.refl g (aQ S) (jA 0)) (fun _ => id) hx0
 ·have h := C1.okL b
  have h : (an g b (S.ob b)).ok W1 := h
  rw [hb] at h
  have h : W1.heap[(g b).b]? = some (.cells (aw g [.sl o]).toArray T (0, 0)) := h
  rw [hv]
  exact (cell_of_row W1 (g b).b 0 _ T (0, 0) h).trans (by simp [aw, ba])
 ·intro k W hk hj
  rw [hJ] at hj
  obtain ⟨hL, hDf, x, hx, st, _⟩ := hj
  rw [Bd xs k hk] at hx
  obtain ⟨δ, KK, z, hz, hKK⟩ := hG1 _ _ _ hx
  obtain ⟨g2, γ2, S2, hr, F2, C2, M2, f2, Z2⟩ := st _ _ _ _ hz
  unfold rR at hr
  split at hr
  ·simp [ax] at hr
  rename_i hmods
  simp only [Bool.or_eq_true, not_or, Bool.not_eq_true] at hmods
  have hmb : b ∉ S2.mods := by have := hmods.1; simpa using this
  have hmo : o ∉ S2.mods := by have := hmods.2; simpa using this
  obtain ⟨sb1, sb2⟩ := Z2.same b hbl hmb
  obtain ⟨so1, so2⟩ := Z2.same o hol hmo
  have sb1 : S2.ob b = .box T [.sl o] := sb1.trans hb
  have so1 : S2.ob o = .row e u xs m fu := so1.trans ho
  split at hr
  ·rename_i q p r hq hps2
   obtain rfl : ps = #[p, r] := by apply Array.toList_inj.1; rw [hps2]
   have hat : at_ u xs (k : Int) = xs[k] := by simp [at_, List.getD_eq_getElem?_getD, hk]
   -- the element, read
   obtain ⟨X0, hX0⟩ : ∃ X0 : Operand, X0 = .const (aU g2 (.elp o u.sz (k : Int) 0)) := ⟨_, rfl⟩
   have hX1 : ar.eval X0 = aq g2 (.v (.elp o u.sz (k : Int) 0)) := by rw [hX0]; rfl
   have hok : okS S2 (.v (.elp o u.sz (k : Int) 0)) := by
    intro e' t' xs' m' fu' he'
    rw [so1] at he'
    cases he'
    exact ⟨by omega, by omega, rfl⟩
   have hld : ldS P S2 e (.v (.elp o u.sz (k : Int) 0)) = some q := by
    rw [Fv so1, hat]; exact hq
   obtain ⟨g3, LK⟩ := ut F2 hX1 hok (fun x hx => by
    simp only [aL, bi, List.mem_singleton] at hx
    subst hx
    exact Nat.lt_of_lt_of_le hol Z2.len) hld (HQ so1 hld)
   obtain ⟨hnew, hrun⟩ := LK.run _ _ _ _ C2
   have C3 : Cx g3 (S2.add q.news) w DD AA W := ur F2 LK.ext hnew C2
   refine ⟨?_, aq g3 q.v, fun ρ y hy => ?_, ?_⟩
   ·have h := C2.okL b
    have h : (an g2 b (S2.ob b)).ok W := h
    rw [sb1] at h
    have h : W.heap[(g2 b).b]? = some (.cells (aw g2 [.sl o]).toArray T (0, 0)) := h
    rw [sb2] at h
    rw [hv]
    exact (cell_of_row W (g b).b 0 _ T (0, 0) h).trans (by simp [aw, ba, so2])
   ·rw [hTe]
    refine Fw hrun ?_
    rw [hy, hX1]
    simp only [aq, aU, so2, ← hv]
    simp only [Int.toNat_natCast]
    obtain ⟨ao, c, hve, h3, h4, h5⟩ := hshp
    cases ao with
    | none => have := h5 rfl; omega
    | some ad => rw [hve]; simp only [il, add_add, Nat.add_zero]
   ·-- the round
    obtain ⟨S3, hS3⟩ : ∃ S3, S3 = ((S2.add q.news).put (some p) (.int .i64 (k : Int))).put (some r) q.v := ⟨_, rfl⟩
    obtain ⟨a3, ha3⟩ : ∃ a3, a3 = (ar.put (some p) (.int .i64 (k : Int))).put (some r) (aq g3 q.v) := ⟨_, rfl⟩
    have F3 : Fit g3 γ2 S3 n a3 := by
     rw [hS3, ha3]
     refine kI (kI LK.fit (v := .int .i64 (k : Int)) (fun t ht => ?_) trivial (by simp [SV.int, aL, bi, aN])) (fun t ht => ?_) ?_ ?_
     ·cases ht; exact hps p (by simp)
     ·cases ht; exact hps r (by simp)
     ·have := LK.ok
      cases hqv : q.v <;> rw [hqv] at this <;> exact this
     ·exact LK.rs
    have C3' : Cx g3 S3 w DD AA W := by rw [hS3]; exact C3
    have Z3 : Kp g (aQ S) (fun _ => True) g3 S3 := by
     have Za : Kp g2 S2 (fun _ => True) g3 (S2.add q.news) := Kp.add _ LK.ext
     have Zb := Z2.trans (d := fun _ => True) Za (fun _ _ => trivial) (fun _ _ => trivial)
     rw [hS3]
     exact ⟨Zb.len, Zb.vb, Zb.same, Zb.mods, fun t ht => absurd trivial ht, Zb.rows⟩
    have hy := run_yield (P := P) (args := #[.int .i64 (k : Int), aq g3 q.v]) hL (by simp [hrec])
    refine ⟨fn, _, asg, body, by rw [hy, hrec], roundIn_of_wpIn trivial ?_⟩
    have hact : ({ tmps := (((rec .ready none).params).zip #[.int .i64 (k : Int), aq g3 q.v]).foldl (fun t (p, v) => t.setIfInBounds p v) (rec .ready none).tmps, defers := [] } : Act) = a3 := by
     rw [ha3, har, hrec]; simp [Act.put]
    rw [hrec] at hact
    rw [hact]
    rw [← hS3] at hr
    refine EJ (ro := some l) (m := 3) (k := 2) (hasg l hr F3 (qS C3') M2 (fun g4 γ4 S4 e4 a4 w4 h1 F4 C4 M4 f4 Z4 => ?_))
    by_cases he4 : e4 = .normal
    ·subst he4
     rw [if_pos rfl] at h1
     have hL4 := qT C3' C4 hL rfl
     have hD4 := qT C3' C4 hDf rfl
     have C4' := qR C3' C4
     have hlt := (Array.getElem?_eq_some_iff.1 hL4).1
     obtain ⟨W5, hW5⟩ : ∃ W5, W5 = w4.putObj l (.loop { rec .ready none with state := .busy }) := ⟨_, rfl⟩
     have hL5 : W5.heap[l]? = some (.loop { rec .ready none with state := .busy }) := by rw [hW5]; exact World.putObj_heap_same hlt
     have hD5 : W5.heap[w.heap.size]? = some (.deferred (some [])) := by rw [hW5, World.putObj_heap_other (by omega)]; exact hD4
     have C5 : Cx g4 S4 w DD AA W5 := by rw [hW5]; exact oK C4' hL4 rfl (by omega)
     have M5 : Mk γ4 W5 := by rw [hW5]; exact Km M4 hL4 (by simp)
     refine ⟨W5, by rw [hW5]; exact run_beginRound hL4 (by rw [hrec]), ?_⟩
     refine EJ (ro := some l) (m := 3) (k := 2) (hbody l h1 F4 (qS C5) M5 (fun g6 γ6 S6 e6 a6 w6 h6 F6 C6 M6 f6 Z6 => ?_))
     have hL6 := qT C5 C6 hL5 rfl
     have hD6 := qT C5 C6 hD5 rfl
     have C6' := qR C5 C6
     have hlt6 := (Array.getElem?_eq_some_iff.1 hL6).1
     have Zall : Kp g (aQ S) (fun _ => True) g6 S6 := (Z3.trans (d := fun _ => True) Z4 (fun _ _ => trivial) (fun _ _ => trivial)).trans Z6 (fun _ _ => trivial) (fun _ _ => trivial)
     have Fb : Fit g6 ⟨γ.f, [], γ.lo, γ.gp⟩ { S6 with slots := S.slots } n ar := by rw [har]; exact Ft (S := aQ S) (dI F) F6 Zall []
     have Kb : Kp g (aQ S) (jA 0) g6 { S6 with slots := S.slots } := H1 (S := S) Zall rfl _
     have fin : ∀ (jump : Option Code), ∃ W7, (Instr.endRound l jump).run P w6 = .ok (.bool jump.isNone) W7 ∧ W7.heap[l]? = some (.loop (rec (if jump.isNone then .ready else .done) jump)) ∧ W7.heap[w.heap.size]? = some (.deferred (some [])) ∧ Cx g6 { S6 with slots := S.slots } w DD AA W7 := by
      intro jump
      refine ⟨_, run_endRound jump hL6, ?_, ?_, oK C6' hL6 rfl (by omega)⟩
      ·rw [World.putObj_heap_same hlt6, hrec]
      ·rw [World.putObj_heap_other (by omega)]; exact hD6
     rcases hKK e6 _ h6 with ⟨rfl, x', hi, hgr⟩ | ⟨hne, x', hi, hout⟩
     ·obtain ⟨W7, q1, q2, q3, q4⟩ := fin none
      refine ⟨_, W7, q1, .inl ⟨rfl, ?_⟩⟩
      rw [hJ]
      refine ⟨q2, q3, x', hgr, ?_, ?_⟩
      ·exact fa (S := aQ S) (base := aQ S) rfl rfl F0 Fb q4 (uJ (Nat.le_trans M.1 q4.fr.size)) (SameG.refl _) Kb (fun _ => id) hi
      ·exact fa (S := S) (base := aQ S) rfl rfl F0 Fb q4 (uJ (Nat.le_trans M.1 q4.fr.size)) (SameG.refl _) Kb (fun _ => id) hi
     ·have st : ∀ W7, Cx g6 { S6 with slots := S.slots } w DD AA W7 → sa e6 S 0 oc x' g ⟨γ.f, [], γ.lo, γ.gp⟩ n ar w DD AA W7 := fun W7 q4 =>
       fa (S := S) (base := aQ S) rfl rfl F0 Fb q4 (uJ (Nat.le_trans M.1 q4.fr.size)) (SameG.refl _) Kb (fun _ => id) hi
      cases e6 with
      | normal => exact absurd rfl hne
      | exit i =>
        obtain ⟨W7, q1, q2, q3, q4⟩ := fin (some (.exit i))
        exact ⟨_, W7, q1, .inr ⟨rfl, by rw [hX]; exact ⟨.exit i, x', hne, q2, q3, hout, st W7 q4⟩⟩⟩
      | ret =>
        obtain ⟨W7, q1, q2, q3, q4⟩ := fin (some .ret)
        exact ⟨_, W7, q1, .inr ⟨rfl, by rw [hX]; exact ⟨.ret, x', hne, q2, q3, hout, st W7 q4⟩⟩⟩
    ·rw [if_neg he4] at h1
     simp [ax] at h1
  ·simp [ax] at hr
theorem zq {β : Type} {K : Ek → St → Option β} {out : β} {Q : Exit → Act → World → Prop} {B : Bk} (hB : BkOk P B) {gop : Operand} {ps : Array Tmp} {asg body : Code} {asgR bodyR : Run} {dA dB : Nat}
 {b o T e : Nat} {u : Ty} {xs : List u.den} {m : Md} {fu : Bool} {hd oc : Cls} {hs ns os : List Plan}
 (h : AN (ax β) S (kA xs) (rR P S b o e u m ps.toList asgR bodyR) K hd oc hs ns os = some out)
 (F : Fit g γ S n a) (C : Cx g S w0 D A w) (M : Mk γ w)
 (hg : a.eval gop = .func (.func B.gf) #[] #[.pointer (some ⟨(g b).b, 0, none⟩)]) (hb : S.ob b = .box T [.sl o]) (ho : S.ob o = .row e u xs m fu) (hTe : B.Te = e) (hsz : cg P B.Ts = some u.sz)
 (hps : ∀ p ∈ ps.toList, p < n)
 (hasg : ∀ l, sY n dA asgR (fun Q a w => asg.wpIn (FR (some l)) 3 P Q a w)) (hbody : ∀ l, sY n dB bodyR (fun Q a w => body.wpIn (FR (some l)) 3 P Q a w))
 (hK : ∀ g' γ' S' e a' w', K e S' = some out → Fit g' γ' S' n a' → Cx g' S' w0 D A w' → Mk γ' w' → SameG γ' γ → Kp g S (jA 0) g' S' → Q (toX e) a' w') :
 (Code.rangeFunc gop ps asg body).wpIn (FR none) 3 P Q a w := by
 unfold AN at h
 split at h
 ·rename_i hnil
  obtain ⟨y, hy, h⟩ := Option.bind_eq_some_iff.1 h
  obtain ⟨x0, hx0, hy⟩ := Option.bind_eq_some_iff.1 hy
  refine sZ hB (hd := hd) (oc := oc) (hs := hs) (ns := ns) (os := os) (fun l x => ∃ y, jq l (fun h x => yP (aQ S) (rR P S b o e u m ps.toList asgR bodyR x) hd hs h) x = some y ∧ ej hd.T y (fD (ax β) S 0 hd.cls ns fun _ S' => K .normal S') = some out)
   F C M hg hb ho hTe hsz hps hasg hbody hx0 ⟨y, hy, h⟩ ?_ ?_ hK
  ·rintro x ⟨y, hy, h⟩
   simp only [jq, Option.some.injEq] at hy
   subst hy; exact h
  ·rintro p rest x ⟨y, hy, h⟩
   simp only [jq] at hy
   obtain ⟨z, hz, hy⟩ := Option.bind_eq_some_iff.1 hy
   refine ⟨_, _, z, hz, fun e S2 he => .inl ?_⟩
   split at he
   ·rename_i e0; exact ⟨e0, z, he, y, hy, h⟩
   ·cases he
 ·obtain ⟨y, hy, h⟩ := Option.bind_eq_some_iff.1 h
  obtain ⟨x0, hx0, hy⟩ := Option.bind_eq_some_iff.1 hy
  refine sZ hB (hd := hd) (oc := oc) (hs := hs) (ns := ns) (os := os) (fun l x => ∃ y, yL l (fun h x => qF (aQ S) 0 (fun _ => 0) (rR P S b o e u m ps.toList asgR bodyR x) hd oc hs h) x = some y ∧
   bT y (fun a => ej hd.T a (fD (ax β) S 0 hd.cls ns fun _ S' => K .normal S')) (fun b => ej oc.T b (fD (ax β) S 0 oc.cls os K)) = some out)
   F C M hg hb ho hTe hsz hps hasg hbody hx0 ⟨y, hy, h⟩ ?_ ?_ hK
  ·rintro x ⟨y, hy, h⟩
   simp only [yL, Option.some.injEq] at hy
   subst hy; exact h
  ·rintro p rest x ⟨y, hy, h⟩
   simp only [yL] at hy
   obtain ⟨z, hz, hy⟩ := Option.bind_eq_some_iff.1 hy
   refine ⟨_, _, z, hz, fun e S2 he => ?_⟩
   split at he
   ·rename_i e0
    obtain ⟨x', hx', rfl⟩ := Option.map_eq_some_iff.1 he
    exact .inl ⟨e0, x', hx', y, hy, h⟩
   ·rename_i e0
    obtain ⟨x', hx', rfl⟩ := Option.map_eq_some_iff.1 he
    simp only [bT, Option.some.injEq] at hy
    subst hy
    exact .inr ⟨e0, x', hx', h⟩
end
theorem pT {n : Nat} {os : List Oper} (h : wt n os = true) : ∀ o ∈ os, ∀ d, o.dst = some d → d < n := by
 intro o ho d hd
 have := List.all_eq_true.1 h o ho
 simp only [hd, Bool.and_eq_true, decide_eq_true_eq] at this
 exact this.1
theorem Dl {n : Nat} {os : List Oper} (h : wt n os = true) : ∀ o ∈ os, BY o.op = true := by
 intro o ho
 have := List.all_eq_true.1 h o ho
 simp only [Bool.and_eq_true] at this
 exact this.2
theorem Kp.of_to {g g' : Env} {S S' : St} {p : Plan} {d : Nat → Prop} (h : Kp g (S.to p) d g' S') : Kp g S d g' S' := ⟨h.len, h.vb, h.same, h.mods, h.slots, h.rows⟩
theorem Kp.bits {g g' : Env} {S S' : St} {ops : List Oper} (h : Kp g S (pQ ops) g' S') : Kp g S (jA (jw ops)) g' S' := h.mono (fun t => zl)
section
variable {P : Program} {γ : Ghost} {n : Nat} {Γ : List Con} {inl : List Nat} {bk : List Bk} {H : Inl} {k : Nat}
theorem H2 {g g' : Env} {S S' : St} {d : Nat → Prop} (h : Kp g (aQ S) d g' S') : Kp g S d g' { S' with mods := S'.mods ++ S.mods } :=
 ⟨h.len, h.vb, fun i hi hm => h.same i hi (fun hx => hm (by simp only [List.mem_append]; exact .inl hx)), fun i hi => by simp only [List.mem_append]; exact .inr hi, h.slots, h.rows⟩
theorem uL {α : Type} {K : St → Option α} {out : α} {Q : Exit → Act → World → Prop} {g : Env} {S : St} {a : Act} {w w0 : World} {D A : Nat → Prop} {ro : Option Nat} {id : Nat} {ops : Array Oper} (hm : P.follows .mixedOrders = true)
 (hc : dg P (fun R A S f xs K => nE A P Γ k S f xs K)) (hi : dg P (fun R A S f xs K => H f (cP P f xs) R A S K)) (hd : wt n ops.toList = true)
 {st : List Nat} {ex : List (Nat × List Nat)} {tab : List (Nat × Nat)} {p : Plan} (h : BX P Γ inl H k (ax α) ops S st ex tab p K = some out) (F : Fit g γ S n a) (C : Cx g S w0 D A w)
 (hK : ∀ g' S' a' w', K S' = some out → Fit g' γ S' n a' → Cx g' S' w0 D A w' → Kp g S (jA (jw ops.toList)) g' S' → Q .normal a' w') : (Code.region id ops true).wpIn (FR ro) 3 P Q a w := by
 unfold BX at h
 simp only at h
 split at h
 ·rename_i hn
  obtain ⟨⟨hn, hst0⟩, htab⟩ := hn
  rw [show (fun l => nA (gT ops.size l) tab 0) = fun l => Region.ready .any ops (gj ops.size l) from funext fun l => wr htab l, show (fun l j => EL tab (gT ops.size l) j) = pH ops from funext fun l => funext fun j => HH htab l j] at h
  generalize hq : (if lA ops (ops.size - 1) = true then ops.size - 1 else ops.size) = q at h
  have hst : ∀ i ∈ st, i < S.obs.length := fun i hi => by simpa using List.all_eq_true.1 hst0 i (List.mem_append_left _ hi)
  have hex : ∀ i, ∀ o ∈ exl ex i, o < S.obs.length := fun i o ho => by
   obtain ⟨p, hp, _, ho⟩ := tH.1 ho
   simpa using List.all_eq_true.1 hst0 o (List.mem_append_right _ (List.mem_flatMap.2 ⟨p, hp, ho⟩))
  have hl : lA ops q = true := by
   rw [← hq]
   split
   ·assumption
   ·simp [lA]
  refine Fs (q := q) (N := ops.size) rfl hm (fun i w' => ∃ w0 D A, Cx g (aC (aQ S) (st ++ exl ex i)) w0 D A w') rfl (by simp [Code.ops, hl, hn]) (Dl hd) (fun w' hw' => ?_)
  intro _ _ hcl
  have C1 : Cx g (aQ S) w0 D A w' := jM C hw'
  exact iY (Q := Fq Q) (g0 := g) (S0 := aQ S) (a0 := a) (w0 := w0) (D := D) (A := A) hc hi (pT hd) hl hn hst hex (dI F)
   (fun g' S' a' w' h1 h2 h3 h4 => hK g' { S' with mods := S'.mods ++ S.mods } a' w' h1 ⟨h2.size, h2.lo, h2.defers, h2.sl, h2.ob, h2.ok, h2.rs, h2.rb⟩ h3 (H2 h4).bits)
   _ _ [] [] st h hcl (fF (dI F) _) C1 (nH (Kp.refl ..) _) (fun i hi => ⟨hi, rfl, rfl⟩) (fun _ _ _ _ => ⟨rfl, rfl⟩) hst (fun _ _ _ h => h)
 ·simp [ax] at h
theorem uM (hm : P.follows .mixedOrders = true) (hc : dg P (fun R A S f xs K => nE A P Γ k S f xs K)) (hi : dg P (fun R A S f xs K => H f (cP P f xs) R A S K)) (hbk : ∀ B ∈ bk, BkOk P B) :
 ∀ (c : Code) (ro : Option Nat) (ex : List (Nat × Nat)) (rl outl : Nat), okC n c = true → (ro = none ∨ db c = true) →
  sY n (im c) (fun R A S K => exec P Γ inl H bk k A c ex rl outl S K) (fun Q a w => c.wpIn (FR ro) 3 P Q a w) := by
 intro c
 induction c with
 | skip =>
   intro ro ex rl outl hok hro α K out Q g γ S a w w0 D A h F C M hK
   simp only [exec] at h
   exact nf rfl (hK g γ S .normal a w h F C M (SameG.refl _) (Kp.refl ..))
 | label l =>
   intro ro ex rl outl hok hro α K out Q g γ S a w w0 D A h F C M hK
   simp only [exec] at h
   exact Hs rfl (hK g γ S .normal a w h F C M (SameG.refl _) (Kp.refl ..))
 | ret =>
   intro ro ex rl outl hok hro α K out Q g γ S a w w0 D A h F C M hK
   simp only [exec] at h
   exact qu rfl (hK g γ S .ret a w h F C M (SameG.refl _) (Kp.refl ..))
 | exit i =>
   intro ro ex rl outl hok hro α K out Q g γ S a w w0 D A h F C M hK
   simp only [exec] at h
   exact Ao rfl (hK g γ S (.exit i) a w h F C M (SameG.refl _) (Kp.refl ..))
 | goto l =>
   intro ro ex rl outl hok hro α K out Q g γ S a w w0 D A h F C M hK
   simp [exec, ax] at h
 | refuse l =>
   intro ro ex rl outl hok hro α K out Q g γ S a w w0 D A h F C M hK
   simp [exec, ax] at h
 | rangeFunc f ps x y ihx ihy =>
   intro ro ex rl outl hok hro α K out Q g γ S a w w0 D A h F C M hK
   obtain rfl : ro = none := hro.resolve_right (by simp [db])
   simp only [okC, Bool.and_eq_true] at hok
   obtain ⟨⟨⟨⟨hps, hx⟩, hy⟩, nx⟩, ny⟩ := hok
   simp only [exec] at h
   split at h
   ·rename_i gf b hop
    split at h
    ·rename_i B hB
     split at h
     ·rename_i T o hb
      split at h
      ·rename_i e u xs m fu ho
       split at h
       ·rename_i hc2
        split at h
        case h_2 => simp [ax] at h
        rename_i hd oc hs ns os hpl
        have hfb : ∀ {l : List Bk}, xE gf l = some B → B ∈ l ∧ B.gf = gf := by
         intro l
         induction l with
         | nil => intro h; cases h
         | cons B' l ih =>
           intro h
           simp only [xE] at h
           split at h
           ·rename_i he; cases h; exact ⟨List.mem_cons_self .., he⟩
           ·exact ⟨List.mem_cons_of_mem _ (ih h).1, (ih h).2⟩
        obtain ⟨hmem, hgf⟩ := hfb hB
        refine zq (hbk B hmem) h F C M ?_ hb ho hc2.1 hc2.2 (fun p hp => ?_) (fun l => ihx (some l) [] 0 _ hx (.inr nx)) (fun l => ihy (some l) ex rl 0 hy (.inr ny)) (fun g' γ' S' e a' w' h1 h2 h3 h4 h5 h6 => ?_)
        ·rw [(aD F hop).1, hgf]; rfl
        ·have := Array.all_eq_true'.1 hps p (by simpa using hp)
         simpa using this
        ·exact hK g' γ' S' e a' w' h1 h2 h3 h4 h5 (h6.mono (fun t ht => by simp [jA, bit] at ht))
       ·simp [ax] at h
      ·simp [ax] at h
     ·simp [ax] at h
    ·simp [ax] at h
   ·simp [ax] at h
   ·simp [ax] at h
 | scope b ih =>
   intro ro ex rl outl hok hro α K out Q g γ S a w w0 D A h F C M hK
   simp only [exec] at h
   simp only [okC, db] at hok hro
   refine Ht rfl (ih ro ex rl outl hok hro h F C M (fun g' γ' S' e a' w' h1 h2 h3 h5 h6 h4 => ?_))
   have := hK g' γ' S' e a' w' h1 h2 h3 h5 h6 h4
   cases e <;> exact this
 | block i b ih =>
   intro ro ex rl outl hok hro α K out Q g γ S a w w0 D A h F C M hK
   simp only [exec] at h
   simp only [okC, db] at hok hro
   refine xp (i := i) rfl (ih ro ((i, outl) :: ex) rl outl hok hro h F C M (fun g' γ' S' e a' w' h1 h2 h3 h5 h6 h4 => ?_))
   by_cases he : e = .exit i
   ·subst he
    rw [if_pos rfl] at h1
    exact KP (hK g' γ' S' .normal a' w' h1 h2 h3 h5 h6 h4)
   ·rw [if_neg he] at h1
    have := hK g' γ' S' e a' w' h1 h2 h3 h5 h6 h4
    cases e with
    | normal => exact this
    | exit j => exact KQ (fun hj => he (by rw [hj])) this
    | ret => exact this
 | cond c x y ihx ihy =>
   intro ro ex rl outl hok hro α K out Q g γ S a w w0 D A h F C M hK
   simp only [okC, db, Bool.and_eq_true] at hok hro
   simp only [exec] at h
   have kx : ∀ {g' S'}, Kp g S (jA (im x)) g' S' → Kp g S (jA (im (.cond c x y))) g' S' := fun h => h.mono (fun t ht => iw.2 (.inl ht))
   have ky : ∀ {g' S'}, Kp g S (jA (im y)) g' S' → Kp g S (jA (im (.cond c x y))) g' S' := fun h => h.mono (fun t ht => iw.2 (.inr ht))
   have gx : ∀ p, exec P Γ inl H bk k (ax α) x ex rl outl (S.to p) K = some out → x.wpIn (FR ro) 3 P Q a w := fun p h =>
    ihx ro ex rl outl hok.1 (hro.imp id (·.1)) h (fF F p) C M (fun g' γ' S' e a' w' h1 h2 h3 h5 h6 h4 => hK g' γ' S' e a' w' h1 h2 h3 h5 h6 (kx h4.of_to))
   have gy : ∀ p, exec P Γ inl H bk k (ax α) y ex rl outl (S.to p) K = some out → y.wpIn (FR ro) 3 P Q a w := fun p h =>
    ihy ro ex rl outl hok.2 (hro.imp id (·.2)) h (fF F p) C M (fun g' γ' S' e a' w' h1 h2 h3 h5 h6 h4 => hK g' γ' S' e a' w' h1 h2 h3 h5 h6 (ky h4.of_to))
   split at h
   ·rename_i b hb
    have hv : a.eval c = .bool b := (aD F hb).1
    refine jf (t := b) rfl hv (fun hb => gx S.pl ?_) (fun hb => gy S.pl ?_)
    ·subst hb; simp only [if_true] at h; exact h
    ·subst hb; simp only [Bool.false_eq_true, if_false] at h; exact h
   ·rename_i b hb
    have hv : a.eval c = .bool b := (aD F hb).1
    refine jf (t := b) rfl hv (fun hb => gx (S.pl.kid 0) ?_) (fun hb => gy (S.pl.kid 1) ?_)
    ·subst hb; exact h
    ·subst hb; exact h
   ·simp [ax] at h
 | region id ops dr =>
   intro ro ex rl outl hok hro
   simp only [okC] at hok
   refine @Fo _ _ _ _ ?_
   intro γ α K out Q g S a w w0 D A h F C hK
   simp only [exec] at h
   cases dr with
   | true =>
     simp only [if_true] at h
     split at h
     ·exact uL hm hc hi hok h F C (fun g' S' a' w' h1 h2 h3 h4 => hK g' S' .normal a' w' h1 h2 h3 h4)
     ·rename_i st ex2 tab p _
      have Z := eZ (((ex2.flatMap (·.2)).map .sl)) F
      exact uL hm hc hi hok h Z.fit (Z.cx _ _ _ _ C) (fun g' S' a' w' h1 h2 h3 h4 => hK g' S' .normal a' w' h1 h2 h3 (Z.kp.trans h4 (fun _ h => h.elim) (fun _ h => h)))
     ·simp [ax] at h
   | false =>
     simp only [Bool.false_eq_true, if_false] at h
     refine aO rfl ?_
     have := ml (ro := ro) (ops := ops) (Q := Q) (g0 := g) (S0 := S) hc hi (pT hok) (fun g' S' a' w' h1 h2 h3 h4 => hK g' S' .normal a' w' h1 h2 h3 h4.bits) ops.toList (fun o ho => ho) h F C (Kp.refl ..)
     simpa [wl, Code.ops] using this
 | loop b ih =>
   intro ro ex rl outl hok hro α K out Q g γ S a w w0 D A h F C M hK
   simp only [okC, db] at hok hro
   simp only [exec] at h
   split at h
   ·exact Bb (ih ro ex rl _ hok hro) h F C M hK
   ·simp [ax] at h
 | seq x y ihx ihy =>
   intro ro ex rl outl hok hro α K out Q g γ S a w w0 D A h F C M hK
   simp only [okC, db, Bool.and_eq_true] at hok hro
   simp only [exec] at h
   have tail : ∀ g' γ' S' e a' w', (if e = Ek.normal then exec P Γ inl H bk k (ax α) y ex rl outl S' K else K e S') = some out → Fit g' γ' S' n a' → Cx g' S' w0 D A w' → Mk γ' w' → SameG γ' γ → Kp g S (jA (im x)) g' S' →
    Exit.then (fun a w => y.wpIn (FR ro) 3 P Q a w) Q (toX e) a' w' := by
    intro g' γ' S' e a' w' h1 h2 h3 h5 h6 h4
    by_cases he : e = .normal
    ·subst he
     rw [if_pos rfl] at h1
     exact ihy ro ex rl outl hok.2 (hro.imp id (·.2)) h1 h2 h3 h5 (fun g2 γ2 S2 e2 a2 w2 k1 k2 k3 k5 k6 k4 => hK g2 γ2 S2 e2 a2 w2 k1 k2 k3 k5 (k6.trans h6) (h4.trans k4 (fun t ht => iw.2 (.inl ht)) (fun t ht => iw.2 (.inr ht))))
    ·rw [if_neg he] at h1
     have := hK g' γ' S' e a' w' h1 h2 h3 h5 h6 (h4.mono (fun t ht => iw.2 (.inl ht)))
     cases e with
     | normal => exact absurd rfl he
     | exit i => exact this
     | ret => exact this
   refine bw rfl ?_
   split at h
   ·exact ihx ro ex rl _ hok.1 (hro.imp id (·.1)) h F C M tail
   split at h
   ·exact ihx ro ex rl _ hok.1 (hro.imp id (·.1)) h (fF F _) C M (fun g' γ' S' e a' w' h1 h2 h3 h4 h5 h6 => tail g' γ' S' e a' w' h1 h2 h3 h4 h5 ⟨h6.len, h6.vb, h6.same, h6.mods, h6.slots, h6.rows⟩)
   case h_3 => simp [ax] at h
   ·exact Ba (W := fun Q a w => x.wpIn (FR ro) 3 P Q a w) (ihx ro ex rl _ hok.1 (hro.imp id (·.1))) h F C M tail
end
structure Cal (g : Env) (S : St) : Prop where
 ob : ∀ i, obP g i (S.ob i)
 ok : ∀ p ∈ S.slots, kt p.2 = true
 rs : ∀ p ∈ S.slots, ∀ o ∈ aL p.2, o < S.obs.length
 rb : ∀ i T ls, S.ob i = .box T ls → ∀ o ∈ ls.flatMap aN, o < S.obs.length
def aB (S : St) (N : Nst) : St := ⟨N.slots, N.boxes.foldl (fun l p => l.set p.1 p.2) S.obs ++ N.news, [], .nil⟩
def al (P : Program) (c : Con) : Prop :=
 ∀ (k : Nat) (x : HL c.pat.codes) (y : fC (c.out.map NSh.codes)) (S : St) (m : Nat) (gs : List Nat), c.f k x = some y → iV c.pat x = some S → S.slots.map (·.1) = List.range m ++ gs.map (rG + ·) → (∀ b ∈ gs, b < shift) →
  ∀ (g : Env) (w : World) (D A : Nat → Prop), Cal g S → Cx g S w D A w → (∀ p ∈ S.slots.drop m, aq g p.2 = .pointer (some ⟨p.1 - rG, 0, none⟩)) →
   Fn P c.fn ((S.slots.take m).map fun p => aq g p.2) w (fun v w' => ∃ (i : Nat) (ds : List Dyn) (s : NSh) (N : Nst) (r : SV) (g' : Env), (∀ (R : Type) (f : Nat → List Dyn → R), ej (c.out.map NSh.codes) y f = f i ds) ∧ c.out[i]? = some s ∧ fiN s ds = some N ∧
    results N.slots = some r ∧ v = aq g' r ∧ kt r = true ∧ (∀ o ∈ aL r, o < (aB S N).obs.length) ∧ Cal g' (aB S N) ∧ Cx g' (aB S N) w D A w' ∧ Kp g { S with slots := [], mods := [] } (fun _ => True) g' { aB S N with mods := N.boxes.map (·.1) })
def FlW (o0 ob : Ob) : Prop := o0 = ob ∨ ∃ (e : Nat) (d : Kd) (xs : List (bm d).den) (hl : Option Nat), o0 = .fleet e d xs hl ∧ ob = .fleet e d.lent xs hl
theorem mo {G : GV} {e : Nat} {d : Kd} {xs : List (bm d).den} {hl : Option Nat} {k j : Nat} : aF G e d xs hl (some (k, j)) = if hl = some k then Ent.nil else Option.elim (xs[k]?) Ent.nil (fun x => cF (dL G k) j (aZ d.l (bq d x j))) := by
 simp only [aF]
 split
 ·rfl
 ·cases xs[k]? <;> rfl
theorem uN {G : GV} {e : Nat} {d : Kd} {xs : List (bm d).den} {hl : Option Nat} {k j : Nat} : aF G e d.lent xs hl (some (k, j)) = if hl = some k then Ent.nil else Option.elim (xs[k]?) Ent.nil (fun x => cF (dL G k) j (aZ true (bq d x j))) :=
 mo (d := d.lent)
theorem pU {G : GV} {d : Kd} {xs : List (bm d).den} {hl : Option Nat} {k j : Nat} : aY G d xs hl (k, j) = if hl = some k then Ent.nil else Option.elim (xs[k]?) Ent.nil (fun x => cG (dL G k) j (aZ d.l (bq d x j))) := by
 simp only [aY]
 split
 ·rfl
 ·cases xs[k]? <;> rfl
theorem uO {G : GV} {d : Kd} {xs : List (bm d).den} {hl : Option Nat} {k j : Nat} : aY G d.lent xs hl (k, j) = if hl = some k then Ent.nil else Option.elim (xs[k]?) Ent.nil (fun x => cG (dL G k) j (aZ true (bq d x j))) :=
 pU (d := d.lent)
theorem H3 (κ : Env) (j : Nat) (l : Bool) (ob : Ob) : cF κ j (aZ true ob) = cF κ j (aZ l ob) ∨ cF κ j (aZ true ob) = Ent.nil := by
 cases ob with
 | row e t xs m fu => exact .inr rfl
 | box T ls => exact .inl rfl
 | gone => exact .inl rfl
 | fleet e d xs hl => exact .inl rfl
theorem oL (G : GV) (e : Nat) (d : Kd) (xs : List (bm d).den) (hl : Option Nat) (q : Option (Nat × Nat)) : aF G e d.lent xs hl q = aF G e d xs hl q ∨ aF G e d.lent xs hl q = Ent.nil := by
 cases q with
 | none => exact .inl rfl
 | some kj =>
   obtain ⟨k, j⟩ := kj
   rw [uN, mo]
   split
   ·exact .inl rfl
   ·cases xs[k]? with
    | none => exact .inl rfl
    | some x => exact H3 _ _ _ _
theorem zr {G : GV} {e : Nat} {d : Kd} {xs : List (bm d).den} {hl : Option Nat} (h : FleetP G e d xs hl) : FleetP G e d.lent xs hl := by
 refine ⟨h.n, h.cs, h.fs, h.kb, h.sl, fun k x hx hh => ?_, fun p q hpq b hb hb' => ?_⟩
 ·have := h.kid k x hx hh
  exact ⟨this.ex, this.ob, this.rb⟩
 ·rcases oL G e d xs hl p with e1 | e1 <;> rw [e1] at hb
  ·rcases oL G e d xs hl q with e2 | e2 <;> rw [e2] at hb'
   ·exact h.apart p q hpq b hb hb'
   ·exact hb'.elim
  ·exact hb.elim
open Classical in
noncomputable def Ld (G : GV) (e : Nat) (d : Kd) (xs : List (bm d).den) (hl : Option Nat) : Ent :=
 HN fun q => if aF G e d.lent xs hl q = aF G e d xs hl q then Ent.nil else aF G e d xs hl q
theorem Dm {G : GV} {e : Nat} {d : Kd} {xs : List (bm d).den} {hl : Option Nat} (h : FleetP G e d xs hl) : Part (el G e d.lent xs hl) (el G e d xs hl) (Ld G e d xs hl) := by
 refine ⟨fun w => ⟨fun h1 => ⟨fun q => ?_, fun q => ?_⟩, fun h1 q => ?_⟩, fun b => ⟨?_, ?_⟩, ?_⟩
 ·rcases oL G e d xs hl q with e1 | e1 <;> rw [e1]
  ·exact h1 q
  ·trivial
 ·dsimp only
  split
  ·trivial
  ·exact h1 q
 ·by_cases he : aF G e d.lent xs hl q = aF G e d xs hl q
  ·rw [← he]; exact h1.1 q
  ·have := h1.2 q
   dsimp only at this
   rwa [if_neg he] at this
 ·rintro ⟨q, hq⟩
  by_cases he : aF G e d.lent xs hl q = aF G e d xs hl q
  ·exact .inl ⟨q, by rw [he]; exact hq⟩
  ·exact .inr ⟨q, by dsimp only; rw [if_neg he]; exact hq⟩
 ·rintro (⟨q, hq⟩ | ⟨q, hq⟩)
  ·rcases oL G e d xs hl q with e1 | e1 <;> rw [e1] at hq
   ·exact ⟨q, hq⟩
   ·exact hq.elim
  ·dsimp only at hq
   split at hq
   ·exact hq.elim
   ·exact ⟨q, hq⟩
 ·rintro b ⟨q, hq⟩ ⟨q', hq'⟩
  dsimp only at hq'
  split at hq'
  ·exact hq'.elim
  ·rename_i hne
   rcases oL G e d xs hl q with e1 | e1 <;> rw [e1] at hq
   ·by_cases hqq : q = q'
    ·subst hqq; exact hne e1
    ·exact h.apart q q' hqq b hq hq'
   ·exact hq.elim
theorem H4 {G : GV} {e : Nat} {d : Kd} {xs : List (bm d).den} {hl : Option Nat} {w : World} (hP : FleetP G e d xs hl) (hL : (el G e d xs hl).ok w) (hR : (fE G d xs hl).ok w) :
 (fE G d.lent xs hl).ok w ∧ ∀ b, (fE G d.lent xs hl).dom b → (fE G d xs hl).dom b ∨ ((el G e d xs hl).dom b ∧ ¬ (el G e d.lent xs hl).dom b) := by
 have one : ∀ k j x, xs[k]? = some x → hl ≠ some k → (cG (dL G k) j (aZ true (bq d x j))).ok w ∧ ∀ b, (cG (dL G k) j (aZ true (bq d x j))).dom b →
  (cG (dL G k) j (aZ d.l (bq d x j))).dom b ∨ ((cF (dL G k) j (aZ d.l (bq d x j))).dom b ∧ aF G e d.lent xs hl (some (k, j)) = Ent.nil) := fun k j x hx hne => by
  have h1 := hL (some (k, j))
  have h2 := hR (k, j)
  rw [mo, if_neg hne, hx] at h1
  rw [pU, if_neg hne, hx] at h2
  simp only [Option.elim] at h1 h2
  have hpn : aF G e d.lent xs hl (some (k, j)) = cF (dL G k) j (aZ true (bq d x j)) := by
   rw [uN, if_neg hne, hx]; rfl
  rw [hpn]
  cases hob : bq d x j with
  | gone => exact ⟨trivial, fun b hb => hb.elim⟩
  | box T ls => exact ⟨trivial, fun b hb => hb.elim⟩
  | fleet e' d' xs' hl' => exact ⟨trivial, fun b hb => hb.elim⟩
  | row e' t ys m fu =>
    rw [hob] at h1 h2
    simp only [aZ] at h1 h2 ⊢
    cases hm : sR d.l m with
    | lent => rw [hm] at h2; exact ⟨h2, fun b hb => .inl hb⟩
    | rd => rw [hm] at h2; exact ⟨h2, fun b hb => .inl hb⟩
    | own =>
      rw [hm] at h1 h2
      refine ⟨fun f hf => ?_, fun b ⟨f, hf, x1, x2⟩ => ?_⟩
      ·rcases List.mem_cons.1 hf with rfl | hf
       ·exact kD h1
       ·exact h2 f hf
      ·rcases List.mem_cons.1 hf with rfl | hf
       ·exact .inr ⟨rS h1 x2, rfl⟩
       ·exact .inl ⟨f, hf, x1, x2⟩
 refine ⟨fun ⟨k, j⟩ => ?_, fun b ⟨⟨k, j⟩, hq⟩ => ?_⟩
 ·rw [uO]
  split
  ·trivial
  ·rename_i hne
   cases hx : xs[k]? with
   | some x => exact (one k j x hx hne).1
   | none => trivial
 ·rw [uO] at hq
  split at hq
  ·exact hq.elim
  ·rename_i hne
   cases hx : xs[k]? with
   | none => rw [hx] at hq; exact hq.elim
   | some x =>
     rw [hx] at hq
     rcases (one k j x hx hne).2 b hq with h | ⟨h, hn⟩
     ·exact .inl ⟨(k, j), by rw [pU, if_neg hne, hx]; exact h⟩
     ·have hLb : (aF G e d xs hl (some (k, j))).dom b := by rw [mo, if_neg hne, hx]; exact h
      refine .inr ⟨⟨_, hLb⟩, fun ⟨q, hq'⟩ => ?_⟩
      rcases oL G e d xs hl q with e1 | e1
      ·by_cases hqq : q = some (k, j)
       ·subst hqq; rw [hn] at hq'; exact hq'.elim
       ·rw [e1] at hq'; exact hP.apart q _ hqq b hq' hLb
      ·rw [e1] at hq'; exact hq'.elim
def L0 (g1 gp : Env) (o0 ob : Ob) : Prop :=
 match ob with
 | .gone => False
 | .box T ls => ∃ ls0, o0 = .box T ls0 ∧ aw gp ls = aw g1 ls0
 | .fleet e d xs hl => FlW o0 (.fleet e d xs hl)
 | .row e t xs .own _ => ∃ fu0, o0 = .row e t xs .own fu0
 | .row e t xs .rd _ => ∃ fu0, o0 = .row e t xs .rd fu0
 | .row e t xs .lent _ => ∃ m0 fu0, o0 = .row e t xs m0 fu0
def ID (g1 gp : Env) (o0 ob : Ob) (bd : Nat) : Prop :=
 match ob with
 | .fleet e d xs hl => FlW o0 (.fleet e d xs hl)
 | ob => oX g1 gp o0 ob bd
section
variable {P : Program} {g g' g1 gp : Env} {γ : Ghost} {S S1 Sd S0 : St} {n : Nat} {a : Act} {w0 w w' : World} {D A : Nat → Prop} {pl1 : List Nat} {os os0 : List Ob} {ss : List OSh}
theorem jJ (G : Given g1 gp S1 pl1 os) (W : All2 (Wk true) os os0) (hss : ∀ (j : Nat) e t xs m fu, os0[j]? = some (.row e t xs m fu) → ss[j]? = some (.row e t m))
 (h6 : ∀ o, Sd.ob o = S1.ob o ∨ ∃ e t xs fu, S1.ob o = .row e t xs .own fu ∧ Sd.ob o = .row e t xs .rd fu ∧ ∃ (j : Nat) (e' : Nat) (t' : Ty), pl1[j]? = some o ∧ ss[j]? = some (.row e' t' .rd))
 (h7 : ∀ (j o : Nat) e' t', pl1[j]? = some o → ss[j]? = some (.row e' t' .rd) → ∀ e t xs fu, Sd.ob o ≠ .row e t xs .own fu) {j : Nat} {ob : Ob} (hj : os0[j]? = some ob) :
 ∃ o, pl1[j]? = some o ∧ o < S1.obs.length ∧ gp j = g1 o ∧ L0 g1 gp (Sd.ob o) ob ∧ ID g1 gp (S1.ob o) ob pl1.length := by
 obtain ⟨ob', h1, hw⟩ := W.get hj
 obtain ⟨hne, o, ho, hM⟩ := G.made j ob' h1
 obtain ⟨q1, q2⟩ := G.src j o ho
 have hMC : ID g1 gp (S1.ob o) ob pl1.length := by
  cases ob' with
  | gone => exact absurd rfl hne
  | box T ls => have : ob = .box T ls := hw; subst this; exact hM
  | row e t xs m fu =>
    obtain ⟨m', rfl, hm⟩ := hw
    obtain ⟨m0, fu0, h1, h2, h3⟩ := hM
    exact ⟨m0, fu0, h1, wH h2 hm, h3⟩
  | fleet e d xs hl =>
    have m1 : S1.ob o = .fleet e d xs hl := hM
    rcases (show ob = .fleet e d xs hl ∨ true = true ∧ ob = .fleet e d.lent xs hl from hw) with rfl | ⟨_, rfl⟩
    ·exact .inl m1
    ·exact .inr ⟨e, d, xs, hl, m1, rfl⟩
 clear hM hw
 have hM := hMC
 refine ⟨o, ho, q1, q2, ?_, hMC⟩
 cases ob with
 | gone =>
   obtain ⟨ob2, h2, hw⟩ := W.get hj
   rw [h1] at h2
   cases h2
   cases ob' with
   | gone => exact hne rfl
   | box T ls => cases (show Ob.gone = _ from hw)
   | row e t xs m fu => obtain ⟨_, h, _⟩ := hw; cases h
   | fleet e d xs hl => rcases (show Ob.gone = .fleet e d xs hl ∨ true = true ∧ Ob.gone = .fleet e d.lent xs hl from hw) with h | ⟨_, h⟩ <;> cases h
 | fleet e d xs hl =>
   show FlW (Sd.ob o) (.fleet e d xs hl)
   rcases h6 o with h | ⟨e2, t2, xs2, fu2, h, _⟩
   ·rw [h]; exact hM
   ·rcases (show FlW (S1.ob o) (.fleet e d xs hl) from hM) with m1 | ⟨e3, d3, xs3, hl3, m1, _⟩ <;> rw [m1] at h <;> cases h
 | box T ls =>
   obtain ⟨ls0, m1, m2, _⟩ := hM
   rcases h6 o with h | ⟨e, t, xs, fu, h, _⟩
   ·exact ⟨ls0, h.trans m1, m2⟩
   ·rw [m1] at h; cases h
 | row e t xs m fu =>
   obtain ⟨m0, fu0, m1, m2, _⟩ := hM
   have hs := hss j e t xs m fu hj
   cases m with
   | own =>
     cases m0 <;> simp [leM] at m2
     rcases h6 o with h | ⟨e2, t2, xs2, fu2, h, _, j', e', t', hj', hs'⟩
     ·exact ⟨fu0, h.trans m1⟩
     ·have hne' : j ≠ j' := fun e => by subst e; rw [hs] at hs'; cases hs'
      obtain ⟨_, _, _, m, _, hsh, hm⟩ := G.once j j' o hne' ho hj'
      rw [m1] at hsh; cases hsh; exact absurd rfl hm
   | rd =>
     rcases h6 o with h | ⟨e2, t2, xs2, fu2, h, h', _⟩
     ·cases m0 with
      | own => exact absurd (h.trans m1) (h7 j o e t ho hs _ _ _ _)
      | rd => exact ⟨fu0, h.trans m1⟩
      | lent => simp [leM] at m2
     ·rw [m1] at h; cases h; exact ⟨fu0, h'⟩
   | lent =>
     rcases h6 o with h | ⟨e2, t2, xs2, fu2, h, h', _⟩
     ·exact ⟨m0, fu0, h.trans m1⟩
     ·rw [m1] at h; cases h; exact ⟨.rd, fu0, h'⟩
theorem Dn (G : Given g1 gp S1 pl1 os) (W : All2 (Wk true) os os0) (hss : ∀ (j : Nat) e t xs m fu, os0[j]? = some (.row e t xs m fu) → ss[j]? = some (.row e t m))
 (h6 : ∀ o, Sd.ob o = S1.ob o ∨ ∃ e t xs fu, S1.ob o = .row e t xs .own fu ∧ Sd.ob o = .row e t xs .rd fu ∧ ∃ (j : Nat) (e' : Nat) (t' : Ty), pl1[j]? = some o ∧ ss[j]? = some (.row e' t' .rd))
 (h7 : ∀ (j o : Nat) e' t', pl1[j]? = some o → ss[j]? = some (.row e' t' .rd) → ∀ e t xs fu, Sd.ob o ≠ .row e t xs .own fu)
 (hS0 : S0.obs = os0) (C : Cx g1 Sd w0 D A w) (hobP : ∀ i, obP g1 i (Sd.ob i)) :
 Lend w (fun i => an g1 i (Sd.ob i)) (fun i => az g1 i (Sd.ob i)) (fun j => an gp j (S0.ob j)) (fun j => az gp j (S0.ob j)) (fun j => pl1.getD j j) := by
 have get : ∀ j, (os0[j]? = none ∧ S0.ob j = .gone) ∨ ∃ ob, os0[j]? = some ob ∧ S0.ob j = ob := fun j => by
  cases h : os0[j]? with
  | none => left; simp [St.ob, hS0, List.getD_eq_getElem?_getD, h]
  | some ob => right; exact ⟨ob, rfl, by simp [St.ob, hS0, List.getD_eq_getElem?_getD, h]⟩
 have gd : ∀ {j o : Nat}, pl1[j]? = some o → pl1.getD j j = o := fun h => by simp [List.getD_eq_getElem?_getD, h]
 -- who has a block of one's own
 have ownd : ∀ k, (∃ b, (an gp k (S0.ob k)).dom b) → ∃ o, pl1[k]? = some o ∧ ¬ pM (S1.ob o) := by
  rintro k ⟨b, hb⟩
  rcases get k with ⟨_, h⟩ | ⟨ob, h1, h2⟩
  ·rw [h] at hb; exact hb.elim
  ·rw [h2] at hb
   obtain ⟨o, q1, q2, q3, q4, q5⟩ := jJ G W hss h6 h7 h1
   refine ⟨o, q1, ?_⟩
   rintro ⟨e, t, xs, m, fu, hs, hm⟩
   cases ob with
   | gone => exact hb.elim
   | box T ls => obtain ⟨_, h, _⟩ := q5; rw [hs] at h; cases h
   | fleet e' d' xs' hl' => rcases (show FlW (S1.ob o) (.fleet e' d' xs' hl') from q5) with h | ⟨_, _, _, _, h, _⟩ <;> rw [hs] at h <;> cases h
   | row e' t' xs' m' fu' =>
     cases m' with
     | own => obtain ⟨m0, fu0, h, hl, _⟩ := q5; rw [hs] at h; cases h; cases m <;> simp_all [leM]
     | rd => exact hb.elim
     | lent => exact hb.elim
 have own : ∀ j, (∀ b, ¬ (an gp j (S0.ob j)).dom b) ∧ (an gp j (S0.ob j)).ok w ∨ ∃ Q, Part (an gp j (S0.ob j)) (an g1 (pl1.getD j j) (Sd.ob (pl1.getD j j))) Q := fun j => by
  rcases get j with ⟨_, h⟩ | ⟨ob, h1, h2⟩
  ·simp only [h]; exact .inl ⟨fun b hb => hb.elim, trivial⟩
  ·simp only [h2]
   obtain ⟨o, q1, q2, q3, q4, _⟩ := jJ G W hss h6 h7 h1
   simp only [gd q1]
   have same : ∀ {E F : Ent}, F = E → ∃ Q, Part E F Q := fun h => ⟨Ent.nil, by rw [h]; exact Part.refl _⟩
   cases ob with
   | gone => exact q4.elim
   | box T ls => obtain ⟨ls0, m1, m2⟩ := q4; exact .inr (same (by simp only [m1, an, qH, q3, m2]))
   | fleet e d xs hl =>
     rcases (show FlW (Sd.ob o) (.fleet e d xs hl) from q4) with m1 | ⟨e0, d0, xs0, hl0, m1, m2⟩
     ·exact .inr (same (by simp only [m1, an, q3]))
     ·have hp := hobP o
      rw [m1] at hp
      rw [m2, m1]
      simp only [an, q3]
      exact .inr ⟨_, Dm hp⟩
   | row e t xs m fu =>
     cases m with
     | own => obtain ⟨fu0, m1⟩ := q4; exact .inr (same (by simp only [m1, an, q3]))
     | rd => exact .inl ⟨fun b hb => hb.elim, trivial⟩
     | lent => exact .inl ⟨fun b hb => hb.elim, trivial⟩
 have subL : ∀ k b, (an gp k (S0.ob k)).dom b → (an g1 (pl1.getD k k) (Sd.ob (pl1.getD k k))).dom b := fun k b hb => by
  rcases own k with ⟨h, _⟩ | ⟨Q, h⟩
  ·exact (h b hb).elim
  ·exact (h.dom b).2 (.inl hb)
 refine ⟨own, fun i j hij hi hj hs => ?_, fun j => ?_⟩
 ·obtain ⟨o, h1, h2⟩ := ownd i hi
  obtain ⟨o', h1', _⟩ := ownd j hj
  rw [gd h1, gd h1'] at hs
  subst hs
  exact h2 (G.once i j o hij h1 h1')
 ·rcases get j with ⟨_, h⟩ | ⟨ob, h1, h2⟩
  ·simp only [h]; exact ⟨trivial, fun b hb => hb.elim⟩
  ·simp only [h2]
   obtain ⟨o, q1, q2, q3, q4, _⟩ := jJ G W hss h6 h7 h1
   have hR := C.okR o
   have hL := C.okL o
   cases ob with
   | gone => exact q4.elim
   | box T ls => exact ⟨trivial, fun b hb => hb.elim⟩
   | fleet e d xs hl =>
     rcases (show FlW (Sd.ob o) (.fleet e d xs hl) from q4) with m1 | ⟨e0, d0, xs0, hl0, m1, m2⟩
     ·simp only [m1] at hR
      simp only [az, q3]
      exact ⟨hR, fun b hb => .inl ⟨o, by simp only [m1, az]; exact hb, fun h => by simp only [m1]; exact h⟩⟩
     ·have hp := hobP o
      rw [m1] at hp
      simp only [m1, an, az] at hL hR
      obtain ⟨r1, r2⟩ := H4 hp hL hR
      rw [m2]
      simp only [az, q3]
      refine ⟨r1, fun b hb => ?_⟩
      rcases r2 b hb with h | ⟨h, hn⟩
      ·exact .inl ⟨o, by simp only [m1, az]; exact h, fun hl => by cases hl⟩
      ·have hLo : (an g1 o (Sd.ob o)).dom b := by rw [m1]; exact h
       refine .inr ⟨rfl, ⟨o, hLo⟩, fun k hk => ?_⟩
       obtain ⟨o', k1, k2⟩ := ownd k ⟨b, hk⟩
       by_cases hkj : k = j
       ·subst hkj
        rw [h2, m2] at hk
        simp only [an, q3] at hk
        exact hn hk
       ·by_cases hoo : o' = o
        ·subst hoo; exact k2 (G.once k j _ hkj k1 q1)
        ·have hko := subL k b hk
         rw [gd k1] at hko
         exact C.sepL o' o hoo b hko hLo
   | row e t xs m fu =>
     cases m with
     | own =>
       obtain ⟨fu0, m1⟩ := q4
       simp only [m1] at hR
       simp only [az, q3]
       exact ⟨hR, fun b hb => .inl ⟨o, by simp only [m1, az]; exact hb, fun _ => by simp only [m1]; rfl⟩⟩
     | rd =>
       obtain ⟨fu0, m1⟩ := q4
       simp only [m1] at hR
       simp only [az, q3]
       exact ⟨hR, fun b hb => .inl ⟨o, by simp only [m1, az]; exact hb, fun _ => by simp only [m1]; rfl⟩⟩
     | lent =>
       obtain ⟨m0, fu0, m1⟩ := q4
       simp only [m1] at hR hL
       simp only [az, q3]
       cases m0 with
       | own =>
         refine ⟨fun f hf => ?_, fun b ⟨f, hf, x1, x2⟩ => ?_⟩
         ·rcases List.mem_cons.1 hf with rfl | hf
          ·exact kD hL
          ·exact hR f hf
         ·rcases List.mem_cons.1 hf with rfl | hf
          ·have hLo : (an g1 o (Sd.ob o)).dom b := by simp only [m1, an]; exact xN (σ0 := o) (u := t) hL x2
           refine .inr ⟨rfl, ⟨o, hLo⟩, fun k hk => ?_⟩
           obtain ⟨o', k1, k2⟩ := ownd k ⟨b, hk⟩
           by_cases hkj : k = j
           ·subst hkj
            rw [h2] at hk
            exact hk.elim
           ·by_cases hoo : o' = o
            ·subst hoo; exact k2 (G.once k j _ hkj k1 q1)
            ·have hko := subL k b hk
             rw [gd k1] at hko
             exact C.sepL o' o hoo b hko hLo
          ·exact .inl ⟨o, by simp only [m1, az]; exact ⟨f, hf, x1, x2⟩, fun hl => by cases hl⟩
       | rd => exact ⟨hR, fun b hb => .inl ⟨o, by simp only [m1, az]; exact hb, fun hl => by cases hl⟩⟩
       | lent => exact ⟨hR, fun b hb => .inl ⟨o, by simp only [m1, az]; exact hb, fun hl => by cases hl⟩⟩
end
theorem Ko {s : OSh} {ds ds' : List Dyn} {ob : Ob} (h : fiO s ds = some (ob, ds')) {e : Nat} {t : Ty} {xs : List t.den} {m : Md} {fu : Bool} (ho : ob = .row e t xs m fu) : s = .row e t m := by
 subst ho
 cases s with
 | box T ls => simp only [fiO, Option.map_eq_some_iff, Prod.mk.injEq] at h; obtain ⟨_, _, h, _⟩ := h; cases h
 | gone => simp [fiO] at h
 | fleet e' d' =>
   cases ds with
   | nil => simp [fiO] at h
   | cons d ds => simp only [fiO, Option.map_eq_some_iff, Prod.mk.injEq] at h; obtain ⟨_, _, h, _⟩ := h; cases h
 | row e' t' m' =>
   cases ds with
   | nil => simp [fiO] at h
   | cons d ds => simp only [fiO, Option.map_eq_some_iff, Prod.mk.injEq] at h; obtain ⟨_, _, h, _⟩ := h; cases h; rfl
theorem Cj : ∀ {ss : List OSh} {ds ds' : List Dyn} {os : List Ob}, bo fiO ss ds = some (os, ds') → ∀ (j : Nat) e t xs m fu, os[j]? = some (.row e t xs m fu) → ss[j]? = some (.row e t m)
 | [], ds, ds', os, h, j, e, t, xs, m, fu, hj => by simp only [bo, Option.some.injEq, Prod.mk.injEq] at h; obtain ⟨rfl, _⟩ := h; simp at hj
 | s :: ss, ds, ds', os, h, j, e, t, xs, m, fu, hj => by
   simp only [bo] at h
   split at h
   ·rename_i o ds1 h1
    split at h
    ·rename_i os1 ds2 h2
     simp only [Option.some.injEq, Prod.mk.injEq] at h
     obtain ⟨rfl, _⟩ := h
     cases j with
     | zero => simp only [List.getElem?_cons_zero, Option.some.injEq] at hj ⊢; exact Ko h1 hj
     | succ j => simpa using Cj h2 j e t xs m fu (by simpa using hj)
    ·cases h
   ·cases h
theorem Fx {s : NSh} {ds : List Dyn} {N : Nst} (h : fiN s ds = some N) : ∃ d1 d2, bo fiO s.news d1 = some (N.news, d2) := by
 unfold fiN at h
 split at h
 ·split at h
  ·obtain ⟨⟨os, d⟩, h1, rfl⟩ := Option.map_eq_some_iff.1 h
   exact ⟨_, _, h1⟩
  ·cases h
 ·cases h
theorem zt (f : Nat → Nat) : ∀ l : List (Nat × SV), nD (l.map fun p => (p.1, mvS f p.2)) = (nD l).map (List.map (mvV f))
 | [] => rfl
 | (t, .v x) :: l => by
   show (nD (l.map fun p => (p.1, mvS f p.2))).map (mvV f x :: ·) = ((nD l).map (x :: ·)).map (List.map (mvV f))
   rw [zt f l, Option.map_map, Option.map_map]
   rfl
 | (t, .tup x) :: l => rfl
theorem zu (f : Nat → Nat) (l : List (Nat × SV)) : results (l.map fun p => (p.1, mvS f p.2)) = (results l).map (mvS f) := by
 match l with
 | [] => rfl
 | [(t, v)] => rfl
 | p :: q :: l =>
   have := zt f (p :: q :: l)
   simp only [results, List.map_cons] at this ⊢
   rw [this, Option.map_map, Option.map_map]
   rfl
theorem qU {f : Nat} {s : NSh} : ∀ {Γ : List Con} {c : Con}, oE f s Γ = some c → c ∈ Γ ∧ c.fn = f ∧ leN true s c.pat = true
 | [], c, h => by simp [oE] at h
 | c' :: r, c, h => by
   simp only [oE] at h
   split at h
   ·rename_i hc; cases h; exact ⟨List.mem_cons_self .., hc.1, hc.2⟩
   ·obtain ⟨h1, h2, h3⟩ := qU h
    exact ⟨List.mem_cons_of_mem _ h1, h2, h3⟩
theorem uP {β : Type} {f : β → Nat} : ∀ {l : List β} {p q : β}, kW (l.map f) = true → p ∈ l → q ∈ l → f p = f q → p = q
 | [], p, q, _, h, _, _ => by cases h
 | x :: l, p, q, hn, hp, hq, he => by
   simp only [List.map_cons, kW, Bool.and_eq_true, Bool.not_eq_true', List.elem_eq_mem, decide_eq_false_iff_not] at hn
   rcases List.mem_cons.1 hp with e1 | hp1
   ·rcases List.mem_cons.1 hq with e2 | hq1
    ·rw [e1, e2]
    ·exact absurd (by rw [← e1, he]; exact List.mem_map_of_mem hq1) hn.1
   ·rcases List.mem_cons.1 hq with e2 | hq1
    ·exact absurd (by rw [← e2, ← he]; exact List.mem_map_of_mem hp1) hn.1
    ·exact uP hn.2 hp1 hq1 he
theorem sb {β : Type} (f : β → Nat) (h : β → Ob) : ∀ (bx : List β) (l : List Ob), (bx.foldl (fun l p => l.set (f p) (h p)) l).length = l.length ∧
 (∀ i, i ∉ bx.map f → (bx.foldl (fun l p => l.set (f p) (h p)) l).getD i .gone = l.getD i .gone) ∧
 (kW (bx.map f) = true → ∀ p ∈ bx, f p < l.length → (bx.foldl (fun l p => l.set (f p) (h p)) l).getD (f p) .gone = h p)
 | [], l => ⟨rfl, fun _ _ => rfl, fun _ p hp => by cases hp⟩
 | p :: bx, l => by
   obtain ⟨h1, h2, h3⟩ := sb f h bx (l.set (f p) (h p))
   simp only [List.foldl_cons]
   refine ⟨by rw [h1]; simp, fun i hi => ?_, fun hn q hq hlt => ?_⟩
   ·simp only [List.map_cons, List.mem_cons, not_or] at hi
    rw [h2 i hi.2]
    simp [List.getD_eq_getElem?_getD, List.getElem?_set, Ne.symm hi.1]
   ·simp only [List.map_cons, kW, Bool.and_eq_true, Bool.not_eq_true', List.elem_eq_mem, decide_eq_false_iff_not] at hn
    rcases List.mem_cons.1 hq with rfl | hq
    ·rw [h2 _ hn.1]
     simp [List.getD_eq_getElem?_getD, hlt]
    ·exact h3 hn.2 q hq (by simpa using hlt)
section
variable {P : Program} {Γ : List Con} {k : Nat}
theorem Do {g1 gp g' : Env} {γ : Ghost} {Sd S0 : St} {n : Nat} {a : Act} {w0 w w' : World} {D A : Nat → Prop} {pl1 : List Nat} {N : Nst} {r sv : SV} {S2 : St}
 (F : Fit g1 γ Sd n a) (C : Cx g1 Sd w0 D A w) {σ : Nat → Nat} (hσ : ∀ j, j < pl1.length → σ j = pl1.getD j 0)
 (LD : Lend w (fun i => an g1 i (Sd.ob i)) (fun i => az g1 i (Sd.ob i)) (fun j => an gp j (S0.ob j)) (fun j => az gp j (S0.ob j)) σ)
 (hlen : S0.obs.length = pl1.length) (hsrc : ∀ j, j < pl1.length → pl1.getD j 0 < Sd.obs.length ∧ gp j = g1 (pl1.getD j 0))
 (hself : ∀ j, j < pl1.length → (∃ b, (an gp j (S0.ob j)).dom b) → ∃ Q, Part (an gp j (S0.ob j)) (an g1 (pl1.getD j 0) (Sd.ob (pl1.getD j 0))) Q)
 (hrows : ∀ j, j < pl1.length → ∀ e t xs m fu, S0.ob j = .row e t xs m fu → ∃ m0 fu0, Sd.ob (pl1.getD j 0) = .row e t xs m0 fu0)
 (hrb : ∀ i T ls, S0.ob i = .box T ls → ∀ o ∈ ls.flatMap aN, o < S0.obs.length) (hr : results N.slots = some r) (hnr : kt r = true) (hrr : ∀ o ∈ aL r, o < (aB S0 N).obs.length) (CA : Cal g' (aB S0 N)) (CC : CtxF w (pI fun j => an gp j (S0.ob j)) (qB fun j => az gp j (S0.ob j)) (fun j => an g' j ((aB S0 N).ob j)) (fun j => az g' j ((aB S0 N).ob j)) w')
 (KA : Kp gp { S0 with slots := [], mods := [] } (fun _ => True) g' { aB S0 N with mods := N.boxes.map (·.1) }) (hi : xz Sd pl1 N = some (S2, sv)) :
 ∃ g2, aq g2 sv = aq g' r ∧ Fit g2 γ S2 n a ∧ Cx g2 S2 w0 D A w' ∧ okS S2 sv ∧ (∀ o ∈ aL sv, o < S2.obs.length) ∧ Kp g1 Sd noD g2 S2 := by
 unfold xz at hi
 split at hi
 ·rename_i hc
  simp only [Bool.and_eq_true, List.all_eq_true, decide_eq_true_eq] at hc
  obtain ⟨⟨hbx, hnw⟩, hnd⟩ := hc
  rw [zu, hr] at hi
  simp only [Option.map_some, Option.some.injEq, Prod.mk.injEq] at hi
  obtain ⟨rfl, rfl⟩ := hi
  obtain ⟨gm, hgm⟩ : ∃ gm, gm = qD Sd pl1 := ⟨_, rfl⟩
  rw [← hgm]
  rw [← hgm] at hnd
  obtain ⟨np, hnp⟩ : ∃ np, np = pl1.length := ⟨_, rfl⟩
  rw [← hnp] at hσ hlen hsrc hself hrows hbx
  have gmLo : ∀ j, j < np → gm j = pl1.getD j 0 := fun j hj => by simp [hgm, qD, ← hnp, hj]
  have gmHi : ∀ j, np ≤ j → gm j = Sd.obs.length + (j - np) := fun j hj => by simp [hgm, qD, ← hnp, Nat.not_lt.2 hj]
  have gmLt : ∀ j, j < np → gm j < Sd.obs.length := fun j hj => by rw [gmLo j hj]; exact (hsrc j hj).1
  -- the callee's state
  obtain ⟨S1, hS1⟩ : ∃ S1, S1 = aB S0 N := ⟨_, rfl⟩
  rw [← hS1] at hrr CA CC
  have KA' : Kp gp { S0 with slots := [], mods := [] } (fun _ => True) g' { S1 with mods := N.boxes.map (·.1) } := by rw [hS1]; exact KA
  have hnd1 : kW (N.boxes.map (·.1)) = true := by
   have : ∀ l : List (Nat × Ob), kW (l.map fun p => gm p.1) = true → kW (l.map (·.1)) = true := by
    intro l
    induction l with
    | nil => intro _; rfl
    | cons p l ih =>
      intro h
      simp only [List.map_cons, kW, Bool.and_eq_true, Bool.not_eq_true', List.elem_eq_mem, decide_eq_false_iff_not] at h ⊢
      refine ⟨fun hm => h.1 ?_, ih h.2⟩
      obtain ⟨q, hq, he⟩ := List.mem_map.1 hm
      exact List.mem_map.2 ⟨q, hq, by rw [he]⟩
   exact this _ hnd
  obtain ⟨f1, f2, f3⟩ := sb (fun p : Nat × Ob => p.1) (fun p => p.2) N.boxes S0.obs
  have hl1 : S1.obs.length = np + N.news.length := by simp only [hS1, aB, List.length_append, f1, hlen]
  have ob1Lo : ∀ j, j < np → S1.ob j = (N.boxes.foldl (fun l p => l.set p.1 p.2) S0.obs).getD j .gone := fun j hj => by
   simp only [hS1, aB, St.ob, List.getD_eq_getElem?_getD]
   rw [List.getElem?_append_left (by rw [f1, hlen]; exact hj)]
  have ob1W : ∀ p ∈ N.boxes, S1.ob p.1 = p.2 := fun p hp => by
   have hlt := (hbx p hp).1
   rw [ob1Lo p.1 hlt]
   exact f3 hnd1 p hp (by rw [hlen]; exact hlt)
  have ob1N : ∀ j, j < np → j ∉ N.boxes.map (·.1) → S1.ob j = S0.ob j ∧ g' j = gp j := fun j hj hm => KA'.same j (by show j < S0.obs.length; rw [hlen]; exact hj) hm
  have ob1Hi : ∀ q, S1.ob (np + q) = N.news.getD q .gone := fun q => by
   simp only [hS1, aB, St.ob, List.getD_eq_getElem?_getD]
   rw [List.getElem?_append_right (by rw [f1, hlen]; omega), f1, hlen, show np + q - np = q by omega]
  have vb1 : ∀ j, j < np → (g' j).v = (gp j).v ∧ (g' j).bb = (gp j).bb := fun j hj => KA'.vb j (by show j < S0.obs.length; rw [hlen]; exact hj)
  -- the caller's
  obtain ⟨S2, hS2⟩ : ∃ S2 : St, S2 = ⟨Sd.slots, N.boxes.foldl (fun l p => l.set (gm p.1) (mvO gm p.2)) Sd.obs ++ N.news.map (mvO gm), N.boxes.map (fun p => gm p.1) ++ Sd.mods, Sd.pl⟩ := ⟨_, rfl⟩
  rw [← hS2]
  obtain ⟨f4, f5, f6⟩ := sb (fun p : Nat × Ob => gm p.1) (fun p => mvO gm p.2) N.boxes Sd.obs
  have hl2 : S2.obs.length = Sd.obs.length + N.news.length := by simp only [hS2, List.length_append, List.length_map, f4]
  have ob2Lo : ∀ i, i < Sd.obs.length → S2.ob i = (N.boxes.foldl (fun l p => l.set (gm p.1) (mvO gm p.2)) Sd.obs).getD i .gone := fun i hi => by
   simp only [hS2, St.ob, List.getD_eq_getElem?_getD]
   rw [List.getElem?_append_left (by rw [f4]; exact hi)]
  have ob2W : ∀ p ∈ N.boxes, S2.ob (gm p.1) = mvO gm p.2 := fun p hp => by
   have hlt := gmLt p.1 (hbx p hp).1
   rw [ob2Lo _ hlt]
   exact f6 hnd p hp hlt
  have ob2N : ∀ i, i < Sd.obs.length → i ∉ N.boxes.map (fun p => gm p.1) → S2.ob i = Sd.ob i := fun i hi hm => by rw [ob2Lo i hi]; exact f5 i hm
  have ob2Hi : ∀ q, S2.ob (Sd.obs.length + q) = mvO gm (S1.ob (np + q)) := fun q => by
   rw [ob1Hi q]
   simp only [hS2, St.ob, List.getD_eq_getElem?_getD]
   rw [List.getElem?_append_right (by rw [f4]; omega), f4, show Sd.obs.length + q - Sd.obs.length = q by omega, List.getElem?_map]
   cases N.news[q]? <;> rfl
  obtain ⟨g2, hg2⟩ : ∃ g2 : Env, g2 = fun i => if i < Sd.obs.length then (match N.boxes.find? (fun p => gm p.1 == i) with | some p => g' p.1 | none => g1 i) else g' (np + (i - Sd.obs.length)) := ⟨_, rfl⟩
  have g2W : ∀ p ∈ N.boxes, g2 (gm p.1) = g' p.1 := fun p hp => by
   simp only [hg2, if_pos (gmLt p.1 (hbx p hp).1)]
   cases hf : N.boxes.find? (fun q => gm q.1 == gm p.1) with
   | none => have := List.find?_eq_none.1 hf p hp; simp at this
   | some q =>
     have h1 := List.find?_some hf
     have h2 := List.mem_of_find?_eq_some hf
     have : q = p := uP (f := fun p : Nat × Ob => gm p.1) hnd h2 hp (by simpa using h1)
     rw [this]
  have g2N : ∀ i, i < Sd.obs.length → i ∉ N.boxes.map (fun p => gm p.1) → g2 i = g1 i := fun i hi hm => by
   simp only [hg2, if_pos hi]
   cases hf : N.boxes.find? (fun q => gm q.1 == i) with
   | none => rfl
   | some q =>
     have h1 := List.find?_some hf
     have h2 := List.mem_of_find?_eq_some hf
     exact absurd (List.mem_map.2 ⟨q, h2, by simpa using h1⟩) hm
  have g2Hi : ∀ q, g2 (Sd.obs.length + q) = g' (np + q) := fun q => by
   simp only [hg2, if_neg (show ¬ Sd.obs.length + q < Sd.obs.length by omega), show Sd.obs.length + q - Sd.obs.length = q by omega]
  have memW : ∀ i, i ∈ N.boxes.map (fun p => gm p.1) → ∃ p ∈ N.boxes, gm p.1 = i := fun i h => by obtain ⟨p, hp, he⟩ := List.mem_map.1 h; exact ⟨p, hp, he⟩
  -- places and values stay
  have vb2 : ∀ i, i < Sd.obs.length → (g2 i).v = (g1 i).v ∧ (g2 i).bb = (g1 i).bb := fun i hi => by
   by_cases hm : i ∈ N.boxes.map (fun p => gm p.1)
   ·obtain ⟨p, hp, rfl⟩ := memW i hm
    have hlt := (hbx p hp).1
    rw [g2W p hp]
    have h1 := vb1 p.1 hlt
    rw [(hsrc p.1 hlt).2, ← gmLo p.1 hlt] at h1
    exact h1
   ·rw [g2N i hi hm]; exact ⟨rfl, rfl⟩
  have vbm : ∀ j, (g2 (gm j)).v = (g' j).v ∧ (g2 (gm j)).bb = (g' j).bb := fun j => by
   rcases Nat.lt_or_ge j np with h | h
   ·have h1 := vb2 (gm j) (gmLt j h)
    have h2 := vb1 j h
    rw [(hsrc j h).2, ← gmLo j h] at h2
    exact ⟨h1.1.trans h2.1.symm, h1.2.trans h2.2.symm⟩
   ·rw [gmHi j h, g2Hi, show np + (j - np) = j by omega]; exact ⟨rfl, rfl⟩
  have refsm : ∀ j, j < S1.obs.length → gm j < S2.obs.length := fun j hj => by
   rw [hl2]
   rcases Nat.lt_or_ge j np with h | h
   ·have := gmLt j h; omega
   ·rw [gmHi j h]; rw [hl1] at hj; omega
  -- an object of the callee's with the caller
  have entm : ∀ j, g2 (gm j) = g' j → an g2 (gm j) (mvO gm (S1.ob j)) = an g' j (S1.ob j) ∧ az g2 (gm j) (mvO gm (S1.ob j)) = az g' j (S1.ob j) ∧ obP g2 (gm j) (mvO gm (S1.ob j)) := fun j hg => by
   have hp := CA.ob j
   cases ho : S1.ob j with
   | gone => exact ⟨rfl, rfl, trivial⟩
   | box T ls =>
     rw [ho] at hp
     obtain ⟨l1, _, l3, _⟩ := kJ (g := g') (g' := g2) (f := gm) ls (fun o _ => vbm o)
     exact ⟨by simp only [mvO, an, qH, hg, l1], rfl, l3 hp⟩
   | fleet e d xs hl =>
     rw [ho] at hp
     refine ⟨?_, ?_, ?_⟩
     ·simp only [mvO, an, hg]
     ·simp only [mvO, az, hg]
     ·simp only [mvO, obP, hg]; exact hp
   | row e t xs m fu =>
     rw [ho] at hp
     refine ⟨?_, ?_, ?_⟩
     ·cases m <;> simp only [mvO, an, hg]
     ·cases m <;> simp only [mvO, az, hg]
     ·simp only [mvO, obP, hg]; exact hp
  have entsame : ∀ i, i < Sd.obs.length → i ∉ N.boxes.map (fun p => gm p.1) → an g2 i (S2.ob i) = an g1 i (Sd.ob i) ∧ az g2 i (S2.ob i) = az g1 i (Sd.ob i) := fun i hi hm => by
   rw [ob2N i hi hm]
   exact ⟨tE (g2N i hi hm) (fun T ls e x hx => vb2 x (F.rb i T ls e x hx)), cQ (g2N i hi hm)⟩
  have entLent : ∀ (g : Env) i o, rO o = true → (az g i o).lent = false := fun g i o h => by
   cases o with
   | gone => rfl
   | box T ls => rfl
   | fleet e d xs hl =>
     show d.l = false
     simpa [rO] using h
   | row e t xs m fu => cases m <;> first | rfl | (simp [rO] at h)
  refine ⟨g2, (xO (g := g') (g' := g2) (f := gm) r hnr (fun o _ => vbm o)).1, ?_, ?_, (xO (g := g') (g' := g2) (f := gm) r hnr (fun o _ => vbm o)).2.2 S2, ?_, ?_⟩
  ·refine ⟨F.size, F.lo, F.defers, fun t s h => ?_, fun i => ?_, fun t s h => ?_, fun t s h o ho => ?_, fun i T ls h o ho => ?_⟩
   ·have h' : aA Sd.slots t = some s := by rw [hS2] at h; exact h
    have := F.sl t s h'
    rwa [qK (g := g1) (g' := g2) s (fun o ho => vb2 o (F.rs t s h' o ho))]
   ·rcases Nat.lt_or_ge i Sd.obs.length with hi | hi
    ·by_cases hm : i ∈ N.boxes.map (fun p => gm p.1)
     ·obtain ⟨p, hp, rfl⟩ := memW i hm
      rw [ob2W p hp, ← ob1W p hp]
      exact (entm p.1 (g2W p hp)).2.2
     ·rw [ob2N i hi hm]; exact iN (g2N i hi hm) (F.ob i)
    ·have e1 : i = Sd.obs.length + (i - Sd.obs.length) := by omega
     have e2 : gm (np + (i - Sd.obs.length)) = i := by rw [gmHi _ (by omega)]; omega
     have := (entm (np + (i - Sd.obs.length)) (by rw [e2]; rw [e1, g2Hi]; congr 1; omega)).2.2
     rw [e2] at this
     rw [e1, ob2Hi, ← e1]
     exact this
   ·have h' : aA Sd.slots t = some s := by rw [hS2] at h; exact h
    have hok := F.ok t s h'
    have okE : ∀ v : V1, (∀ o ∈ bi v, o < Sd.obs.length) → okV Sd v → okV S2 v := fun v hr' hv => by
     cases v with
     | elp o sz i off =>
       intro e t xs m fu he
       have hlt : o < Sd.obs.length := hr' o (by simp [bi])
       by_cases hm : o ∈ N.boxes.map (fun p => gm p.1)
       ·obtain ⟨p, hp, rfl⟩ := memW o hm
        have hlt' := (hbx p hp).1
        rw [ob2W p hp] at he
        cases hp2 : p.2 with
        | gone => rw [hp2] at he; cases he
        | box T ls => rw [hp2] at he; cases he
        | fleet e' d' xs' hl' => rw [hp2] at he; cases he
        | row e' t' xs' m' fu' =>
          rw [hp2] at he
          cases he
          obtain ⟨e0, xs0, m0, fu0, q1, q2⟩ := KA'.rows p.1 (by show p.1 < S0.obs.length; rw [hlen]; exact hlt') e t xs m fu (by show S1.ob p.1 = _; rw [ob1W p hp, hp2])
          obtain ⟨m3, fu3, q3⟩ := hrows p.1 hlt' _ _ _ _ _ (show S0.ob p.1 = _ from q1)
          rw [gmLo p.1 hlt'] at hv
          have := hv _ _ _ _ _ q3
          rw [q2] at this
          exact this
       ·rw [ob2N o hlt hm] at he; exact hv e t xs m fu he
     | arp b off t n i => exact hv
     | _ => trivial
    cases s with
    | v x => exact okE x (fun o ho => F.rs t _ h' o ho) hok
    | tup xs => exact fun x hx => okE x (fun o ho => F.rs t _ h' o (List.mem_flatMap.2 ⟨x, hx, ho⟩)) (hok x hx)
   ·have h' : aA Sd.slots t = some s := by rw [hS2] at h; exact h
    have := F.rs t s h' o ho
    rw [hl2]; omega
   ·-- boxes
    have boxm : ∀ j, S1.ob j = S1.ob j → ∀ T ls, mvO gm (S1.ob j) = .box T ls → ∀ o ∈ ls.flatMap aN, o < S2.obs.length := fun j _ T ls h o ho => by
     cases h1 : S1.ob j with
     | gone => rw [h1] at h; cases h
     | row e t xs m fu => rw [h1] at h; cases h
     | fleet e d xs hl => rw [h1] at h; cases h
     | box T' ls' =>
       rw [h1] at h
       cases h
       rw [(kJ (g := g') (g' := g2) (f := gm) ls' (fun o _ => vbm o)).2.2.2] at ho
       obtain ⟨o', ho', rfl⟩ := List.mem_map.1 ho
       exact refsm o' (CA.rb j _ ls' h1 o' ho')
    rcases Nat.lt_or_ge i Sd.obs.length with hi | hi
    ·by_cases hm : i ∈ N.boxes.map (fun p => gm p.1)
     ·obtain ⟨p, hp, rfl⟩ := memW i hm
      rw [ob2W p hp, ← ob1W p hp] at h
      exact boxm p.1 rfl T ls h o ho
     ·rw [ob2N i hi hm] at h
      have := F.rb i T ls h o ho
      rw [hl2]; omega
    ·rw [show i = Sd.obs.length + (i - Sd.obs.length) by omega, ob2Hi] at h
     exact boxm _ rfl T ls h o ho
  ·refine HC (fc := fun i j => gm j = i) (Lo := fun j => an g' j (S1.ob j)) (Ro := fun j => az g' j (S1.ob j)) C LD CC (fun i => ?_) (fun i i' j h h' => h.symm.trans h') (fun i => ?_)
   ·rcases Nat.lt_or_ge i Sd.obs.length with hi | hi
    ·by_cases hm : i ∈ N.boxes.map (fun p => gm p.1)
     ·obtain ⟨p, hp, rfl⟩ := memW i hm
      refine .inr (.inl ⟨p.1, rfl, ?_⟩)
      have := (entm p.1 (g2W p hp)).1
      rw [ob1W p hp] at this
      simp only [ob2W p hp, ob1W p hp]
      exact this
     ·have hs := (entsame i hi hm).1
      by_cases hk : ∃ k, (∃ b, (an gp k (S0.ob k)).dom b) ∧ σ k = i
      ·obtain ⟨j, hdom, hj⟩ := hk
       have hjn : j < np := by
        rcases Nat.lt_or_ge j np with h | h
        ·exact h
        ·obtain ⟨b, hb⟩ := hdom
         rw [kF (by rw [hlen]; exact h)] at hb
         exact hb.elim
       have hgj : gm j = i := by rw [gmLo j hjn, ← hσ j hjn]; exact hj
       have hjm : j ∉ N.boxes.map (·.1) := fun h => hm (by
        obtain ⟨p, hp, he⟩ := List.mem_map.1 h
        exact List.mem_map.2 ⟨p, hp, by rw [he]; exact hgj⟩)
       obtain ⟨q1, q2⟩ := ob1N j hjn hjm
       obtain ⟨Q, q3⟩ := hself j hjn hdom
       rw [← gmLo j hjn, hgj] at q3
       refine .inr (.inr (.inr ⟨hs, j, Q, hgj, hj, hdom, ?_, q3⟩))
       simp only [q1]
       refine tE q2 (fun T ls e x hx => ?_)
       exact vb1 x (by rw [← hlen]; exact hrb j T ls e x hx)
      ·exact .inr (.inr (.inl ⟨hs, fun k hd e => hk ⟨k, hd, e⟩⟩))
    ·have e1 : i = Sd.obs.length + (i - Sd.obs.length) := by omega
     have e2 : gm (np + (i - Sd.obs.length)) = i := by rw [gmHi _ (by omega)]; omega
     have := (entm (np + (i - Sd.obs.length)) (by rw [e2]; rw [e1, g2Hi]; congr 1; omega)).1
     rw [e2] at this
     refine .inr (.inl ⟨np + (i - Sd.obs.length), e2, ?_⟩)
     have e3 : S2.ob i = mvO gm (S1.ob (np + (i - Sd.obs.length))) := by rw [← ob2Hi, ← e1]
     simp only [e3]
     exact this
   ·rcases Nat.lt_or_ge i Sd.obs.length with hi | hi
    ·by_cases hm : i ∈ N.boxes.map (fun p => gm p.1)
     ·obtain ⟨p, hp, rfl⟩ := memW i hm
      have := (entm p.1 (g2W p hp)).2.1
      rw [ob1W p hp] at this
      refine .inr (.inr ⟨p.1, ?_, ?_⟩)
      ·simp only [ob2W p hp, ob1W p hp]; exact this
      ·simp only [ob2W p hp]
       rw [this]
       exact entLent _ _ _ (hbx p hp).2
     ·exact .inr (.inl (entsame i hi hm).2)
    ·have e1 : i = Sd.obs.length + (i - Sd.obs.length) := by omega
     have e2 : gm (np + (i - Sd.obs.length)) = i := by rw [gmHi _ (by omega)]; omega
     have := (entm (np + (i - Sd.obs.length)) (by rw [e2]; rw [e1, g2Hi]; congr 1; omega)).2.1
     rw [e2] at this
     have e3 : S2.ob i = mvO gm (S1.ob (np + (i - Sd.obs.length))) := by rw [← ob2Hi, ← e1]
     refine .inr (.inr ⟨np + (i - Sd.obs.length), ?_, ?_⟩)
     ·simp only [e3]; exact this
     ·simp only [e3]
      rw [this]
      refine entLent _ _ _ ?_
      rw [ob1Hi]
      cases h : N.news[i - Sd.obs.length]? with
      | none => simp [List.getD_eq_getElem?_getD, h, rO]
      | some ob => simp only [List.getD_eq_getElem?_getD, h, Option.getD_some]; exact hnw ob (List.mem_of_getElem? h)
  ·intro o ho
   rw [(xO (g := g') (g' := g2) (f := gm) r hnr (fun o _ => vbm o)).2.1] at ho
   obtain ⟨o', ho', rfl⟩ := List.mem_map.1 ho
   exact refsm o' (hrr o' ho')
  ·refine ⟨by rw [hl2]; omega, vb2, fun i hi hm => ?_, fun i hi => by rw [hS2]; exact List.mem_append_right _ hi, fun _ _ => by rw [hS2], fun i hi e t xs m fu h => ?_⟩
   ·have hm' : i ∉ N.boxes.map (fun p => gm p.1) := fun h => hm (by rw [hS2]; exact List.mem_append_left _ h)
    exact ⟨ob2N i hi hm', g2N i hi hm'⟩
   ·by_cases hm : i ∈ N.boxes.map (fun p => gm p.1)
    ·obtain ⟨p, hp, rfl⟩ := memW i hm
     have hlt' := (hbx p hp).1
     rw [ob2W p hp] at h
     cases hp2 : p.2 with
     | gone => rw [hp2] at h; cases h
     | box T ls => rw [hp2] at h; cases h
     | fleet e' d' xs' hl' => rw [hp2] at h; cases h
     | row e' t' xs' m' fu' =>
       rw [hp2] at h
       cases h
       obtain ⟨e0, xs0, m0, fu0, q1, q2⟩ := KA'.rows p.1 (by show p.1 < S0.obs.length; rw [hlen]; exact hlt') e t xs m fu (by show S1.ob p.1 = _; rw [ob1W p hp, hp2])
       obtain ⟨m3, fu3, q3⟩ := hrows p.1 hlt' _ _ _ _ _ (show S0.ob p.1 = _ from q1)
       rw [gmLo p.1 hlt']
       exact ⟨_, _, _, _, q3, q2⟩
    ·rw [ob2N i hi hm] at h; exact ⟨_, _, _, _, h, rfl⟩
 ·cases hi
end
theorem Fn.mono {P : Program} {f : FuncId} {args : List Value} {w : World} {K K' : Value → World → Prop} (h : Fn P f args w K) (hk : ∀ v w', K v w' → K' v w') : Fn P f args w K' :=
 Calls.mono h fun e w' ⟨v, he, hv⟩ => ⟨v, he, hk v w' hv⟩
theorem Ck {t : Ty} {xs : List t.den} {i : Int} (h0 : 0 ≤ i) (h1 : i < (xs.length : Int)) : xs[i.toNat]? = some (at_ t xs i) := by
 have h : i.toNat < xs.length := by omega
 simp only [at_, List.getD_eq_getElem?_getD, List.getElem?_eq_getElem h, Option.getD_some]
theorem Fy {g g' : Env} {S S' : St} {d : Nat → Prop} (K : Kp g S d g' S') {x : SV} (h : okS S x) (hr : ∀ o ∈ aL x, o < S.obs.length) : okS S' x := by
 have okE : ∀ v : V1, (∀ o ∈ bi v, o < S.obs.length) → okV S v → okV S' v := fun v hr hv => by
  cases v with
  | elp o sz i off =>
    intro e t xs m fu he
    obtain ⟨e0, xs0, m0, fu0, h1, h2⟩ := K.rows o (hr o (by simp [bi])) e t xs m fu he
    have := hv e0 t xs0 m0 fu0 h1
    rw [h2] at this
    exact this
  | arp b off t n i => exact hv
  | _ => trivial
 cases x with
 | v x => exact okE x hr h
 | tup xs => exact fun x hx => okE x (fun o ho => hr o (List.mem_flatMap.2 ⟨x, hx, ho⟩)) (h x hx)
theorem uQ {g : Env} {γ : Ghost} {S : St} {n : Nat} {a : Act} (F : Fit g γ S n a) (m : List Nat) : Fit g γ { S with mods := m } n a :=
 ⟨F.size, F.lo, F.defers, F.sl, F.ob, fun t sv h => by have := F.ok t sv h; cases sv <;> exact this, F.rs, F.rb⟩
theorem zv {P : Program} {X : (R : Type) → Alg R → St → Nat → List SV → (St → SV → R) → R} (hX : dg P X) (js : List Nat) : dg P (fun R A S f xs K => rP A (fun S xs K => X R A S f xs K) js S xs K) := by
 induction js with
 | nil =>
   intro α K out g γ S n a w0 w D A f xs h F C hxs
   exact hX h F C hxs
 | cons j js IH =>
   intro α K out g γ S n a w0 w D A f xs h F C hxs
   simp only [rP] at h
   split at h
   ·rename_i o k off hj
    split at h
    ·rename_i e d ys ho
     split at h
     ·rename_i os hos
      split at h
      ·rename_i hpl
       have hg : (0 ≤ k ∧ k < (ys.length : Int)) ∧ rP (ax α) (fun S xs K => X _ (ax α) S f xs K) js { fy S o e d ys k.toNat os with mods := [] } (xs.set j (.v (.a (.ptr S.obs.length off)))) (fun S2 v =>
        if S2.mods.elem o then (ax α).fail "a row of pointers is written to" else
        if (S2.mods.all fun i => decide (i < S.obs.length) || decide (S.obs.length + os.length ≤ i)) = true then K { eW S2 o e d ys S.obs.length os.length with mods := S2.mods ++ S.mods } v else
        match xB S2 o e d (fun x => ys.set k.toNat x) S.obs.length with
         | some S3 => K { S3 with mods := S3.mods ++ o :: S.mods } v
         | none => (ax α).fail "what a row points to has other parts") = some out := by
        simp only [ax] at h ⊢
        split at h
        ·rename_i hp; exact ⟨hp, h⟩
        ·cases h
       obtain ⟨⟨hk0, hk1⟩, h⟩ := hg
       obtain ⟨g', F', C', K', hb, hgo, holt, hnlt, hgk⟩ := AY F ho (Ck hk0 hk1) hos hpl
       obtain ⟨S1, hS1⟩ : ∃ S1 : St, S1 = { fy S o e d ys k.toNat os with mods := [] } := ⟨_, rfl⟩
       have F1 : Fit g' γ S1 n a := by rw [hS1]; exact uQ F' []
       have C1 : Cx g' S1 w0 D A w := by rw [hS1]; exact C' _ _ _ _ C
       have hl1 : S1.obs.length = (fy S o e d ys k.toNat os).obs.length := by rw [hS1]
       have ob1 : S1.ob o = .fleet e d ys (some k.toNat) := by
        rw [hS1]
        show (fy S o e d ys k.toNat os).ob o = _
        simp only [fy, St.ob, List.getD_eq_getElem?_getD]
        rw [List.getElem?_append_left (by simpa using holt), List.getElem?_set, if_pos rfl, if_pos holt]
        rfl
       have hjlt : j < xs.length := (List.getElem?_eq_some_iff.1 hj).1
       have henc : (xs.set j (.v (.a (.ptr S.obs.length off)))).map (aq g') = xs.map (aq g) := by
        apply List.ext_getElem?
        intro i
        simp only [List.getElem?_map, List.getElem?_set]
        by_cases hi : j = i
        ·subst hi
         rw [if_pos rfl, if_pos hjlt, hj]
         simp only [Option.map_some, aq, aU, aJ, hb, nt]
        ·rw [if_neg hi]
         cases hx : xs[i]? with
         | none => rfl
         | some x =>
           simp only [Option.map_some]
           rw [qK (g := g) (g' := g') x (fun o' ho' => K'.vb o' ((hxs x (List.mem_of_getElem? hx)).2 o' ho'))]
       have hxs1 : ∀ x ∈ xs.set j (.v (.a (.ptr S.obs.length off))), okS S1 x ∧ ∀ o ∈ aL x, o < S1.obs.length := by
        intro x hx
        rcases List.mem_or_eq_of_mem_set hx with hx | rfl
        ·have h1 := Fy K' (hxs x hx).1 (hxs x hx).2
         refine ⟨by rw [hS1]; cases x <;> exact h1, fun o' ho' => ?_⟩
         have := (hxs x hx).2 o' ho'
         have := K'.len
         rw [hl1]; omega
        ·refine ⟨trivial, fun o' ho' => ?_⟩
         have : o' = S.obs.length := by simpa [aL, bi, aN] using ho'
         rw [this, hl1]; exact hnlt
       rw [← hS1] at h
       have ih := IH h F1 C1 hxs1
       rw [henc] at ih
       refine ih.mono ?_
       rintro v w' ⟨g2, S2, sv, q1, q2, F2, C2, q3, q4, K2⟩
       simp only at q1
       split at q1
       ·simp [ax] at q1
       ·rename_i hno
        have hno : o ∉ S2.mods := by simpa using hno
        split at q1
        ·rename_i hun
         have hun : ∀ i ∈ S2.mods, i < S.obs.length ∨ S.obs.length + os.length ≤ i := by simpa using hun
         have hn1 : S.obs.length < S1.obs.length := by rw [hl1]; exact hnlt
         have ho1 : o < S1.obs.length := by omega
         obtain ⟨s1, s2⟩ := K2.same o ho1 hno
         have hoslen : S1.obs.length = S.obs.length + os.length := by rw [hl1]; simp [fy]
         have hP : FleetP (g2 o) e d ys none := by
          have := F.ob o
          rw [ho] at this
          rw [s2, hgo]; exact this
         have hkid : ∀ j, bq d (at_ (bm d) ys k) j = os.getD j .gone := fun j => by simp only [bq, hos, Option.getD_some]
         have part : ∀ j, j < os.length → S2.ob (j + S.obs.length) = mvO (· + S.obs.length) (aZ d.l (bq d (at_ (bm d) ys k) j)) ∧ g2 (j + S.obs.length) = dL (g2 o) k.toNat j := fun j hj => by
          obtain ⟨p1, p2⟩ := K2.same (j + S.obs.length) (by omega) (fun h => by have := hun _ h; omega)
          refine ⟨p1.trans ?_, by rw [p2, s2, hgk, hgo]⟩
          rw [hS1, hkid]
          show (fy S o e d ys k.toNat os).ob (j + S.obs.length) = _
          simp only [fy, St.ob, List.getD_eq_getElem?_getD]
          rw [List.getElem?_append_right (by simp), List.length_set, Nat.add_sub_cancel, List.getElem?_map]
          simp [hj]
         have hlen2 : S.obs.length + os.length ≤ S2.obs.length := by have := K2.len; omega
         obtain ⟨u1, u2, u3, u4, u5⟩ := xQ (b := S.obs.length) F2 (s1.trans ob1) (Ck hk0 hk1) hos hpl hP holt hlen2 (fun j hj => (part j hj).1) (fun j hj => (part j hj).2)
         obtain ⟨S3, hS3⟩ : ∃ S3, S3 = eW S2 o e d ys S.obs.length os.length := ⟨_, rfl⟩
         rw [← hS3] at u1 u2 u3 u4 u5 q1
         have hsl3 : S3.slots = S2.slots := by rw [hS3]; rfl
         have rows3 : ∀ i e' t xs' m fu, S3.ob i = .row e' t xs' m fu → S2.ob i = .row e' t xs' m fu := fun i e' t xs' m fu he => by
          by_cases hio : i = o
          ·subst hio; rw [u4] at he; cases he
          ·by_cases hib : S.obs.length ≤ i ∧ i < S.obs.length + os.length
           ·rw [hS3] at he
            simp only [eW, St.ob, List.getD_eq_getElem?_getD, List.getElem?_set, if_neg (Ne.symm hio), List.getElem?_map, List.getElem?_zipIdx, Nat.zero_add] at he
            cases hz : S2.obs[i]? with
            | none => rw [hz] at he; cases he
            | some z => rw [hz] at he; simp [hib] at he
           ·rw [u5 i hio hib] at he; exact he
         refine ⟨g2, { S3 with mods := S2.mods ++ S.mods }, sv, q1, q2, uQ u1 _, u2 _ _ _ _ C2, ?_, fun o' ho' => by show o' < S3.obs.length; rw [u3]; exact q4 o' ho', ?_⟩
         ·have okE : ∀ v : V1, okV S2 v → okV S3 v := fun v hv => by
           cases v with
           | elp o2 sz i off => exact fun e2 t2 xs2 m2 fu2 he => hv e2 t2 xs2 m2 fu2 (rows3 _ _ _ _ _ _ he)
           | arp b off t n i => exact hv
           | _ => trivial
          cases sv with
          | v x => exact okE x q3
          | tup xs => exact fun x hx => okE x (q3 x hx)
         ·have len1 : S.obs.length ≤ S1.obs.length := Nat.le_of_lt hn1
          have len2 := K2.len
          refine ⟨by show S.obs.length ≤ S3.obs.length; rw [u3]; omega, fun i hi => ?_, fun i hi hm => ?_, fun i hi => List.mem_append_right _ hi, fun t ht => ?_, fun i hi e' t xs' m fu he => ?_⟩
          ·have v1 := K'.vb i hi
           have v2 := K2.vb i (by omega)
           exact ⟨v2.1.trans v1.1, v2.2.trans v1.2⟩
          ·simp only [List.mem_append, not_or] at hm
           by_cases hio : i = o
           ·subst hio
            exact ⟨u4.trans ho.symm, s2.trans hgo⟩
           ·have v1 := K'.same i hi (by simp only [fy, List.mem_cons, not_or]; exact ⟨hio, hm.2⟩)
            have v2 := K2.same i (by omega) hm.1
            have e1 : S1.ob i = S.ob i := by rw [hS1]; exact v1.1
            exact ⟨(u5 i hio (by omega)).trans (v2.1.trans e1), v2.2.trans v1.2⟩
          ·have v1 := K'.slots t ht
           have v2 := K2.slots t ht
           have e1 : aA S1.slots t = aA S.slots t := by rw [hS1]; exact v1
           show aA S3.slots t = _
           rw [hsl3]
           exact v2.trans e1
          ·obtain ⟨e2, x2, m2, f2, r3, r4⟩ := K2.rows i (by omega) e' t xs' m fu (rows3 i _ _ _ _ _ he)
           have r3' : (fy S o e d ys k.toNat os).ob i = .row e2 t x2 m2 f2 := by rw [hS1] at r3; exact r3
           obtain ⟨e1, x1, m1, f1, r5, r6⟩ := K'.rows i hi e2 t x2 m2 f2 r3'
           exact ⟨e1, x1, m1, f1, r5, r6.trans r4⟩
        ·split at q1
         ·rename_i S3 hf
          have hn1 : S.obs.length < S1.obs.length := by rw [hl1]; exact hnlt
          have ho1 : o < S1.obs.length := by omega
          obtain ⟨s1, s2⟩ := K2.same o ho1 hno
          have hb2 : (g2 S.obs.length).b = gq (g2 o) k.toNat := by
           show (g2 S.obs.length).bb.1 = gq (g2 o) k.toNat
           rw [(K2.vb S.obs.length hn1).2, s2, hgo]
           exact hb
          obtain ⟨g3, F3, C3, K3⟩ := wL F2 C2 (s1.trans ob1) hb2 hf (fun x => rfl)
          refine ⟨g3, { S3 with mods := S3.mods ++ o :: S.mods }, sv, q1, ?_, uQ F3 _, C3, ?_, fun o' ho' => Nat.lt_of_lt_of_le (q4 o' ho') K3.len, ?_⟩
          ·rw [q2, qK (g := g2) (g' := g3) sv (fun o' ho' => K3.vb o' (q4 o' ho'))]
          ·have := Fy K3 q3 q4
           cases sv <;> exact this
          ·have len1 : S.obs.length ≤ S1.obs.length := Nat.le_of_lt hn1
           have len2 := K2.len
           refine ⟨Nat.le_trans len1 (Nat.le_trans len2 K3.len), fun i hi => ?_, fun i hi hm => ?_, fun i hi => List.mem_append_right _ (List.mem_cons_of_mem _ hi), fun t ht => ?_, fun i hi e' t xs' m fu he => ?_⟩
           ·have v1 := K'.vb i hi
            have v2 := K2.vb i (by omega)
            have v3 := K3.vb i (by omega)
            exact ⟨v3.1.trans (v2.1.trans v1.1), v3.2.trans (v2.2.trans v1.2)⟩
           ·simp only [List.mem_append, not_or, List.mem_cons] at hm
            obtain ⟨hm3, hmo, hmS⟩ := hm
            have v1 := K'.same i hi (by simp only [fy, List.mem_cons, not_or]; exact ⟨hmo, hmS⟩)
            have v2 := K2.same i (by omega) (fun h => hm3 (K3.mods i h))
            have v3 := K3.same i (by omega) hm3
            have e1 : S1.ob i = S.ob i := by rw [hS1]; exact v1.1
            exact ⟨v3.1.trans (v2.1.trans e1), v3.2.trans (v2.2.trans v1.2)⟩
           ·have v1 := K'.slots t ht
            have v2 := K2.slots t ht
            have v3 := K3.slots t ht
            have e1 : aA S1.slots t = aA S.slots t := by rw [hS1]; exact v1
            exact v3.trans (v2.trans e1)
           ·obtain ⟨e3, x3, m3, f3, r1, r2⟩ := K3.rows i (by omega) e' t xs' m fu he
            obtain ⟨e2, x2, m2, f2, r3, r4⟩ := K2.rows i (by omega) e3 t x3 m3 f3 r1
            have r3' : (fy S o e d ys k.toNat os).ob i = .row e2 t x2 m2 f2 := by rw [hS1] at r3; exact r3
            obtain ⟨e1, x1, m1, f1, r5, r6⟩ := K'.rows i hi e2 t x2 m2 f2 r3'
            exact ⟨e1, x1, m1, f1, r5, r6.trans (r4.trans r2)⟩
         ·simp [ax] at q1
      ·simp [ax] at h
     ·simp [ax] at h
    ·simp [ax] at h
   ·exact IH h F C hxs
theorem nO {S : St} : ∀ {gs : List Nat} {t : Nat} {sv : SV}, aA (AI S gs) t = some sv → ∃ b, t = rG + b ∧ yD S.slots b = some sv
 | [], t, sv, h => by cases h
 | b :: gs, t, sv, h => by
   unfold AI at h
   rw [List.filterMap_cons] at h
   cases hb : yD S.slots b with
   | none =>
     rw [hb] at h
     exact nO (gs := gs) h
   | some v =>
     rw [hb] at h
     simp only [Option.map_some, aA] at h
     split at h
     ·rename_i he
      cases h
      exact ⟨b, by simpa using (beq_iff_eq.1 he).symm, hb⟩
     ·exact nO (gs := gs) h
theorem uR {P : Program} {Γ : List Con} {k : Nat} (hΓ : ∀ c ∈ Γ, al P c) (gs : List Nat) : dg P (fun R A S f xs K => BV A P Γ k gs S f xs K) := by
 intro α K out g γ S n a w0 w D A f ys h F C hxs'
 simp only [BV] at h
 split at h
 ·rename_i N pl hN
  split at h
  ·rename_i hc
   obtain ⟨hs, hp, hgb⟩ := hc
   simp only [Bool.and_eq_true, List.all_eq_true, decide_eq_true_eq] at hgb
   split at h
   ·rename_i c hfc
    split at h
    ·rename_i x hx
     obtain ⟨y, hy, h⟩ := Option.bind_eq_some_iff.1 h
     obtain ⟨hcm, hcf, hle⟩ := qU hfc
     obtain ⟨g1, gp, F1, C1, K1, G, hb, henc, hsl⟩ := wK F C hN hp
     obtain ⟨n1, n2, n3⟩ := qM hN
     obtain ⟨N0, hf0, W⟩ := AU n1 n2 n3 hle
     have hN0b : N0.boxes = [] := by
      have := uG W.boxes
      rw [hb] at this
      simpa using this
     obtain ⟨S0, hS0⟩ : ∃ S0, S0 = fX ⟨[], [], [], .nil⟩ 0 N0 := ⟨_, rfl⟩
     have hpat : iV c.pat x = some S0 := by
      unfold iV
      rw [jK _ _ _ hx, hf0, hS0]; rfl
     have hobs : S0.obs = N0.news := by rw [hS0]; simp [fX, hN0b]
     have hslots : S0.slots = N.slots := by rw [hS0]; simp [fX, W.slots]
     obtain ⟨d1, d2, hss0⟩ := Fx hf0
     have hss := Cj hss0
     obtain ⟨D1, D2, D3, D4, D5, D6, D7⟩ := nM (gE S.obs.length pl) c.pat.news F1
     obtain ⟨pl1, hpl1⟩ : ∃ pl1, pl1 = gE S.obs.length pl := ⟨_, rfl⟩
     rw [← hpl1] at h G D1 D2 D3 D4 D5 D6 D7
     obtain ⟨S1, hS1⟩ : ∃ S1, S1 = S.add (cE pl) := ⟨_, rfl⟩
     rw [← hS1] at h F1 C1 K1 G D1 D2 D3 D4 D5 D6 D7
     obtain ⟨Sd, hSd⟩ : ∃ Sd, Sd = br S1 pl1 c.pat.news := ⟨_, rfl⟩
     rw [← hSd] at h D1 D2 D3 D4 D5 D6 D7
     have C2 := D2 _ _ _ _ C1
     have LD := Dn (S0 := S0) G W.news hss D6 D7 hobs C2 D1.ob
     have hlen : S0.obs.length = pl1.length := by rw [hobs, ← W.news.len, G.len]
     have hpll : pl1.length = pl.length := by rw [hpl1, jI]
     have get : ∀ j, S0.ob j = .gone ∨ N0.news[j]? = some (S0.ob j) := fun j => by
      cases hj : N0.news[j]? with
      | none => left; simp [St.ob, hobs, List.getD_eq_getElem?_getD, hj]
      | some ob => right; simp [St.ob, hobs, List.getD_eq_getElem?_getD, hj]
     have CAL : Cal gp S0 := by
      refine ⟨fun i => ?_, fun p hp' => (hsl p (by rw [← hslots]; exact hp')).1, fun p hp' o ho => ?_, fun i T ls hi o ho => ?_⟩
      ·rcases get i with h1 | h1
       ·rw [h1]; trivial
       ·obtain ⟨o, q1, q2, q3, q4, q5⟩ := jJ G W.news hss D6 D7 h1
        have hp1 := F1.ob o
        cases hi : S0.ob i with
        | gone => trivial
        | box T ls => rw [hi] at q5; obtain ⟨ls0, m1, _, m3, _⟩ := q5; rw [m1] at hp1; exact m3 hp1
        | fleet e d xs hl =>
          rw [hi] at q5
          show FleetP (gp i) e d xs hl
          rw [q3]
          rcases (show FlW (S1.ob o) (.fleet e d xs hl) from q5) with m1 | ⟨e0, d0, xs0, hl0, m1, m2⟩
          ·rw [m1] at hp1; exact hp1
          ·rw [m1] at hp1
           have := zr (show FleetP (g1 o) e0 d0 xs0 hl0 from hp1)
           cases m2
           exact this
        | row e t xs m fu =>
          rw [hi] at q5
          obtain ⟨m0, fu0, m1, _, m3⟩ := q5
          rw [m1] at hp1
          exact ⟨by rw [q3]; exact hp1.1, by rw [q3]; exact hp1.2.1, fun hf => by rw [q3]; exact hp1.2.2 (m3 hf)⟩
      ·rw [hlen, hpll]; exact (hsl p (by rw [← hslots]; exact hp')).2 o ho
      ·rcases get i with h1 | h1
       ·rw [h1] at hi; cases hi
       ·obtain ⟨o', q1, q2, q3, q4, q5⟩ := jJ G W.news hss D6 D7 h1
        rw [hi] at q5
        obtain ⟨_, _, _, _, m4⟩ := q5
        rw [hlen]; exact m4 o ho
     have hkeys : S0.slots.map (·.1) = List.range ys.length ++ gs.map (rG + ·) := by rw [hslots, hs]
     have hnl : N.slots.length = ys.length + gs.length := by
      have := congrArg List.length hs
      simpa using this
     have hkey : ∀ i, i < ys.length → ∀ p, N.slots[i]? = some p → p.1 = i := fun i hi p hp' => by
      have := congrArg (·[i]?) hs
      simp only [List.getElem?_map, hp', Option.map_some] at this
      rw [List.getElem?_append_left (by simpa using hi), List.getElem?_range hi] at this
      simpa using this
     have harg : ((N.slots.take ys.length).map fun p => aq gp p.2) = ys.map (aq g) := by
      apply List.ext_getElem?
      intro i
      simp only [List.getElem?_map]
      rcases Nat.lt_or_ge i ys.length with hi | hi
      ·rw [List.getElem?_take_of_lt hi]
       obtain ⟨p, hp'⟩ : ∃ p, N.slots[i]? = some p := ⟨_, List.getElem?_eq_getElem (by omega)⟩
       obtain ⟨sv, h1, h2⟩ := henc p (List.mem_of_getElem? hp')
       rw [hkey i hi p hp', jS] at h1
       have h3 : aA (bW 0 ys) i = ys[i]? := by have := kX ys 0 i; rwa [Nat.zero_add] at this
       rw [h3, List.getElem?_eq_getElem hi] at h1
       rw [hp', List.getElem?_eq_getElem hi]
       simp only [Option.map_some, h2]
       simp only [Option.some_or, Option.some.injEq] at h1
       rw [h1]
      ·rw [List.getElem?_eq_none (by rw [List.length_take]; omega), List.getElem?_eq_none hi]
       rfl
     have hglob : ∀ p ∈ S0.slots.drop ys.length, aq gp p.2 = .pointer (some ⟨p.1 - rG, 0, none⟩) := by
      intro p hp'
      rw [hslots] at hp'
      obtain ⟨i, hi⟩ := List.mem_iff_getElem?.1 hp'
      rw [List.getElem?_drop] at hi
      have hk := congrArg (·[ys.length + i]?) hs
      simp only [List.getElem?_map, hi, Option.map_some] at hk
      rw [List.getElem?_append_right (by simp), List.length_range, Nat.add_sub_cancel_left, List.getElem?_map] at hk
      obtain ⟨b, hb1, hb2⟩ := Option.map_eq_some_iff.1 hk.symm
      obtain ⟨sv, h1, h2⟩ := henc p (List.mem_of_getElem? hi)
      rw [jS] at h1
      have h0 : aA (bW 0 ys) p.1 = none := by
       have := kX ys 0 p.1
       rw [Nat.zero_add] at this
       rw [this, List.getElem?_eq_none (by omega)]
      rw [h0, Option.none_or] at h1
      obtain ⟨b', hb', hl⟩ := nO h1
      have h3 := (aD (x := .global b') F (show opA S (.global b') = some sv from hl)).1
      rw [h2, ← h3, hb', Nat.add_sub_cancel_left]
      rfl
     have hfn := hΓ c hcm k x y S0 ys.length gs hy hpat hkeys (fun b hb => hgb.1 b hb) gp w _ _ CAL (HB C2 LD) hglob
     rw [hcf, hslots, harg] at hfn
     refine hfn.mono ?_
     rintro v w' ⟨i, ds, s, N', r, g', q1, q2, q3, q4, q5, q6, q7, q8, q9, q10⟩
     rw [q1] at h
     simp only [q2, q3] at h
     split at h
     ·rename_i S2 sv hio
      have gd : ∀ {j : Nat}, j < pl1.length → pl1[j]? = some (pl1.getD j 0) := fun {j} hj => by simp [List.getD_eq_getElem?_getD, hj]
      obtain ⟨g2, b1, b2, b3, b4, b5, b6⟩ := Do (σ := fun j => pl1.getD j j) D1 C2 (fun j hj => by simp [List.getD_eq_getElem?_getD, hj]) LD hlen
       (fun j hj => by have := G.src j _ (gd hj); rw [D5]; exact this)
       (fun j hj hd => by
        rcases LD.own j with ⟨hno, _⟩ | h1
        ·obtain ⟨b, hb⟩ := hd; exact absurd hb (hno b)
        ·have e : pl1.getD j j = pl1.getD j 0 := by simp [List.getD_eq_getElem?_getD, hj]
         simp only [e] at h1; exact h1)
       (fun j hj e t xs m fu he => by
        rcases get j with h1 | h1
        ·rw [h1] at he; cases he
        ·obtain ⟨o, p1, p2, p3, p4, p5⟩ := jJ G W.news hss D6 D7 h1
         have : o = pl1.getD j 0 := by rw [gd hj] at p1; cases p1; rfl
         subst this
         rw [he] at p4
         cases m with
         | own => obtain ⟨fu0, m1⟩ := p4; exact ⟨_, _, m1⟩
         | rd => obtain ⟨fu0, m1⟩ := p4; exact ⟨_, _, m1⟩
         | lent => obtain ⟨m0, fu0, m1⟩ := p4; exact ⟨_, _, m1⟩)
       CAL.rb q4 q6 q7 q8 q9 q10 hio
      obtain ⟨p, h⟩ : ∃ p, K (S2.to p) sv = some out := by
       split at h
       ·exact ⟨S2.pl, h⟩
       ·exact ⟨_, h⟩
      exact ⟨g2, S2.to p, sv, h, by rw [q5, b1], fF b2 p, b3, by cases sv <;> exact b4, b5, nH (K1.trans (D3.trans b6 (fun _ => id) (fun _ => id)) (fun _ => id) (fun _ => id)) p⟩
     ·simp [ax] at h
    ·simp [ax] at h
   ·simp [ax] at h
  ·simp [ax] at h
 ·simp [ax] at h
theorem uS {P : Program} {Γ : List Con} {k : Nat} (hΓ : ∀ c ∈ Γ, al P c) : dg P (fun R A S f xs K => nE A P Γ k S f xs K) := by
 intro α K out g γ S n a w0 w D A f xs h F C hxs
 simp only [nE] at h
 obtain ⟨t1, t2⟩ := qP (P := P) (g := g) (S := S) f xs
 have hxs' := t2 hxs
 rw [← t1]
 refine zv (X := fun R A S f xs K => AJ A P Γ k S f xs K) ?_ _ h F C hxs'
 intro α K out g γ S n a w0 w D A f xs h F C hxs
 simp only [AJ] at h
 split at h
 ·exact uR hΓ [] h F C hxs
 ·exact uR hΓ (EQ S) h F C hxs
theorem Kq {S : St} {v : SV} (h : kt v = true) : okS S v := by
 have okE : ∀ v : V1, uD v = true → okV S v := fun v hv => by
  cases v with
  | elp o sz i off => cases hv
  | arp b off t n i => cases hv
  | _ => trivial
 cases v with
 | v x => exact okE x h
 | tup xs => exact fun x hx => okE x (List.all_eq_true.1 h x hx)
theorem zw : ∀ l : List Nat, ∃ d : Nat, ∀ t ∈ l, bit d t = true
 | [] => ⟨0, fun t h => by cases h⟩
 | x :: l => by
   obtain ⟨d, hd⟩ := zw l
   refine ⟨(1 <<< x) ||| d, fun t ht => iw.2 ?_⟩
   rcases List.mem_cons.1 ht with rfl | h
   ·exact .inl (Ch t)
   ·exact .inr (hd t h)
structure ResOk (g : Env) (S : St) (i : Nat) (l : List (Nat × SV)) : Prop where
 keys : l.map (·.1) = (List.range l.length).map (fun j => rB + (i + j))
 ok : ∀ p ∈ l, okS S p.2
 rs : ∀ p ∈ l, ∀ o ∈ aL p.2, o < S.obs.length
section
variable {P : Program} {g g' : Env} {γ : Ghost} {S : St} {n : Nat} {a : Act} {w0 w w' : World} {D A : Nat → Prop}
theorem uT (i m : Nat) : (rB + i) :: (List.range m).map (fun j => rB + (i + 1 + j)) = (List.range (m + 1)).map (fun j => rB + (i + j)) := by
 rw [List.range_succ_eq_map, List.map_cons, List.map_map]
 congr 1
 apply List.map_congr_left
 intro j _
 simp only [Function.comp]
 omega
theorem FC {ty : TypeId} {X : Operand} {v : Value} (h : cV P a.eval (.load ty X) w v w) : (Instr.loadAt ty (a.eval X)).run P w = .ok v w := by
 have := h { (default : Oper) with op := .load ty X } rfl
 simp only [execOp, Sem.run_bind] at this
 cases hr : (Instr.loadAt ty (a.eval X)).run P w with
 | ok u w1 => rw [hr] at this; simp at this; rw [this.1, this.2]
 | halt x w1 => rw [hr] at this; simp [Result.andThen] at this
theorem mp (F : Fit g γ S n a) (C : Cx g S w0 D A w) (gf : ResultVar → Sem Value) (h1 : ∀ t, (gf (.tmp t)) = pure (a.tmps.getD t undef)) (h2 : ∀ t ty v, (Instr.loadAt ty (a.tmps.getD t undef)).run P w = .ok v w → (gf (.cell t ty)).run P w = .ok v w) :
 ∀ (rs : List ResultVar) (ts : List TypeId) (i : Nat) (l : List (Nat × SV)), rs.length = ts.length → uk P S (rs.zip ts) i = some l → ResOk g S i l ∧ l.length = rs.length ∧ (rs.mapM gf).run P w = .ok (l.map fun p => aq g p.2) w
 | [], [], i, l, _, h => by
   simp only [List.zip_nil_left, uk, Option.some.injEq] at h
   subst h
   exact ⟨⟨rfl, (fun p hp => by cases hp), (fun p hp => by cases hp)⟩, rfl, by simp⟩
 | [], _ :: _, i, l, hl, h => by simp at hl
 | _ :: _, [], i, l, hl, h => by simp at hl
 | .tmp u :: rs, t :: ts, i, l, hl, h => by
   simp only [List.zip_cons_cons, uk] at h
   split at h
   ·rename_i v vs hv hvs
    cases h
    obtain ⟨r, hlen, hr⟩ := mp F C gf h1 h2 rs ts (i + 1) vs (by simpa using hl) hvs
    obtain ⟨e1, e2, e3⟩ := aD F hv
    obtain ⟨t1, t2, t3⟩ := bP (P := P) (g := g) (S := S) t v
    refine ⟨⟨?_, ?_, ?_⟩, by simp [hlen], ?_⟩
    ·rw [List.map_cons, r.keys, List.length_cons]; exact uT i vs.length
    ·intro p hp
     rcases List.mem_cons.1 hp with rfl | hp
     ·exact t3 e2
     ·exact r.ok p hp
    ·intro p hp
     rcases List.mem_cons.1 hp with rfl | hp
     ·simp only [t2]; exact e3
     ·exact r.rs p hp
    ·have e4 : a.tmps.getD u undef = aq g v := e1
     rw [List.mapM_cons]
     simp only [Sem.run_bind, h1, Sem.run_pure, Result.andThen_ok, hr, List.map_cons, t1, e4]
   ·cases h
 | .cell u ty :: rs, t :: ts, i, l, hl, h => by
   simp only [List.zip_cons_cons, uk] at h
   split at h
   ·rename_i q vs hv hvs
    split at h
    ·rename_i hq
     cases h
     obtain ⟨r, hlen, hr⟩ := mp F C gf h1 h2 rs ts (i + 1) vs (by simpa using hl) hvs
     obtain ⟨x, hx, hld⟩ := Option.bind_eq_some_iff.1 hv
     obtain ⟨e1, e2, e3⟩ := aD F hx
     obtain ⟨hld, hqp⟩ := E4 hld
     obtain ⟨g', L⟩ := ut F e1 e2 e3 hld hqp
     have hq : q.news = [] := by simpa using hq
     have hok := L.ok
     have hrs := L.rs
     rw [hq, tC] at hok hrs
     have henc : aq g' q.v = aq g q.v := eq _ (fun o ho => L.ext o (hrs o ho))
     obtain ⟨t1, t2, t3⟩ := bP (P := P) (g := g) (S := S) t q.v
     refine ⟨⟨?_, ?_, ?_⟩, by simp [hlen], ?_⟩
     ·rw [List.map_cons, r.keys, List.length_cons]; exact uT i vs.length
     ·intro p hp
      rcases List.mem_cons.1 hp with rfl | hp
      ·exact t3 hok
      ·exact r.ok p hp
     ·intro p hp
      rcases List.mem_cons.1 hp with rfl | hp
      ·simp only [t2]; exact hrs
      ·exact r.rs p hp
     ·have hrun := FC (L.run _ _ _ _ C).2
      have := h2 u ty _ hrun
      rw [List.mapM_cons]
      simp only [Sem.run_bind, this, Result.andThen_ok, hr, Sem.run_pure, List.map_cons, t1, henc]
    ·cases h
   ·cases h
end
theorem wP {g : Env} : ∀ {l : List (Nat × SV)} {vs : List V1}, nD l = some vs → (l.map fun p => aq g p.2) = vs.map (aU g) ∧ ((∀ p ∈ l, kt p.2 = true) → ∀ x ∈ vs, uD x = true) ∧ (∀ m, (∀ p ∈ l, ∀ o ∈ aL p.2, o < m) → ∀ x ∈ vs, ∀ o ∈ bi x, o < m)
 | [], vs, h => by simp only [nD, Option.some.injEq] at h; subst h; exact ⟨rfl, (fun _ x hx => by cases hx), (fun _ _ x hx => by cases hx)⟩
 | (t, .v x) :: l, vs, h => by
   simp only [nD, Option.map_eq_some_iff] at h
   obtain ⟨us, hu, rfl⟩ := h
   obtain ⟨q1, q2, q3⟩ := wP (g := g) hu
   refine ⟨by simp only [List.map_cons, q1]; rfl, fun hn y hy => ?_, fun m hm y hy => ?_⟩
   ·rcases List.mem_cons.1 hy with rfl | hy
    ·exact hn _ (List.mem_cons_self ..)
    ·exact q2 (fun p hp => hn p (List.mem_cons_of_mem _ hp)) y hy
   ·rcases List.mem_cons.1 hy with rfl | hy
    ·exact hm _ (List.mem_cons_self ..)
    ·exact q3 m (fun p hp => hm p (List.mem_cons_of_mem _ hp)) y hy
 | (t, .tup xs) :: l, vs, h => by simp [nD] at h
theorem qV {g : Env} {l : List (Nat × SV)} {r : SV} (h : results l = some r) : aq g r = vH (l.map fun p => aq g p.2) ∧ ((∀ p ∈ l, kt p.2 = true) → kt r = true) ∧ (∀ m, (∀ p ∈ l, ∀ o ∈ aL p.2, o < m) → ∀ o ∈ aL r, o < m) := by
 have tup : ∀ l : List (Nat × SV), l.length ≠ 1 → (nD l).map SV.tup = some r → aq g r = vH (l.map fun p => aq g p.2) ∧ ((∀ p ∈ l, kt p.2 = true) → kt r = true) ∧ (∀ m, (∀ p ∈ l, ∀ o ∈ aL p.2, o < m) → ∀ o ∈ aL r, o < m) := by
  intro l hl h
  obtain ⟨vs, hv, rfl⟩ := Option.map_eq_some_iff.1 h
  obtain ⟨q1, q2, q3⟩ := wP (g := g) hv
  refine ⟨?_, fun hn => List.all_eq_true.2 (q2 hn), fun m hm o ho => ?_⟩
  ·rw [q1]
   have : vs.length ≠ 1 := by have := congrArg List.length q1; simp at this; omega
   match vs, this with
   | [], _ => rfl
   | _ :: _ :: _, _ => rfl
  ·obtain ⟨x, hx, ho⟩ := List.mem_flatMap.1 ho
   exact q3 m hm x hx o ho
 match l, h with
 | [], h => exact tup [] (by simp) h
 | [(t, v)], h =>
   simp only [results, Option.some.injEq] at h
   subst h
   exact ⟨rfl, fun hn => hn _ (List.mem_cons_self ..), fun m hm o ho => hm _ (List.mem_cons_self ..) o ho⟩
 | p :: q :: l, h => exact tup (p :: q :: l) (by simp) h
theorem uU (m : Nat) : ((List.range m).map (rB + ·)).Pairwise (· ≠ ·) := List.pairwise_map.2 (List.pairwise_lt_range.imp (fun h => by omega))
theorem kK : ∀ {l : List (Nat × SV)} {p : Nat × SV}, (l.map (·.1)).Pairwise (· ≠ ·) → p ∈ l → aA l p.1 = some p.2
 | [], p, _, h => by cases h
 | q :: l, p, hn, h => by
   simp only [List.map_cons, List.pairwise_cons] at hn
   rcases List.mem_cons.1 h with e | h
   ·rw [e]; simp [aA]
   ·have hne : q.1 ≠ p.1 := hn.1 p.1 (List.mem_map_of_mem h)
    simp only [aA]
    rw [if_neg (by simpa using hne)]
    exact kK hn.2 h
section
variable {P : Program} {Γ : List Con} {inl : List Nat} {bk : List Bk}
theorem FD {g g' : Env} {γ : Ghost} {S S' S2 : St} {n : Nat} {a a0 : Act} {w0 w : World} {D A : Nat → Prop} {fn : Func} {cc : Cls} {d : Nat → Prop} {y : fC ((cc.cls.map (·.2)).map NSh.codes)}
 (F0 : Fit g γ { S with slots := [], mods := [] } n a0) (F : Fit g' γ S' n a) (C : Cx g' S' w0 D A w) (K : Kp g (aQ S) d g' S') (hw : mg P fn S' = some S2) (hy : HK S.obs.length fn.results.size cc S2 = some y) :
 ∃ v, (Go.results fn a.tmps).run P w = .ok v w ∧ ∃ (i : Nat) (ds : List Dyn) (s : NSh) (N : Nst) (r : SV) (g'' : Env), (∀ (R : Type) (f : Nat → List Dyn → R), ej ((cc.cls.map (·.2)).map NSh.codes) y f = f i ds) ∧ (cc.cls.map (·.2))[i]? = some s ∧ fiN s ds = some N ∧
  Go.Proofs.YtlepjakmadlkjaaGreatDoor.results N.slots = some r ∧ v = aq g'' r ∧ kt r = true ∧ (∀ o ∈ aL r, o < (aB S N).obs.length) ∧ Cal g'' (aB S N) ∧ Cx g'' (aB S N) w0 D A w ∧ Kp g { S with slots := [], mods := [] } (fun _ => True) g'' { aB S N with mods := N.boxes.map (·.1) } := by
 unfold mg at hw
 split at hw
 ·rename_i hsz
  obtain ⟨l, hl, rfl⟩ := Option.map_eq_some_iff.1 hw
  have key := fun gf h1 h2 => mp F C gf h1 h2 fn.results.toList fn.resultTypes.toList 0 l (by simpa using hsz) hl
  have ld : ∀ (t : Nat) (ty : TypeId) (v : Value), (Instr.loadAt ty (a.tmps.getD t undef)).run P w = .ok v w → (do loadVar ty (← asAddr (a.tmps.getD t undef)) : Sem Value).run P w = .ok v w := by
   intro t ty v h
   generalize a.tmps.getD t undef = x at h ⊢
   unfold Instr.loadAt Instr.sureAddr at h
   split at h
   ·rename_i ad; simpa [asAddr] using h
   ·simp [Result.andThen] at h
  obtain ⟨RO, hlen, _⟩ := key (fun r => match r with | .tmp t => pure (a.tmps.getD t undef) | .cell u ty => do loadVar ty (← asAddr (a.tmps.getD u undef))) (fun t => rfl) ld
  have hll : l.length = fn.results.size := by simpa using hlen
  have hkeys : l.map (·.1) = (List.range fn.results.size).map (rB + ·) := by
   rw [RO.keys, hll]
   simp
  refine ⟨vH (l.map fun p => aq g' p.2), ?_, ?_⟩
  ·have e : fn.results = fn.results.toList.toArray := by simp
   unfold Go.results
   rw [e]
   simp only [List.mapM_toArray, Sem.run_bind, Sem.run_map]
   rw [(key _ (fun t => rfl) ld).2.2]
   simp only [Result.andThen_ok, Sem.run_pure]
   generalize (l.map fun p => aq g' p.2) = vs
   match vs with
   | [] => rfl
   | [v] => rfl
   | _ :: _ :: _ => simp [vH]
  unfold HK at hy
  split at hy
  ·rename_i N pl hN
   split at hy
   ·rename_i hc
    simp only [Bool.and_eq_true, decide_eq_true_eq] at hc
    obtain ⟨⟨⟨⟨c1, c2⟩, c3⟩, c4⟩, c5⟩ := hc
    split at hy
    ·rename_i i hi
     obtain ⟨_, s, hs, hle⟩ := mi hi
     rw [Nat.sub_zero] at hs
     obtain ⟨n1, n2, n3⟩ := qM hN
     obtain ⟨N', hf, W⟩ := AU n1 n2 n3 hle
     obtain ⟨r, hr⟩ := Option.isSome_iff_exists.1 c4
     -- the state with its results
     obtain ⟨γ1, hγ1⟩ : ∃ γ1 : Ghost, γ1 = ⟨fun t => if rG ≤ t then undef else match aA l t with | some sv => aq g' sv | none => undef, γ.ds, γ.lo, fun t ht => .inl (if_pos ht)⟩ := ⟨_, rfl⟩
     have hkey : ∀ {t : Nat} {sv : SV}, aA l t = some sv → t ∈ (List.range fn.results.size).map (rB + ·) ∧ (t, sv) ∈ l := fun {t sv} h => by
      have hm := gW h
      exact ⟨by rw [← hkeys]; exact List.mem_map_of_mem hm, hm⟩
     have hbig : ∀ {t : Nat}, t ∈ (List.range fn.results.size).map (rB + ·) → ¬ t < shift := fun {t} h => by
      obtain ⟨j, _, rfl⟩ := List.mem_map.1 h
      simp only [rB, shift]; omega
     have hlow : ∀ {t : Nat}, t ∈ (List.range fn.results.size).map (rB + ·) → ¬ rG ≤ t := fun {t} h => by
      obtain ⟨j, hj, rfl⟩ := List.mem_map.1 h
      have := List.mem_range.1 hj
      simp only [rB, rG, shift]; omega
     have F2 : Fit g' γ1 { S' with slots := l } n a := by
      refine ⟨F.size, F.lo, by rw [hγ1]; exact F.defers, fun t sv h => ?_, F.ob, fun t sv h => RO.ok _ (hkey h).2, fun t sv h => RO.rs _ (hkey h).2, F.rb⟩
      rw [if_neg (hbig (hkey h).1), hγ1]
      have h' : aA l t = some sv := h
      simp only [if_neg (hlow (hkey h).1), h']
     have F1 : Fit g γ1 { S with slots := [], mods := [] } n a0 := ⟨F0.size, F0.lo, by rw [hγ1]; exact F0.defers, (fun t sv h => by cases h), F0.ob, (fun t sv h => by cases h), (fun t sv h => by cases h), F0.rb⟩
     have K2 : Kp g { S with slots := [], mods := [] } (fun t => t ∈ (List.range fn.results.size).map (rB + ·)) g' { S' with slots := l } := by
      refine ⟨K.len, K.vb, K.same, (fun i h => by cases h), fun t ht => ?_, K.rows⟩
      show aA l t = none
      cases hlk : aA l t with
      | none => rfl
      | some sv => exact absurd (hkey hlk).1 ht
     obtain ⟨dfs, hdfs⟩ := zw ((List.range fn.results.size).map (rB + ·))
     obtain ⟨g'', q1, q2, q3⟩ := wJ (S := { S with slots := [], mods := [] }) (base := { S with slots := [], mods := [] }) rfl rfl F1 F2 C K2 (fun t ht => hdfs t ht) hdfs hN c1 c2 W
     have e0 : (fX { S with slots := [], mods := [] } dfs N').to .nil = { aB S N' with mods := N'.boxes.map (·.1) } := by simp [fX, aB, St.to]
     have q1 := fF q1 .nil
     have q2 : Cx g'' ((fX { S with slots := [], mods := [] } dfs N').to .nil) w0 D A w := q2
     have q3 := nH q3 .nil
     rw [e0] at q1 q2 q3
     have hr' : Go.Proofs.YtlepjakmadlkjaaGreatDoor.results N'.slots = some r := by rw [W.slots]; exact hr
     obtain ⟨r1, r2, r3⟩ := qV (g := g'') hr'
     have hNk : N'.slots.map (·.1) = (List.range fn.results.size).map (rB + ·) := by rw [W.slots]; exact c3
     have nd1 : (N'.slots.map (·.1)).Pairwise (· ≠ ·) := by rw [hNk]; exact uU _
     have nd2 : (l.map (·.1)).Pairwise (· ≠ ·) := by rw [hkeys]; exact uU _
     have hrs : ∀ p ∈ N'.slots, ∀ o ∈ aL p.2, o < (aB S N').obs.length := fun p hp => q1.rs p.1 p.2 (kK nd1 hp)
     have hn' : ∀ p ∈ N'.slots, kt p.2 = true := by rw [W.slots]; exact n1
     refine ⟨i, coN N, s, N', r, g'', fun R f => rW hy, by simp [hs], hf, hr', ?_, r2 hn', r3 _ hrs, ⟨q1.ob, hn', hrs, q1.rb⟩, q2, ?_⟩
     ·rw [r1]
      congr 1
      apply List.ext_getElem?
      intro j
      simp only [List.getElem?_map]
      have hk : (l.map (·.1))[j]? = (N'.slots.map (·.1))[j]? := by rw [hkeys, hNk]
      simp only [List.getElem?_map] at hk
      cases h1 : l[j]? with
      | none =>
        rw [h1] at hk
        cases h2 : N'.slots[j]? with
        | none => rfl
        | some q => rw [h2] at hk; cases hk
      | some p =>
        rw [h1] at hk
        cases h2 : N'.slots[j]? with
        | none => rw [h2] at hk; cases hk
        | some q =>
          rw [h2] at hk
          simp only [Option.map_some, Option.some.injEq] at hk ⊢
          have h3 := kK nd2 (List.mem_of_getElem? h1)
          have h4 := q1.sl q.1 q.2 (kK nd1 (List.mem_of_getElem? h2))
          rw [← hk, if_neg (hbig (hkey h3).1), hγ1] at h4
          simpa only [if_neg (hlow (hkey h3).1), h3] using h4
     ·exact ⟨q3.len, q3.vb, q3.same, (fun i hi => by cases hi), (fun t ht => absurd trivial ht), q3.rows⟩
    ·cases hy
   ·cases hy
  ·cases hy
 ·cases hw
end
def mq (fn : Func) (args : List Value) : Act := { tmps := args.toArray ++ Array.replicate (fn.ntmps - args.length) undef, defers := [] }
theorem uV {P : Program} {f : FuncId} {fn : Func} {body : Code} {args : List Value} {R : Ending → World → Prop} {w : World} (hf : P.funcs[f]? = some fn) (hb : fn.body = some body)
 (h : body.wpIn (FR none) 3 P (bodyPostM (FR none) 3 P fn R) (mq fn args) w) : Calls P f args.toArray w R := by
 have hc : CallsIn (FR none) 3 P f args.toArray w R := callsIn_of_wp_marks (F := FR none) hf hb trivial (by simpa [mq] using h) rfl
 exact callsIn_wide.1 (show CallsIn Fence.wide 3 P f args.toArray w R from hc)
theorem mr {P : Program} {fn : Func} {tmps : Array Value} {R : Ending → World → Prop} {g : Env} {S : St} {w0 : World} {D A : Nat → Prop} :
 ∀ (Ds : List Nat) (w : World), Ds.Pairwise (· ≠ ·) → (∀ D ∈ Ds, w0.heap.size ≤ D ∧ w.heap[D]? = some (.deferred (some []))) → Cx g S w0 D A w →
  (∀ w', Cx g S w0 D A w' → ∃ v, (Go.results fn tmps).run P w' = .ok v w' ∧ R (.returned v) w') → LeavesInM (FR none) 3 P fn tmps R (Ds.map mn) .returning w
 | [], w, _, _, C, h => by
   obtain ⟨v, h1, h2⟩ := h w C
   exact ⟨v, h1, h2⟩
 | d :: Ds, w, hn, hD, C, h => by
   have hd := hD d (List.mem_cons_self ..)
   have hn := List.pairwise_cons.1 hn
   refine ⟨by simp, .inl ⟨d, _, rfl, run_takeDeferred hd.2, ?_⟩⟩
   refine mr Ds _ hn.2 (fun D' hD' => ?_) (oK C hd.2 rfl hd.1) h
   rw [World.putObj_heap_other (fun e => hn.1 D' hD' e.symm)]
   exact hD D' (List.mem_cons_of_mem _ hD')
theorem wQ {fn : Func} {args : List Value} {t : Nat} (h : t < args.length) : (mq fn args).tmps[t]? = args[t]? := by
 simp only [mq]
 rw [Array.getElem?_append_left (by simpa using h)]
 simp
theorem uW {fn : Func} {args : List Value} (h : args.length ≤ fn.ntmps) : (mq fn args).tmps.size = fn.ntmps := by
 simp [mq]; omega
theorem H5 {pat : NSh} {x : HL pat.codes} {S : St} (h : iV pat x = some S) : S.slots.length = pat.slots.length := by
 unfold iV at h
 obtain ⟨N, hN, rfl⟩ := Option.map_eq_some_iff.1 h
 unfold fiN at hN
 split at hN
 ·rename_i sl ds1 h1
  split at hN
  ·obtain ⟨⟨os, d⟩, _, rfl⟩ := Option.map_eq_some_iff.1 hN
   simp [fX, pO h1]
  ·cases hN
 ·cases hN
section
variable {P : Program} {Γ : List Con} {inl : List Nat} {bk : List Bk}
theorem H6 (hm : P.follows .mixedOrders = true) (hbk : ∀ B ∈ bk, BkOk P B) {H : Nat → Inl} (hc : ∀ k, dg P (fun R A S f xs K => nE A P Γ k S f xs K)) (hi : ∀ k, dg P (fun R A S f xs K => H k f (cP P f xs) R A S K))
 {f : Nat} {fn : Func} {body : Code} {pat : NSh} {cc : Cls} {pl : Plan} (hf : P.funcs[f]? = some fn) (hb : fn.body = some body) (hg : sS P f pat.slots.length = true) :
 al P ⟨f, pat, cc.cls.map (·.2), fun k x => Kf P Γ inl (H k) bk k fn body pat cc pl x⟩ := by
 intro k x y S m gs hrun hpat hkeys hgb g w D A CAL C hglob
 simp only [sS, hf, hb, Bool.and_eq_true, decide_eq_true_eq] at hg
 obtain ⟨⟨hok, hsh⟩, hlen⟩ := hg
 simp only [Kf, hpat] at hrun
 obtain ⟨args, hargs⟩ : ∃ args, args = (S.slots.take m).map fun p => aq g p.2 := ⟨_, rfl⟩
 have hsl : S.slots.length = pat.slots.length := H5 hpat
 have hml : S.slots.length = m + gs.length := by
  have := congrArg List.length hkeys
  simpa using this
 have hal : args.length = m := by rw [hargs, List.length_map, List.length_take]; omega
 have hle : args.length ≤ fn.ntmps := by omega
 rw [← hargs]
 have hS : ∀ {t : Nat} {sv : SV}, aA S.slots t = some sv → (t < m ∧ args[t]? = some (aq g sv)) ∨ (∃ b, t = rG + b ∧ b < shift ∧ aq g sv = .pointer (some ⟨b, 0, none⟩)) := by
  intro t sv h
  obtain ⟨i, hi⟩ := List.mem_iff_getElem?.1 (gW h)
  have hk := congrArg (·[i]?) hkeys
  simp only [List.getElem?_map, hi, Option.map_some] at hk
  rcases Nat.lt_or_ge i m with him | him
  ·left
   rw [List.getElem?_append_left (by simpa using him), List.getElem?_range him] at hk
   simp only [Option.some.injEq] at hk
   subst hk
   exact ⟨him, by rw [hargs, List.getElem?_map, List.getElem?_take_of_lt him, hi]; rfl⟩
  ·right
   rw [List.getElem?_append_right (by simpa using him), List.length_range, List.getElem?_map] at hk
   obtain ⟨b, hb1, hb2⟩ := Option.map_eq_some_iff.1 hk.symm
   have hmem : (t, sv) ∈ S.slots.drop m := List.mem_of_getElem? (i := i - m) (by rw [List.getElem?_drop, show m + (i - m) = i by omega]; exact hi)
   have he := hglob _ hmem
   have hb2 : rG + b = t := hb2
   refine ⟨b, hb2.symm, hgb b (List.mem_of_getElem? hb1), ?_⟩
   rw [← hb2] at he
   rw [Nat.add_sub_cancel_left] at he
   exact he
 obtain ⟨γ0, gk, gds, glo⟩ : ∃ γ0 : Ghost, (∀ t sv, rG ≤ t → aA S.slots t = some sv → γ0.f t = aq g sv) ∧ γ0.ds = [] ∧ γ0.lo = w.heap.size := by
  refine ⟨⟨fun t => if rG ≤ t then (match aA S.slots t with | some sv => aq g sv | none => undef) else undef, [], w.heap.size, fun t ht => ?_⟩, fun t sv ht h => ?_, rfl, rfl⟩
  ·rw [if_pos ht]
   cases hl : aA S.slots t with
   | none => exact .inl rfl
   | some sv =>
     right
     rcases hS hl with ⟨h1, _⟩ | ⟨b, h1, h2, h3⟩
     ·simp only [rG, shift] at ht hsh; omega
     ·simp only
      rw [h3]
      have : t % shift = b := by simp only [rG, shift] at h1 h2 ⊢; omega
      rw [this]
  ·simp only
   rw [if_pos ht, h]
 have F0 : Fit g γ0 (aQ S) fn.ntmps (mq fn args) := by
  refine ⟨uW hle, hsh, gds.symm, fun t sv h => ?_, CAL.ob, fun t sv h => Kq (CAL.ok _ (gW h)), fun t sv h => CAL.rs _ (gW h), CAL.rb⟩
  rcases hS h with ⟨h1, h2⟩ | ⟨b, h1, h2, h3⟩
  ·rw [if_pos (by omega), wQ (by omega)]
   exact h2
  ·have hr : rG ≤ t := by omega
   rw [if_neg (by simp only [rG, shift] at hr ⊢; omega)]
   exact gk t sv hr h
 refine uV hf hb ?_
 refine uM (Γ := Γ) (inl := inl) (bk := bk) (H := H k) (k := k) hm (hc k) (hi k) hbk body none [] (tB fn) 0 hok (.inl rfl) hrun (fF F0 _) C ⟨by rw [glo]; exact Nat.le_refl _, [], by rw [gds]; rfl, List.Pairwise.nil, fun _ h => by cases h⟩ (fun g' γ' S' e a' w' h1 F' C' M' hf' K' => ?_)
 have fin : ∀ S2, mg P fn S' = some S2 → HK S.obs.length fn.results.size cc S2 = some y → bodyPostM (FR none) 3 P fn (fun e w' => ∃ v, e = .returned v ∧ ∃ (i : Nat) (ds : List Dyn) (s : NSh) (N : Nst) (r : SV) (g' : Env), (∀ (R : Type) (f : Nat → List Dyn → R), ej ((cc.cls.map (·.2)).map NSh.codes) y f = f i ds) ∧ (cc.cls.map (·.2))[i]? = some s ∧ fiN s ds = some N ∧
  Go.Proofs.YtlepjakmadlkjaaGreatDoor.results N.slots = some r ∧ v = aq g' r ∧ kt r = true ∧ (∀ o ∈ aL r, o < (aB S N).obs.length) ∧ Cal g' (aB S N) ∧ Cx g' (aB S N) w D A w' ∧ Kp g { S with slots := [], mods := [] } (fun _ => True) g' { aB S N with mods := N.boxes.map (·.1) }) .ret a' w' := by
  intro S2 h2 h3
  have F1 : Fit g γ' { S with slots := [], mods := [] } fn.ntmps { mq fn args with defers := γ'.ds } := ⟨F0.size, F0.lo, rfl, (fun t sv h => by cases h), F0.ob, (fun t sv h => by cases h), (fun t sv h => by cases h), F0.rb⟩
  obtain ⟨_, Ds, d1, d2, d3⟩ := M'
  have hlo : γ'.lo = w.heap.size := hf'.lo.trans glo
  show LeavesInM (FR none) 3 P fn a'.tmps _ a'.defers .returning w'
  rw [F'.defers, d1]
  refine mr Ds w' d2 (fun D' hD' => by rw [← hlo]; exact d3 D' hD') C' (fun w2 C2 => ?_)
  obtain ⟨v, q1, q2⟩ := FD F1 F' C2 K'.of_to h2 h3
  exact ⟨v, q1, v, rfl, q2⟩
 cases e with
 | exit i => cases h1
 | normal =>
   simp only at h1
   split at h1
   ·rename_i S2 h2; exact fin S2 h2 h1
   ·cases h1
 | ret =>
   simp only at h1
   split at h1
   ·rename_i S2 h2; exact fin S2 h2 h1
   ·cases h1
end
theorem Cl : ∀ (l : List (Nat × SV)) (t : Nat), aA (kC l) (t + shift) = aA l t
 | [], t => rfl
 | (i, v) :: l, t => by
   have ih := Cl l t
   simp only [kC, List.map_cons, aA] at ih ⊢
   by_cases e : i = t
   ·subst e; simp
   ·have : ¬ i + shift = t + shift := by omega
    simp [e, this, ih]
theorem uX : ∀ (l : List (Nat × SV)) (t : Nat), t < shift → aA (kC l) t = none
 | [], t, _ => rfl
 | (i, v) :: l, t, h => by
   have ih := uX l t h
   simp only [kC, List.map_cons, aA] at ih ⊢
   have : ¬ i + shift = t := by omega
   simp [this, ih]
theorem lL : ∀ (l : List (Nat × SV)) (t : Nat), aA (gF l) t = aA l (t + shift)
 | [], t => rfl
 | (i, v) :: l, t => by
   have ih := lL l t
   simp only [gF, List.filter_cons, aA] at ih ⊢
   by_cases hi : shift ≤ i
   ·rw [if_pos (by simpa using hi)]
    simp only [List.map_cons, aA, ih]
    by_cases e : i - shift = t
    ·have : i = t + shift := by omega
     simp [e, this]
    ·have : ¬ i = t + shift := by omega
     simp [e, this]
   ·rw [if_neg (by simpa using hi), ih]
    have : ¬ i = t + shift := by omega
    simp [this]
theorem zx (xs : List SV) : ∀ (b t : Nat), b + xs.length ≤ t → aA (bW b xs) t = none := by
 induction xs with
 | nil => intro b t _; rfl
 | cons x xs ih =>
   intro b t h
   simp only [bW, aA]
   simp only [List.length_cons] at h
   rw [if_neg (by simp; omega)]
   exact ih (b + 1) t (by omega)
theorem H7 {n : Nat} : ∀ {c : Code} {t : Nat}, okC n c = true → bit (im c) t = true → t < n := by
 have ops : ∀ {os : List Oper} {t : Nat}, wt n os = true → bit (jw os) t = true → t < n := by
  intro os t
  induction os with
  | nil => intro _ h; simp [jw, bit] at h
  | cons o os ih =>
    intro hok h
    simp only [jw] at h
    rcases iw.1 h with h | h
    ·cases hd : o.dst with
     | none => rw [hd] at h; simp [bit] at h
     | some d =>
       rw [hd] at h
       have h1 : d < n := pT hok o (List.mem_cons_self ..) d hd
       have h2 : bit (1 <<< d) t = true := h
       rw [bit, Nat.one_shiftLeft, Nat.testBit_two_pow] at h2
       have h3 : d = t := by simpa using h2
       exact h3 ▸ h1
    ·simp only [wt, List.all_cons, Bool.and_eq_true] at hok
     exact ih hok.2 h
 have zero : ∀ t, bit 0 t = true → False := fun t h => by simp [bit] at h
 intro c
 induction c with
 | region id os d => intro t hok h; exact ops hok h
 | seq a b iha ihb => intro t hok h; simp only [okC, Bool.and_eq_true] at hok; rcases iw.1 h with h | h; exact iha hok.1 h; exact ihb hok.2 h
 | cond c a b iha ihb => intro t hok h; simp only [okC, Bool.and_eq_true] at hok; rcases iw.1 h with h | h; exact iha hok.1 h; exact ihb hok.2 h
 | block i b ih => intro t hok h; exact ih hok h
 | loop b ih => intro t hok h; exact ih hok h
 | scope b ih => intro t hok h; exact ih hok h
 | rangeFunc f ps x y ihx ihy =>
   intro t hok h
   simp only [okC, Bool.and_eq_true] at hok
   obtain ⟨⟨⟨⟨hps, hx⟩, hy⟩, _⟩, _⟩ := hok
   have xB : ∀ (l : List Nat) (b : Nat), bit (l.foldl (fun x p => x ||| (1 <<< p)) b) t = true → bit b t = true ∨ t ∈ l := by
    intro l
    induction l with
    | nil => intro b h; exact .inl h
    | cons p l ih =>
      intro b h
      rcases ih _ h with h | h
      ·rcases iw.1 h with h | h
       ·exact .inl h
       ·refine .inr ?_
        rw [bit, Nat.one_shiftLeft, Nat.testBit_two_pow] at h
        have : p = t := by simpa using h
        rw [this]; exact List.mem_cons_self ..
      ·exact .inr (List.mem_cons_of_mem _ h)
   rcases iw.1 h with h | h
   ·rcases iw.1 h with h | h
    ·rcases xB _ _ h with h | h
     ·exact (zero t h).elim
     ·have := Array.all_eq_true'.1 hps t (by simpa using h)
      simpa using this
    ·exact ihx hx h
   ·exact ihy hy h
 | _ => intro t hok h; exact (zero t h).elim
theorem Be {S : St} {l : List (Nat × SV)} {r : SV} (h : results l = some r) (hk : ∀ p ∈ l, okS S p.2) : okS S r := by
 have key : ∀ {l : List (Nat × SV)} {vs : List V1}, nD l = some vs → (∀ p ∈ l, okS S p.2) → ∀ x ∈ vs, okV S x := by
  intro l
  induction l with
  | nil => intro vs h _ x hx; simp only [nD, Option.some.injEq] at h; subst h; cases hx
  | cons p l ih =>
    intro vs h hk
    obtain ⟨t, v⟩ := p
    cases v with
    | tup xs => simp [nD] at h
    | v y =>
      simp only [nD, Option.map_eq_some_iff] at h
      obtain ⟨us, hu, rfl⟩ := h
      intro x hx
      rcases List.mem_cons.1 hx with rfl | hx
      ·exact hk _ (List.mem_cons_self ..)
      ·exact ih hu (fun p hp => hk p (List.mem_cons_of_mem _ hp)) x hx
 match l, h with
 | [], h =>
   have h : (nD []).map SV.tup = some r := h
   obtain ⟨vs, hv, rfl⟩ := Option.map_eq_some_iff.1 h; exact key hv hk
 | [(t, v)], h => simp only [results, Option.some.injEq] at h; subst h; exact hk _ (List.mem_cons_self ..)
 | p :: q :: l, h =>
   have h : (nD (p :: q :: l)).map SV.tup = some r := h
   obtain ⟨vs, hv, rfl⟩ := Option.map_eq_some_iff.1 h; exact key hv hk
section
variable {P : Program} {Γ : List Con} {inl : List Nat} {bk : List Bk}
theorem Kr (hm : P.follows .mixedOrders = true) (hbk : ∀ B ∈ bk, BkOk P B) {k : Nat} (hc : dg P (fun R A S f xs K => nE A P Γ k S f xs K)) :
 ∀ d, dg P (fun R A S f xs K => CT P Γ inl bk k d f (cP P f xs) R A S K) := by
 intro d
 induction d with
 | zero =>
   intro α K out g γ S n a w0 w D A f xs h
   simp [CT, ax] at h
 | succ d ih =>
   intro α K out g γ S n a w0 w D A f xs h F C hxs
   obtain ⟨t1, t2⟩ := qP (P := P) (g := g) (S := S) f xs
   have hxs' := t2 hxs
   rw [← t1]
   simp only [CT] at h
   generalize cP P f xs = ys at h hxs' ⊢
   split at h
   ·rename_i fn hf
    split at h
    ·rename_i body hb
     split at h
     ·rename_i hg
      rw [Bool.and_eq_true] at hg
      obtain ⟨hg, hgap⟩ := hg
      simp only [sS, hf, hb, Bool.and_eq_true, decide_eq_true_eq] at hg
      obtain ⟨⟨hok, hsh⟩, hlen⟩ := hg
      obtain ⟨args, hargs⟩ : ∃ args, args = ys.map (aq g) := ⟨_, rfl⟩
      have hal : args.length = ys.length := by rw [hargs]; simp
      rw [← hargs]
      obtain ⟨γ1, gk, gds, glo⟩ : ∃ γ1 : Ghost, (∀ t sv, aA S.slots t = some sv → γ1.f (t + shift) = aq g sv) ∧ γ1.ds = [] ∧ γ1.lo = w.heap.size := by
       refine ⟨⟨fun t => if rG + shift ≤ t then γ.f (t - shift) else if rG ≤ t then undef else match aA S.slots (t - shift) with | some sv => aq g sv | none => undef, [], w.heap.size, fun t ht => ?_⟩, fun t sv h => ?_, rfl, rfl⟩
       ·by_cases h : rG + shift ≤ t
        ·rw [if_pos h]
         have h1 := γ.gp (t - shift) (by omega)
         rwa [← Nat.mod_eq_sub_mod (show t ≥ shift by omega)] at h1
        ·rw [if_neg h, if_pos ht]; exact .inl rfl
       ·have hb : t + shift < rG ∨ rG ≤ t := by
         have := List.all_eq_true.1 hgap _ (gW h)
         simpa using this
        simp only
        by_cases hr : rG ≤ t
        ·rw [if_pos (by omega), Nat.add_sub_cancel]
         have := F.sl t sv h
         rwa [if_neg (by simp only [rG] at hr; omega)] at this
        ·rw [if_neg (by omega), if_neg (by omega), Nat.add_sub_cancel, h]
      obtain ⟨S1, hS1⟩ : ∃ S1 : St, S1 = { S with slots := bW 0 ys ++ kC S.slots } := ⟨_, rfl⟩
      rw [← hS1] at h
      have lo : ∀ {t : Nat}, t < shift → aA S1.slots t = aA (bW 0 ys) t := fun {t} ht => by
       rw [hS1]
       show aA (bW 0 ys ++ kC S.slots) t = _
       rw [jS, uX _ _ ht]; simp
      have hi : ∀ t, aA S1.slots (t + shift) = aA S.slots t := fun t => by
       rw [hS1]
       show aA (bW 0 ys ++ kC S.slots) (t + shift) = _
       rw [jS, zx ys 0 (t + shift) (by omega), Cl]; simp
      have num : ∀ {t : Nat} {sv : SV}, aA (bW 0 ys) t = some sv → ys[t]? = some sv := fun {t sv} h => by
       have := kX ys 0 t
       rw [Nat.zero_add] at this
       rw [← this]; exact h
      have cases_ : ∀ {t : Nat} {sv : SV}, aA S1.slots t = some sv → (t < shift ∧ ys[t]? = some sv) ∨ (∃ u, t = u + shift ∧ aA S.slots u = some sv) := fun {t sv} h => by
       rcases Nat.lt_or_ge t shift with ht | ht
       ·rw [lo ht] at h; exact .inl ⟨ht, num h⟩
       ·obtain ⟨u, rfl⟩ : ∃ u, t = u + shift := ⟨t - shift, by omega⟩
        rw [hi] at h
        exact .inr ⟨u, rfl, h⟩
      have F1 : Fit g γ1 S1 fn.ntmps (mq fn args) := by
       refine ⟨uW (by omega), hsh, gds.symm, fun t sv h => ?_, by rw [hS1]; exact F.ob, fun t sv h => ?_, fun t sv h => ?_, by rw [hS1]; exact F.rb⟩
       ·rcases cases_ h with ⟨ht, hy⟩ | ⟨u, rfl, hu⟩
        ·have hlt := (List.getElem?_eq_some_iff.1 hy).1
         rw [if_pos ht, wQ (by omega), hargs, List.getElem?_map, hy]; rfl
        ·rw [if_neg (by omega)]
         exact gk u sv hu
       ·rcases cases_ h with ⟨ht, hy⟩ | ⟨u, rfl, hu⟩
        ·have := (hxs' sv (List.mem_of_getElem? hy)).1
         rw [hS1]; cases sv <;> exact this
        ·have := F.ok u sv hu
         rw [hS1]; cases sv <;> exact this
       ·rcases cases_ h with ⟨ht, hy⟩ | ⟨u, rfl, hu⟩
        ·have := (hxs' sv (List.mem_of_getElem? hy)).2
         rw [hS1]; exact this
        ·have := F.rs u sv hu
         rw [hS1]; exact this
      have C1 : Cx g S1 w0 D A w := by rw [hS1]; exact C
      refine uV hf hb ?_
      refine uM (Γ := Γ) (inl := inl) (bk := bk) (H := CT P Γ inl bk k d) (k := k) hm hc ih hbk body none [] (tB fn) 0 hok (.inl rfl) h F1 (qS C1) ⟨by rw [glo]; exact Nat.le_refl _, [], by rw [gds]; rfl, List.Pairwise.nil, fun _ h => by cases h⟩ (fun g' γ' S' e a' w' h1 F' C' M' hf' K' => ?_)
      have fin : ∀ S2 v, mg P fn S' = some S2 → results S2.slots = some v → K { S' with slots := gF S'.slots } v = some out → bodyPostM (FR none) 3 P fn (fun e w' => ∃ v, e = .returned v ∧ Post g γ S n a w0 D A K out v w') .ret a' w' := by
       intro S2 v hw hv hk
       obtain ⟨_, Ds, d1, d2, d3⟩ := M'
       have hlo : γ'.lo = w.heap.size := by rw [hf'.lo, glo]
       show LeavesInM (FR none) 3 P fn a'.tmps _ a'.defers .returning w'
       rw [F'.defers, d1]
       refine mr Ds w' d2 (fun D' hD' => by rw [← hlo]; exact d3 D' hD') C' (fun w2 C2 => ?_)
       unfold mg at hw
       split at hw
       ·rename_i hsz
        obtain ⟨l, hl, rfl⟩ := Option.map_eq_some_iff.1 hw
        have key := fun gf h1 h2 => mp F' C2 gf h1 h2 fn.results.toList fn.resultTypes.toList 0 l (by simpa using hsz) hl
        have ld : ∀ (t : Nat) (ty : TypeId) (v : Value), (Instr.loadAt ty (a'.tmps.getD t undef)).run P w2 = .ok v w2 → (do loadVar ty (← asAddr (a'.tmps.getD t undef)) : Sem Value).run P w2 = .ok v w2 := by
         intro t ty v h
         generalize a'.tmps.getD t undef = x at h ⊢
         unfold Instr.loadAt Instr.sureAddr at h
         split at h
         ·rename_i ad; simpa [asAddr] using h
         ·simp [Result.andThen] at h
        obtain ⟨RO, hlen', _⟩ := key (fun r => match r with | .tmp t => pure (a'.tmps.getD t undef) | .cell u ty => do loadVar ty (← asAddr (a'.tmps.getD u undef))) (fun t => rfl) ld
        obtain ⟨r1, _, r3⟩ := qV (g := g') hv
        have keep : ∀ t, aA S'.slots (t + shift) = aA S.slots t := fun t => by
         rw [K'.slots (t + shift) (fun hb => by have := H7 hok hb; omega), hi]
        refine ⟨vH (l.map fun p => aq g' p.2), ?_, _, rfl, g', _, v, hk, r1.symm, ?_, (show Cx g' S' w0 D A w2 from qR C1 C2), ?_, ?_, ?_⟩
        ·have e : fn.results = fn.results.toList.toArray := by simp
         unfold Go.results
         rw [e]
         simp only [List.mapM_toArray, Sem.run_bind, Sem.run_map]
         rw [(key _ (fun t => rfl) ld).2.2]
         simp only [Result.andThen_ok, Sem.run_pure]
         generalize (l.map fun p => aq g' p.2) = vs
         match vs with
         | [] => rfl
         | [v] => rfl
         | _ :: _ :: _ => simp [vH]
        ·refine ⟨F.size, F.lo, F.defers, fun t sv h => ?_, F'.ob, fun t sv h => ?_, fun t sv h => ?_, F'.rb⟩
         ·have h' : aA (gF S'.slots) t = some sv := h
          rw [lL] at h'
          obtain ⟨u, hu⟩ : ∃ u, u = t + shift := ⟨_, rfl⟩
          have hu1 : ¬ u < shift := by rw [hu]; exact Nat.not_lt.2 (Nat.le_add_left _ _)
          have hu2 : u - shift = t := by rw [hu]; exact Nat.add_sub_cancel ..
          have h'' : aA S'.slots u = some sv := by rw [hu]; exact h'
          have h2 := F'.sl u sv h''
          rw [if_neg hu1, hf'.f, hu] at h2
          rw [keep] at h'
          rw [gk t sv h'] at h2
          have h3 := F.sl t sv h'
          rwa [h2] at h3
         ·have h' : aA (gF S'.slots) t = some sv := h
          rw [lL] at h'
          have := F'.ok _ sv h'
          cases sv <;> exact this
         ·have h' : aA (gF S'.slots) t = some sv := h
          rw [lL] at h'
          exact F'.rs (t + shift) sv h'
        ·have := Be (S := S') hv RO.ok
         cases v <;> exact this
        ·exact r3 _ RO.rs
        ·have hl0 : S1.obs.length = S.obs.length := by rw [hS1]
         refine ⟨by have := K'.len; rwa [hl0] at this, fun i hi => K'.vb i (by rw [hl0]; exact hi), fun i hi hm => ?_, fun i hi => K'.mods i (by rw [hS1]; exact hi), fun t _ => ?_, fun i hi => ?_⟩
         ·have := K'.same i (by rw [hl0]; exact hi) hm
          rw [hS1] at this
          exact this
         ·show aA (gF S'.slots) t = _
          rw [lL, keep]
         ·have := K'.rows i (by rw [hl0]; exact hi)
          rw [hS1] at this
          exact this
       ·cases hw
      cases e with
      | exit i => simp [ax] at h1
      | normal =>
        simp only at h1
        split at h1
        ·rename_i S2 h2
         split at h1
         ·rename_i v hv; exact fin S2 v h2 hv h1
         ·simp [ax] at h1
        ·simp [ax] at h1
      | ret =>
        simp only at h1
        split at h1
        ·rename_i S2 h2
         split at h1
         ·rename_i v hv; exact fin S2 v h2 hv h1
         ·simp [ax] at h1
        ·simp [ax] at h1
     ·simp [ax] at h
    ·simp [ax] at h
   ·simp [ax] at h
theorem zy (hm : P.follows .mixedOrders = true) (hbk : ∀ B ∈ bk, BkOk P B) (hΓ : ∀ c ∈ Γ, al P c) {f : Nat} {pat : NSh} {c : Cls} {pl : Plan} (hg : sS P f pat.slots.length = true) : al P (yQ P Γ inl bk f pat c pl) := by
 have hg' := hg
 unfold sS at hg
 split at hg
 ·rename_i fn hf
  split at hg
  ·rename_i body hb
   unfold yQ
   simp only [hf, hb]
   exact H6 hm hbk (fun k => uS hΓ) (fun k => Kr hm hbk (uS hΓ) _) hf hb hg'
  ·cases hg
 ·cases hg
end
abbrev ieq (a b : Int) : Bool := a == b
abbrev ine (a b : Int) : Bool := a != b
abbrev ilt (a b : Int) : Bool := decide (a < b)
abbrev ile (a b : Int) : Bool := decide (a ≤ b)
abbrev igt (a b : Int) : Bool := decide (a > b)
abbrev ige (a b : Int) : Bool := decide (a ≥ b)
abbrev cZ (s : ByteArray) : Int := (s.size : Int)
abbrev ae {α : Type} (l : List α) : Int := (l.length : Int)
abbrev bA {α : Type} (l : List α) (i : Int) (x : α) : List α := l.set i.toNat x
abbrev dh {α : Type} (h : Int) (l : List α) : List α := l.take h.toNat
abbrev ta {α : Type} (h : Int) (l : List α) : List α := l.drop h.toNat
abbrev FE {α : Type} (n : Int) (x : α) : List α := List.replicate n.toNat x
abbrev FF (s : ByteArray) (l h : Int) : ByteArray := s.extract l.toNat h.toNat
abbrev aG : ByteArray := ⟨#[]⟩
abbrev Mh (n : Nat) : ByteArray := ⟨(List.replicate n 0).toArray⟩
abbrev nz (b : Int) : Prop := b ≠ 0
abbrev nn (b : Int) : Prop := 0 ≤ b
abbrev inR (i n : Int) : Prop := 0 ≤ i ∧ i < n
abbrev bJ (a b : ByteArray) : Prop := a.size + b.size ≤ 9223372036854775807
abbrev FG (l h n : Int) : Prop := 0 ≤ l ∧ l ≤ h ∧ h ≤ n
abbrev dv (l h n m : Int) : Prop := 0 ≤ l ∧ l ≤ h ∧ h ≤ n ∧ m = h
abbrev Le (h n : Int) : Prop := 0 ≤ h ∧ h ≤ n
abbrev bc {α : Type} (a b : List α) (y : Nat) : Prop := (a.length + b.length) * y ≤ 140737488355328
abbrev xT {α : Type} (x : α) : List α := [x]
abbrev Bf {α : Type} (a b : List α) (y : Nat) : Prop := (a.length + b.length) * y ≤ 140737488355328 ∧ (false = true → b.length ≠ 0)
abbrev FH {α : Type} (a b : List α) (y : Nat) : Prop := (a.length + b.length) * y ≤ 140737488355328 ∧ (true = true → b.length ≠ 0)
abbrev Bg (h n m : Int) : Prop := h = n ∧ m = h
abbrev L1 (n c : Int) (y : Nat) : Prop := 0 ≤ n ∧ c = n ∧ n.toNat * y ≤ 140737488355328 ∧ n ≤ 9223372036854775807
abbrev FI (b : ByteArray) : Prop := b.size ≤ 9223372036854775807
abbrev af {α : Type} (p : Prop) [Decidable p] (x : Option α) : Option α := if p then x else none
theorem gI {α : Type} {p : Prop} [Decidable p] {x : Option α} {y : α} : af p x = some y ↔ p ∧ x = some y := by
 unfold af
 split <;> simp_all
theorem aa {α : Type} {p : Prop} [Decidable p] {x : Option α} (h : p) : af p x = x := if_pos h
theorem Bh {P : Program} : ∀ c ∈ ([] : List Con), al P c := fun c h => by cases h
theorem ah {P : Program} {c : Con} {l : List Con} (h : al P c) (hl : ∀ c ∈ l, al P c) : ∀ d ∈ c :: l, al P d := fun d hd => by
 rcases List.mem_cons.1 hd with rfl | hd
 ·exact h
 ·exact hl d hd
theorem Ks {P : Program} {a b : Con} (e : a = b) (h : al P a) : al P b := e ▸ h
theorem zA : ∀ {xs : List (Nat × SSh)} {ds ds' : List Dyn} {ys : List (Nat × SV)}, bo (fiP fiS) xs ds = some (ys, ds') → ys.map (·.1) = xs.map (·.1)
 | [], ds, ds', ys, h => by simp only [bo, Option.some.injEq, Prod.mk.injEq] at h; obtain ⟨rfl, _⟩ := h; rfl
 | x :: xs, ds, ds', ys, h => by
   simp only [bo] at h
   split at h
   ·rename_i y ds1 h1
    split at h
    ·rename_i h2
     simp only [Option.some.injEq, Prod.mk.injEq] at h
     obtain ⟨rfl, _⟩ := h
     have e : y.1 = x.1 := by
      simp only [fiP, Option.map_eq_some_iff] at h1
      obtain ⟨_, _, h1⟩ := h1
      simp only [Prod.mk.injEq] at h1
      rw [← h1.1]
     simp [zA h2, e]
    ·cases h
   ·cases h
theorem FJ {pat : NSh} {x : HL pat.codes} {S : St} (h : iV pat x = some S) : S.slots.map (·.1) = pat.slots.map (·.1) := by
 unfold iV at h
 obtain ⟨N, hN, rfl⟩ := Option.map_eq_some_iff.1 h
 unfold fiN at hN
 split at hN
 ·rename_i sl ds1 h1
  split at hN
  ·obtain ⟨⟨os, d⟩, _, rfl⟩ := Option.map_eq_some_iff.1 hN
   simp only [fX]
   simpa using zA h1
  ·cases hN
 ·cases hN
theorem oM {P : Program} {c : Con} (hk : ∀ t ∈ c.pat.slots.map (·.1), t < rG)
 (h : ∀ (k : Nat) (x : HL c.pat.codes) (y : fC (c.out.map NSh.codes)) (S : St), c.f k x = some y → iV c.pat x = some S → S.slots.map (·.1) = List.range S.slots.length →
 ∀ (g : Env) (w : World) (D A : Nat → Prop), Cal g S → Cx g S w D A w →
  Fn P c.fn (S.slots.map fun p => aq g p.2) w (fun v w' => ∃ (i : Nat) (ds : List Dyn) (s : NSh) (N : Nst) (r : SV) (g' : Env), (∀ (R : Type) (f : Nat → List Dyn → R), ej (c.out.map NSh.codes) y f = f i ds) ∧ c.out[i]? = some s ∧ fiN s ds = some N ∧
   results N.slots = some r ∧ v = aq g' r ∧ kt r = true ∧ (∀ o ∈ aL r, o < (aB S N).obs.length) ∧ Cal g' (aB S N) ∧ Cx g' (aB S N) w D A w' ∧ Kp g { S with slots := [], mods := [] } (fun _ => True) g' { aB S N with mods := N.boxes.map (·.1) })) : al P c := by
 intro k x y S m gs hrun hpat hkeys hgb g w D A CAL C hglob
 have hgs : gs = [] := by
  cases gs with
  | nil => rfl
  | cons b gs =>
    have : rG + b ∈ c.pat.slots.map (·.1) := by
     rw [← FJ hpat, hkeys]
     simp
    have := hk _ this
    omega
 subst hgs
 rw [List.map_nil, List.append_nil] at hkeys
 have hm : S.slots.length = m := by
  have := congrArg List.length hkeys
  simpa using this
 rw [List.take_of_length_le (by omega)]
 exact h k x y S hrun hpat (by rw [hkeys, hm]) g w D A CAL C
theorem zB {P : Program} {f : Nat} {pat : NSh} {t : Ty} {F : Nat → HL pat.codes → Option t.den} (hbx : pat.boxes = []) (hnw : pat.news = []) (hk : ∀ t ∈ pat.slots.map (·.1), t < rG)
 (h : ∀ k x y S w, F k x = some y → iV pat x = some S → Fn P f (S.slots.map fun p => aq vL p.2) w (fun v w' => v = aJ vL (.fl t y) ∧ Fr nob w w')) :
 al P ⟨f, pat, [⟨[(rB, .v (.a (.fl t)))], [], []⟩], F⟩ := by
 refine oM hk ?_
 intro k x y S hrun hpat hkeys g w D A CAL C
 have hobs : S.obs = [] := by
  unfold iV at hpat
  obtain ⟨N, hN, rfl⟩ := Option.map_eq_some_iff.1 hpat
  unfold fiN at hN
  split at hN
  ·rw [hbx, hnw] at hN
   simp only [bo] at hN
   simp only [Option.map_some, Option.some.injEq] at hN
   rw [← hN]
   rfl
  ·cases hN
 have harg : (S.slots.map fun p => aq g p.2) = S.slots.map fun p => aq vL p.2 := by
  apply List.map_congr_left
  intro p hp
  refine eq _ (fun o ho => ?_)
  have := CAL.rs p hp o ho
  rw [hobs] at this
  simp at this
 have hy : F k x = some y := hrun
 rw [harg]
 refine Calls.mono (h k x y S w hy hpat) ?_
 rintro e w' ⟨v, rfl, rfl, hfr⟩
 have hN : fiN ⟨[(rB, .v (.a (.fl t)))], [], []⟩ [⟨t, y⟩] = some ⟨[(rB, .v (.a (.fl t y)))], [], []⟩ := by
  have key : ∀ z : t.den, fiN ⟨[(rB, .v (.a (.fl t)))], [], []⟩ [⟨t, z⟩] = some ⟨[(rB, .v (.a (.fl t z)))], [], []⟩ := fun z => by
   have hc : ct (a := t) (b := t) z = some z := cm z
   simp only [fiN, bo, fiP, fiS, fiV, fiA, hc, Option.map_some]
  exact key y
 refine ⟨_, rfl, 0, [⟨t, y⟩], _, _, .v (.a (.fl t y)), g, fun R q => rfl, rfl, hN, rfl, ?_, rfl, (fun o ho => by cases ho), ⟨fun i => ?_, fun p hp => ?_, fun p hp o ho => ?_, fun i T ls hi => ?_⟩, ?_, ?_⟩
 ·cases t <;> rfl
 ·have : (aB S ⟨[(rB, .v (.a (.fl t y)))], [], []⟩).ob i = S.ob i := by simp [aB, St.ob]
  rw [this]; exact CAL.ob i
 ·simp only [aB, List.mem_singleton] at hp; subst hp; rfl
 ·simp only [aB, List.mem_singleton] at hp; subst hp; cases ho
 ·have : (aB S ⟨[(rB, .v (.a (.fl t y)))], [], []⟩).ob i = S.ob i := by simp [aB, St.ob]
  rw [this] at hi
  have := CAL.rb i T ls hi
  simpa [aB] using this
 ·have e : (fun i => an g i ((aB S ⟨[(rB, .v (.a (.fl t y)))], [], []⟩).ob i)) = fun i => an g i (S.ob i) := by
   funext i; congr 1; simp [aB, St.ob]
  have e' : (fun i => az g i ((aB S ⟨[(rB, .v (.a (.fl t y)))], [], []⟩).ob i)) = fun i => az g i (S.ob i) := by
   funext i; congr 1; simp [aB, St.ob]
  have := jM C hfr
  unfold Cx
  rw [e, e']
  exact this
 ·refine ⟨by simp [aB], fun i hi => ⟨rfl, rfl⟩, fun i hi hm => ⟨by simp [aB, St.ob], rfl⟩, (fun i hi => by cases hi), fun t ht => absurd trivial ht, fun i hi e t xs m fu he => ⟨e, xs, m, fu, ?_, rfl⟩⟩
  rw [← he]; simp [aB, St.ob]
theorem zC {w w' : World} (h : Go.RowKit.Below w.heap.size w w') : Fr nob w w' := ⟨h.os, h.tape, h.output, h.size, fun b hb _ => h.block b hb⟩
end Go.Proofs.YtlepjakmadlkjaaGreatDoor
