/- Texts of the proof, put together: part 5. No condition. -/
import Derived.Test.YthdgllldpfeelaaGreatDoorT4
import Derived.OrdersIn
/- Regions. No condition. -/
set_option linter.unusedVariables false
set_option linter.unusedSimpArgs false
namespace Go.Proofs.YthdgllldpfeelaaGreatDoor
open Go
def dsts (os : List Oper) : Nat → Prop := fun t => ∃ o ∈ os, o.dst = some t
section
variable {P : Program} {g g' g1 : Env} {γ : Ghost} {S S1 : St} {n : Nat} {a : Act} {w0 w w' : World} {D A : Nat → Prop} {α : Type} {out : α} {ρ : Operand → Value}
variable {Γ : List Con} {inl : List Nat} {H : Inl} {k : Nat}
theorem doOp_spec {K : St → SV → Option α} (hc : CallOk P (fun R A S f xs K => callF A P Γ k S f xs K)) (hi : CallOk P (fun R A S f xs K => H f (typeArgs P f xs) R A S K))
    (F : Fit g γ S n a) (C : Cx g S w0 D A w) {ty : TypeId} {op : Op} (h : doOp (optA α) P Γ inl H k S ty op K = some out) : Eff P a.eval op w (Post g γ S n a w0 D A K out) := by
  unfold doOp at h
  split at h
  · exact quiet_eff F C ‹_› h
  · exact loud_spec hc hi F C h
theorem fit_lit (F : Fit g γ S n a) {d : Nat} {sv sv' : SV} (h : lookS S.slots d = some sv) (he : encS g sv' = encS g sv) (h1 : okS S sv') (h2 : ∀ o ∈ refS sv', o < S.obs.length) : Fit g γ (S.put (some d) sv') n a := by
  refine ⟨F.size, F.lo, F.defers, fun t s hs => ?_, F.ob, fun t s hs => ?_, fun t s hs => ?_, F.rb⟩
  · simp only [St.put, look_putS] at hs
    split at hs
    · rename_i e; cases e; cases hs
      rw [he]; exact F.sl d sv h
    · exact F.sl t s hs
  · simp only [St.put, look_putS] at hs
    split at hs
    · cases hs; exact (show okS S _ from h1)
    · exact F.ok t s hs
  · simp only [St.put, look_putS] at hs
    split at hs
    · cases hs; exact h2
    · exact F.rs t s hs
/-- What a test before an operation says. -/
theorem wantS_spec (F : Fit g γ S n a) {ops : Array Oper} {o : Oper} {r : Bool ⊕ (Nat × Bool × Bool)} (hd : ∀ o ∈ ops.toList, ∀ d, o.dst = some d → d < n) (h : wantS ops.toList S o.guard = some r) :
    match r with
    | .inl b => Region.wanted o (yielded ops a.tmps) = b
    | .inr (d, b, want) => lookS S.slots d = some (.v (.a (.fl .bool b))) ∧ dsts ops.toList d ∧ ∀ b', wantS ops.toList (S.put (some d) (.lit b')) o.guard = some (.inl (b' == want)) := by
  unfold wantS at h
  split at h
  · rename_i hg
    cases h
    simp [Region.wanted, hg]
  · rename_i gg want hg
    split at h
    · rename_i d hgd
      have hdn : d < n ∧ dsts ops.toList d := by
        obtain ⟨o', ho', hod⟩ := Option.bind_eq_some_iff.1 hgd
        exact ⟨hd o' (List.mem_of_getElem? ho') d hod, o', List.mem_of_getElem? ho', hod⟩
      have hgd' : (ops[gg]?).bind (·.dst) = some d := by simpa using hgd
      have hsl := fun sv hs => F.sl d sv hs
      split at h
      · rename_i b hl
        cases h
        have := hsl _ hl
        rw [if_pos (Nat.lt_of_lt_of_le hdn.1 F.lo)] at this
        simp only [encS, encV, val1] at this
        simp only [Region.wanted, hg, yielded, hgd', Option.bind_some, this]
        cases b <;> cases want <;> rfl
      · rename_i b hl
        cases h
        refine ⟨hl, hdn.2, fun b' => ?_⟩
        simp only [wantS, hg, hgd, St.put, look_putS, if_true, SV.lit]
      · rename_i hl
        cases h
        have := hsl _ hl
        rw [if_pos (Nat.lt_of_lt_of_le hdn.1 F.lo)] at this
        simp only [encS, encV, val1, undef] at this
        simp only [Region.wanted, hg, yielded, hgd', Option.bind_some, this]
        cases want <;> rfl
      · cases h
    · cases h
theorem execOps_spec {ro : Option Nat} {ops : Array Oper} {Q : Exit → Act → World → Prop} (hc : CallOk P (fun R A S f xs K => callF A P Γ k S f xs K)) (hi : CallOk P (fun R A S f xs K => H f (typeArgs P f xs) R A S K))
    {K : St → Option α} {S0 : St} {g0 : Env} (hd : ∀ o ∈ ops.toList, ∀ d, o.dst = some d → d < n)
    (hK : ∀ g' S' a' w', K S' = some out → Fit g' γ S' n a' → Cx g' S' w0 D A w' → Kp g0 S0 (dsts ops.toList) g' S' → Q .normal a' w') :
    ∀ (os : List Oper) {S : St} {g : Env} {a : Act} {w : World}, (∀ o ∈ os, o ∈ ops.toList) → execOps (optA α) P Γ inl H k ops.toList os S K = some out → Fit g γ S n a → Cx g S w0 D A w → Kp g0 S0 (dsts ops.toList) g S → wpListIn (FR ro) 3 P ops Q os a w
  | [], S, g, a, w, hm, h, F, C, Z => hK g S a w h F C Z
  | o :: os, S, g, a, w, hm, h, F, C, Z => by
    have hom := hm o (List.mem_cons_self ..)
    have hm' : ∀ o ∈ os, o ∈ ops.toList := fun x hx => hm x (List.mem_cons_of_mem _ hx)
    have yes : ∀ {S : St}, Fit g γ S n a → Cx g S w0 D A w → Kp g0 S0 (dsts ops.toList) g S → Region.wanted o (yielded ops a.tmps) = true →
        doOp (optA α) P Γ inl H k S o.type o.op (fun S' v => execOps (optA α) P Γ inl H k ops.toList os (S'.put o.dst v) K) = some out → wpListIn (FR ro) 3 P ops Q (o :: os) a w := by
      intro S F C Z hw hdo
      unfold wpListIn
      rw [if_pos hw]
      refine (doOp_spec hc hi F C hdo o a _ _ rfl rfl ?_).2 ro
      rintro v w' ⟨g', S', sv, h1, rfl, h3, h4, h5, h6, h7⟩
      refine execOps_spec hc hi hd hK os hm' h1 (fit_put h3 (hd o hom) h5 h6) h4 ?_
      exact (Z.trans h7 (fun _ => id) (fun _ h => h.elim)).trans (kp_put _ _ _ _) (fun _ => id) (fun t ht => ⟨o, hom, ht⟩)
    have no : ∀ {S : St}, Fit g γ S n a → Cx g S w0 D A w → Kp g0 S0 (dsts ops.toList) g S → Region.wanted o (yielded ops a.tmps) = false →
        execOps (optA α) P Γ inl H k ops.toList os (S.put o.dst unS_) K = some out → wpListIn (FR ro) 3 P ops Q (o :: os) a w := by
      intro S F C Z hw hdo
      unfold wpListIn
      rw [if_neg (by rw [hw]; simp)]
      refine ⟨fun _ _ => trivial, ?_⟩
      refine execOps_spec hc hi hd hK os hm' hdo (fit_put F (hd o hom) trivial (fun o ho => by cases ho)) C ?_
      exact Z.trans (kp_put _ _ _ _) (fun _ => id) (fun t ht => ⟨o, hom, ht⟩)
    simp only [execOps] at h
    split at h
    · rename_i hw
      exact yes F C Z (wantS_spec F hd hw) h
    · rename_i hw
      exact no F C Z (wantS_spec F hd hw) h
    · rename_i d b want hw
      obtain ⟨hl, hds, hre⟩ := wantS_spec F hd hw
      have hlen : okS S (.lit b) := trivial
      have Fb : Fit g γ (S.put (some d) (.lit b)) n a := fit_lit F hl rfl trivial (fun o ho => by cases ho)
      have Cb : Cx g (S.put (some d) (.lit b)) w0 D A w := C
      have Zb : Kp g0 S0 (dsts ops.toList) g (S.put (some d) (.lit b)) := Z.trans (kp_put _ _ _ _) (fun _ => id) (fun t ht => by cases ht; exact hds)
      have hwb := wantS_spec Fb hd (hre b)
      cases want with
      | true =>
        simp only [if_true, optA, condO] at h
        cases b with
        | true => exact yes (S := (S.put (some d) (.lit true)).kid 0) (fit_to Fb _) Cb (kp_to Zb _) hwb h
        | false => exact no (S := (S.put (some d) (.lit false)).kid 1) (fit_to Fb _) Cb (kp_to Zb _) hwb h
      | false =>
        simp only [Bool.false_eq_true, if_false, optA, condO] at h
        cases b with
        | true => exact no (S := (S.put (some d) (.lit true)).kid 0) (fit_to Fb _) Cb (kp_to Zb _) hwb h
        | false => exact yes (S := (S.put (some d) (.lit false)).kid 1) (fit_to Fb _) Cb (kp_to Zb _) hwb h
    · simp [optA] at h
end
end Go.Proofs.YthdgllldpfeelaaGreatDoor
/- Regions that draw their order. No condition. -/
set_option linter.unusedVariables false
set_option linter.unusedSimpArgs false
namespace Go.Proofs.YthdgllldpfeelaaGreatDoor
open Go
theorem ob_restrict (S : St) (st : List Nat) (i : Nat) : (restrict S st).ob i = if st.elem i then S.ob i else .gone := by
  simp only [St.ob, restrict, List.getD_eq_getElem?_getD, List.getElem?_map, List.getElem?_zipIdx]
  cases h : S.obs[i]? <;> simp
theorem len_restrict (S : St) (st : List Nat) : (restrict S st).obs.length = S.obs.length := by simp [restrict]
theorem encA_vb {g g' : Env} (a : At) (h : ∀ o ∈ refA a, (g' o).v = (g o).v ∧ (g' o).b = (g o).b) : encA g' a = encA g a := by
  cases a <;> simp_all [encA, refA]
theorem encL_vb {g g' : Env} : ∀ (ls : List At), (∀ o ∈ ls.flatMap refA, (g' o).v = (g o).v ∧ (g' o).b = (g o).b) → encL g' ls = encL g ls
  | [], _ => rfl
  | a :: ls, h => by
    simp only [List.flatMap_cons, List.mem_append] at h
    have := encL_vb ls (fun o ho => h o (.inr ho))
    simp only [encL] at this ⊢
    rw [List.flatMap_cons, List.flatMap_cons, encA_vb a (fun o ho => h o (.inl ho)), this]
section
variable {P : Program} {g g' g0 : Env} {γ : Ghost} {S S' S0 : St} {n : Nat} {a a0 : Act} {w0 w w' : World} {D A : Nat → Prop} {α : Type} {out : α} {st : List Nat}
theorem entL_vb {i : Nat} {o : Ob} (h : g' i = g i) (hr : ∀ T ls, o = .box T ls → ∀ x ∈ ls.flatMap refA, (g' x).v = (g x).v ∧ (g' x).b = (g x).b) : entL g' i o = entL g i o := by
  cases o with
  | box T ls => simp only [entL, boxT, h, encL_vb ls (hr T ls rfl)]
  | row e t xs m fu => cases m <;> simp only [entL, h]
  | gone => rfl
/-- What is left of a state when others than some objects are left out. -/
theorem cx_restrict (C : Cx g S w0 D A w) (st : List Nat) : Cx g (restrict S st) w0 D A w := by
  refine cf_remap C id (fun i => ?_) (fun i j hij _ _ => hij) (fun i => ?_)
  · simp only [ob_restrict]
    split
    · exact .inr (Sub1.refl _ _)
    · exact .inl ⟨fun b h => h.elim, trivial⟩
  · simp only [ob_restrict]
    split
    · exact .inr (.inl ⟨i, Sub1.refl _ _, id⟩)
    · exact .inl ⟨fun b h => h.elim, trivial⟩
theorem fit_restrict (F : Fit g γ S n a) (st : List Nat) : Fit g γ (restrict S st) n a := by
  have hob : ∀ i, (restrict S st).ob i = S.ob i ∨ (restrict S st).ob i = .gone := fun i => by rw [ob_restrict]; split; exact .inl rfl; exact .inr rfl
  refine ⟨F.size, F.lo, F.defers, F.sl, fun i => ?_, fun t sv h => ?_, fun t sv h => by rw [len_restrict]; exact F.rs t sv h, fun i T ls h => ?_⟩
  · rcases hob i with h | h <;> rw [h]
    · exact F.ob i
    · trivial
  · have := F.ok t sv h
    have okE : ∀ v : V1, okV S v → okV (restrict S st) v := fun v hv => by
      cases v with
      | elp o sz i off =>
        intro e t xs m fu he
        rcases hob o with h | h <;> rw [h] at he
        · exact hv e t xs m fu he
        · cases he
      | arp b off t n i => exact hv
      | _ => trivial
    cases sv with
    | v x => exact okE x this
    | tup xs => exact fun x hx => okE x (this x hx)
  · rw [len_restrict]
    rcases hob i with h1 | h1 <;> rw [h1] at h
    · exact F.rb i T ls h
    · cases h
/-- The state left stands as it stood. -/
theorem cx_same (F : Fit g γ S n a) (hst : ∀ i ∈ st, i < S.obs.length ∧ S'.ob i = S.ob i ∧ g' i = g i) (hvb : ∀ i, i < S.obs.length → (g' i).v = (g i).v ∧ (g' i).b = (g i).b) :
    Cx g' (restrict S' st) w0 D A w ↔ Cx g (restrict S st) w0 D A w := by
  have h1 : (fun i => entL g' i ((restrict S' st).ob i)) = fun i => entL g i ((restrict S st).ob i) := by
    funext i
    simp only [ob_restrict]
    split
    · rename_i hi
      obtain ⟨h1, h2, h3⟩ := hst i (by simpa using hi)
      rw [h2]
      exact entL_vb h3 (fun T ls e x hx => hvb x (F.rb i T ls e x hx))
    · rfl
  have h2 : (fun i => entR g' i ((restrict S' st).ob i)) = fun i => entR g i ((restrict S st).ob i) := by
    funext i
    simp only [ob_restrict]
    split
    · rename_i hi
      obtain ⟨h1, h2, h3⟩ := hst i (by simpa using hi)
      rw [h2]
      exact entR_ext h3
    · rfl
  unfold Cx
  rw [h1, h2]
theorem newOk_full {news : List Ob} (h : NewOk g g' (restrict S st) w news) : NewOk g g' S w news := by
  intro j ob hj
  obtain ⟨h1, h2, h3⟩ := h j ob hj
  rw [len_restrict] at h1 h2 h3
  refine ⟨h1, h2, ?_⟩
  rcases h3 with h3 | ⟨o, h3, h4⟩
  · exact .inl h3
  · rw [ob_restrict] at h3 h4
    split at h3
    · rename_i hi
      rw [if_pos hi] at h4
      exact .inr ⟨o, h3, h4⟩
    · exact .inl ⟨fun b hb => (h3.dom b hb).elim, h3.ok trivial⟩
theorem newOk_more {news : List Ob} {e : List Nat} (h : NewOk g g' (restrict S st) w news) : NewOk g g' (restrict S (st ++ e)) w news := by
  intro j ob hj
  obtain ⟨h1, h2, h3⟩ := h j ob hj
  rw [len_restrict] at h1 h2 h3
  rw [len_restrict]
  refine ⟨h1, h2, ?_⟩
  rcases h3 with h3 | ⟨o, h3, h4⟩
  · exact .inl h3
  · rw [ob_restrict] at h3 h4
    split at h3
    · rename_i hi
      rw [if_pos hi] at h4
      refine .inr ⟨o, ?_, ?_⟩
      · rw [ob_restrict, if_pos (by simp at hi; simp [hi])]; exact h3
      · rw [ob_restrict, if_pos (by simp at hi; simp [hi])]; exact h4
    · exact .inl ⟨fun b hb => (h3.dom b hb).elim, h3.ok trivial⟩
theorem ob_restrict2 (S : St) (st e : List Nat) (i : Nat) : (restrict (restrict S (st ++ e)) st).ob i = (restrict S st).ob i := by
  rw [ob_restrict, ob_restrict, ob_restrict]
  split
  · rename_i h
    rw [if_pos (by simp at h; simp [h])]
  · rfl
theorem cx_fewer {st e : List Nat} (C : Cx g (restrict S (st ++ e)) w0 D A w) : Cx g (restrict S st) w0 D A w := by
  have := cx_restrict C st
  unfold Cx at this ⊢
  simpa only [ob_restrict2] using this
theorem lookQ_spec {e : List Nat} {o : Oper} {q : Qt} (h : lookQ P S st e o = some q) : (elInS st q.v = true ∧ quiet P (restrict S st) o.type o.op = some q) ∨ (elInS (st ++ e) q.v = true ∧ quiet P (restrict S (st ++ e)) o.type o.op = some q ∧ q.news = []) := by
  unfold lookQ at h
  split at h
  · rename_i q' hq
    split at h
    · rename_i he
      cases h
      exact .inl ⟨he, hq⟩
    · cases h
  · split at h
    · rename_i q' hq
      split at h
      · rename_i he
        cases h
        exact .inr ⟨he.1, hq, by simpa using he.2⟩
      · cases h
    · cases h
theorem pickQ_spec {ops : Array Oper} {l dead : List Nat} {ex : List (Nat × List Nat)} : ∀ {rs : List Nat} {j : Nat} {o : Oper} {r : Option Qt}, pickQ P (canB ops) ops ex dead S st l rs = some (j, o, r) →
    ops.toList[j]? = some o ∧ canB ops l j = true ∧ dead.elem j = false ∧ (match r with
      | some q => wantS ops.toList S o.guard = some (.inl true) ∧ lookQ P S st (exl ex j) o = some q
      | none => wantS ops.toList S o.guard = some (.inl false))
  | [], j, o, r, h => by simp [pickQ] at h
  | i :: rs, j, o, r, h => by
    simp only [pickQ] at h
    split at h
    · rename_i oi hoi
      split at h
      · rename_i hc
        rw [Bool.and_eq_true, Bool.not_eq_true'] at hc
        split at h
        · rename_i hw
          split at h
          · rename_i q hq
            cases h
            exact ⟨hoi, hc.1, hc.2, hw, hq⟩
          · exact pickQ_spec h
        · rename_i hw
          cases h
          exact ⟨hoi, hc.1, hc.2, hw⟩
        · exact pickQ_spec h
      · exact pickQ_spec h
    · cases h
theorem mem_exl {ex : List (Nat × List Nat)} {i x : Nat} : x ∈ exl ex i ↔ ∃ p ∈ ex, p.1 = i ∧ x ∈ p.2 := by
  simp only [exl, List.mem_flatMap, List.mem_filter, beq_iff_eq]
  exact ⟨fun ⟨p, ⟨h1, h2⟩, h3⟩ => ⟨p, h1, h2, h3⟩, fun ⟨p, h1, h2, h3⟩ => ⟨p, ⟨h1, h2⟩, h3⟩⟩
theorem exOk_spec {ops : Array Oper} {ex : List (Nat × List Nat)} {dead M : List Nat} {j : Nat} (h : exOk ops ex dead j M = true) {i : Nat} (hf : frB ops j i = true) : (∀ p ∈ ex, p.1 = i → dead.elem i = false) ∧ ∀ x ∈ exl ex i, x ∉ M := by
  have all := List.all_eq_true.1 h
  constructor
  · intro p hp he
    have := all p hp
    rw [he, hf] at this
    simp only [Bool.not_true, Bool.false_or, Bool.and_eq_true, Bool.not_eq_true'] at this
    exact this.1
  · intro x hx hm
    obtain ⟨p, hp, he, hxp⟩ := mem_exl.1 hx
    have := all p hp
    rw [he, hf] at this
    simp only [Bool.not_true, Bool.false_or, Bool.and_eq_true, Bool.not_eq_true'] at this
    have h2 := List.all_eq_true.1 this.2 x hm
    simp at h2
    exact h2 hxp
theorem mem_exDead {ops : Array Oper} {ex : List (Nat × List Nat)} {j i : Nat} : (exDead ops ex j).elem i = true ↔ (∃ p ∈ ex, p.1 = i) ∧ frB ops j i = false := by
  simp only [exDead, List.elem_eq_mem, decide_eq_true_eq, List.mem_map, List.mem_filter, Bool.not_eq_true']
  exact ⟨fun ⟨p, ⟨h1, h2⟩, h3⟩ => ⟨⟨p, h1, h3⟩, h3 ▸ h2⟩, fun ⟨⟨p, h1, h3⟩, h2⟩ => ⟨p, ⟨h1, h3 ▸ h2⟩, h3⟩⟩
theorem openG_spec {ops : Array Oper} : ∀ {rs : List Nat} {d : Nat} {b : Bool}, openG ops S rs = some (d, b) → ∃ o ∈ ops.toList, ∃ want, wantS ops.toList S o.guard = some (.inr (d, b, want))
  | [], d, b, h => by simp [openG] at h
  | i :: rs, d, b, h => by
    simp only [openG] at h
    split at h
    · rename_i o ho
      split at h
      · rename_i d' b' want hw
        cases h
        exact ⟨o, List.mem_of_getElem? ho, want, hw⟩
      · exact openG_spec h
    · cases h
theorem mem_range' {i s m : Nat} : i ∈ List.range' s m ↔ s ≤ i ∧ i < s + m := by
  simp only [List.mem_range', Nat.one_mul]
  exact ⟨fun ⟨j, h1, h2⟩ => by omega, fun h => ⟨i - s, by omega, by omega⟩⟩
variable {Γ : List Con} {inl : List Nat} {H : Inl} {k : Nat}
theorem bothG_spec {rs0 : List Nat} {act : Nat → St → Option α} : ∀ {rs : List Nat} {S : St}, bothG (optA α) rs0 act rs S = some out → ∀ j ∈ rs, ∃ p, act j (S.to p) = some out
  | [], S, h, j, hj => by cases hj
  | [i], S, h, j, hj => by
    obtain rfl : j = i := by simpa using hj
    exact ⟨S.pl, h⟩
  | i :: i2 :: r, S, h, j, hj => by
    simp only [bothG, optA] at h
    obtain ⟨h1, h2⟩ := bothO_some h
    rcases List.mem_cons.1 hj with rfl | hj
    · exact ⟨S.pl.kid 0, h1⟩
    · obtain ⟨p, hp⟩ := bothG_spec (rs := i2 :: r) (S := S.kid 1) h2 j hj
      exact ⟨p, hp⟩
theorem execDr_spec {ops : Array Oper} {Q : Exit → Act → World → Prop} {q : Nat} {ex : List (Nat × List Nat)} (hc : CallOk P (fun R A S f xs K => callF A P Γ k S f xs K)) (hi : CallOk P (fun R A S f xs K => H f (typeArgs P f xs) R A S K))
    {K : St → Option α} (hd : ∀ o ∈ ops.toList, ∀ d, o.dst = some d → d < n) (hl : lastB ops q = true) (hn : Region.noSelect ops = true) {st0 : List Nat} (hst0 : ∀ i ∈ st0, i < S0.obs.length) (hex0 : ∀ i, ∀ o ∈ exl ex i, o < S0.obs.length) (F0 : Fit g0 γ S0 n a0)
    (hK : ∀ g' S' a' w', K S' = some out → Fit g' γ S' n a' → Cx g' S' w0 D A w' → Kp g0 S0 (dsts ops.toList) g' S' → Q .normal a' w') :
    ∀ (fu fuel : Nat) (l dead st : List Nat) {S : St} {g : Env} {a : Act} {w : World}, execDr (optA α) P Γ inl H k (fun l => Region.ready .any ops (mask ops.size l)) (canB ops) ops none q ex fu fuel l dead st S K = some out → Closed ops (mask ops.size l) → Fit g γ S n a → Cx g S w0 D A w →
      Kp g0 S0 (dsts ops.toList) g S → (∀ i ∈ st0, i ∈ st ∧ S.ob i = S0.ob i ∧ g i = g0 i) → (∀ i, dead.elem i = false → ∀ o ∈ exl ex i, S.ob o = S0.ob o ∧ g o = g0 o) → (∀ i ∈ st, i < S.obs.length) →
      (∀ i, dead.elem i = false → ∀ w', (∃ w0 D A, Cx g0 (restrict S0 (st0 ++ exl ex i)) w0 D A w') → ∃ w0 D A, Cx g (restrict S (st ++ exl ex i)) w0 D A w') →
      wpE P ops (calmQ Q) (fun i w' => ∃ w0 D A, Cx g0 (restrict S0 (st0 ++ exl ex i)) w0 D A w') q fuel (mask ops.size l) a w
  | 0, fuel, l, dead, st, S, g, a, w, h, _, _, _, _, _, _, _, _ => by simp [execDr, optA] at h
  | fu + 1, fuel, l, dead, st, S, g, a, w, h, hcl, F, C, Z, hs, he, hst, hI => by
    have Sw : ∀ {g : Env} {S : St} {w : World} (x : Nat), Cx g S w0 D A w → Kp g0 S0 (dsts ops.toList) g S → (∀ i ∈ st0, S.ob i = S0.ob i ∧ g i = g0 i) → (∀ o ∈ exl ex x, S.ob o = S0.ob o ∧ g o = g0 o) → ∃ w0 D A, Cx g0 (restrict S0 (st0 ++ exl ex x)) w0 D A w := fun {g S w} x C Z hs he =>
      ⟨w0, D, A, (cx_same (S' := S) (g' := g) F0 (fun i hi => by
        rcases List.mem_append.1 hi with hi | hi
        · exact ⟨hst0 i hi, (hs i hi).1, (hs i hi).2⟩
        · exact ⟨hex0 x i hi, (he i hi).1, (he i hi).2⟩) Z.vb).1 (cx_restrict C _)⟩
    have hSw := fun x (hx : dead.elem x = false) => Sw x C Z (fun i hi => (hs i hi).2) (he x hx)
    simp only [execDr] at h
    split at h
    · split at h
      · rename_i hr
        exact ⟨hr, hK g S a w h F C Z⟩
      · simp [optA] at h
    · rename_i fuel
      split at h
      · -- it only looks
        rename_i j o qq hp
        obtain ⟨ho, hcan, hdj, hw, hlq⟩ := pickQ_spec hp
        have hq := lookQ_spec hlq
        have hom := List.mem_of_getElem? ho
        have ho' : ops[j]? = some o := by simpa using ho
        have hp : qq.p ∧ execDr (optA α) P Γ inl H k (fun l => Region.ready .any ops (mask ops.size l)) (canB ops) ops none q ex fu fuel (j :: l) dead (st ++ List.range' S.obs.length qq.news.length) ((S.add qq.news).put o.dst qq.v) K = some out := by
          simp only [optA] at h
          split at h
          · rename_i hp; exact ⟨hp, h⟩
          · cases h
        have hexl : ∀ i, ∀ o ∈ exl ex i, o < S.obs.length := fun i o ho => Nat.lt_of_lt_of_le (hex0 i o ho) Z.len
        obtain ⟨stx, hstx, hel, hq, hmore, hnn⟩ : ∃ stx, (∀ o ∈ stx, o < S.obs.length) ∧ elInS stx qq.v = true ∧ quiet P (restrict S stx) o.type o.op = some qq ∧ (∀ {w0 : World} {D A : Nat → Prop} {w' : World}, Cx g (restrict S (st ++ exl ex j)) w0 D A w' → Cx g (restrict S stx) w0 D A w') ∧ (qq.news = [] ∨ stx = st) := by
          rcases hq with ⟨he, hq⟩ | ⟨he, hq, hn⟩
          · exact ⟨st, hst, he, hq, fun C => cx_fewer C, .inr rfl⟩
          · exact ⟨st ++ exl ex j, fun o ho => (List.mem_append.1 ho).elim (hst o) (hexl j o), he, hq, fun C => C, .inl hn⟩
        obtain ⟨g', L⟩ := quiet_spec (fit_restrict F stx) hq hp.1
        have hx : Ext g g' S.obs.length := by have := L.ext; rwa [len_restrict] at this
        simp only [canB, Bool.and_eq_true] at hcan
        have hrdy : j ∈ Region.ready .any ops (mask ops.size l) := by simpa using hcan.2
        have hrl : (restrict S stx).obs.length = S.obs.length := len_restrict S stx
        have hnew : ∀ j ob, qq.news[j]? = some ob → ((restrict S stx).add qq.news).ob (S.obs.length + j) = ob := fun j ob hj => by
          rw [ob_add_ge (by omega), hrl]
          simp [List.getD_eq_getElem?_getD, hj]
        have Fa : Fit g' γ (S.add qq.news) n a := by
          refine fit_add F hx (fun j ob hj => ?_) (fun j T ls hj => ?_)
          · have := L.fit.ob (S.obs.length + j); rwa [hnew j ob hj] at this
          · have := L.fit.rb (S.obs.length + j) T ls (hnew j _ hj)
            simpa [St.add, hrl] using this
        obtain ⟨w1, D1, A1, C1⟩ := hI j hdj w (hSw j hdj)
        have Ca : Cx g' (S.add qq.news) w0 D A w := cx_add F hx (newOk_full (L.run w1 D1 A1 w (hmore C1)).1) C
        have hok : okS (S.add qq.news) qq.v := by
          have okE : ∀ v : V1, elIn stx v = true → okV ((restrict S stx).add qq.news) v → okV (S.add qq.news) v := fun v he hv => by
            cases v with
            | elp o sz i off =>
              intro e t xs m fu hob
              have hmo : o ∈ stx := by simpa [elIn] using he
              have hlt := hstx o hmo
              rw [ob_add_lt hlt] at hob
              refine hv e t xs m fu ?_
              rw [ob_add_lt (by rw [hrl]; exact hlt), ob_restrict, if_pos (by simpa using hmo)]
              exact hob
            | arp b off t n i => exact hv
            | _ => trivial
          have hLok := L.ok
          cases hv : qq.v with
          | v x => rw [hv] at hLok hel; exact okE x hel hLok
          | tup xs => rw [hv] at hLok hel; exact fun x hx => okE x (List.all_eq_true.1 hel x hx) (hLok x hx)
        have hrs : ∀ o ∈ refS qq.v, o < (S.add qq.news).obs.length := by
          have := L.rs
          simpa [St.add, hrl] using this
        have Fp : Fit g' γ ((S.add qq.news).put o.dst qq.v) n (a.put o.dst (encS g' qq.v)) := fit_put Fa (hd o hom) hok hrs
        refine wpE_take hl ho' hn (calm_put _ _ _) _ _ _ _ hcl (Region.free_spec ho' hcan.1) hrdy (.inl ⟨wantS_spec F hd hw, fun w' hw' => ?_⟩) (hSw j hdj)
          (execDr_spec hc hi hd hl hn hst0 hex0 F0 hK fu fuel (j :: l) dead _ hp.2 (closed_set hcl hrdy) Fp Ca ?_ ?_ ?_ ?_ ?_)
        · obtain ⟨w1, D1, A1, C1⟩ := hI j hdj w' hw'
          exact (L.run w1 D1 A1 w' (hmore C1)).2 o rfl
        · exact (Z.trans (Kp.add noD hx) (fun _ => id) (fun _ h => h.elim)).trans (kp_put _ _ _ _) (fun _ => id) (fun t ht => ⟨o, hom, ht⟩)
        · intro i hi
          obtain ⟨h1, h2, h3⟩ := hs i hi
          have hlt := hst i h1
          refine ⟨List.mem_append_left _ h1, ?_, (hx i hlt).trans h3⟩
          exact (ob_add_lt hlt).trans h2
        · intro i hdi o ho
          obtain ⟨h2, h3⟩ := he i hdi o ho
          have hlt := hexl i o ho
          exact ⟨(ob_add_lt hlt).trans h2, (hx o hlt).trans h3⟩
        · intro i hi
          simp only [St.put, St.add, List.length_append]
          rcases List.mem_append.1 hi with hi | hi
          · have := hst i hi; omega
          · have := mem_range'.1 hi; omega
        · intro i hdi w' hw'
          obtain ⟨w1, D1, A1, C1⟩ := hI i hdi w' hw'
          refine ⟨w1, D1, A1, ?_⟩
          have hrl2 : (restrict S (st ++ exl ex i)).obs.length = S.obs.length := len_restrict S _
          have hnk : NewOk g g' (restrict S (st ++ exl ex i)) w' qq.news := by
            rcases hnn with hnn | hnn
            · rw [hnn]; intro j ob hj; simp at hj
            · subst hnn
              exact newOk_more (L.run w1 D1 A1 w' (cx_fewer C1)).1
          have C2 := cx_add (fit_restrict F (st ++ exl ex i)) (by rw [hrl2]; exact hx) hnk C1
          have hobs : ∀ x, (restrict ((S.add qq.news).put o.dst qq.v) ((st ++ List.range' S.obs.length qq.news.length) ++ exl ex i)).ob x = ((restrict S (st ++ exl ex i)).add qq.news).ob x := by
            intro x
            rw [ob_restrict]
            show (if ((st ++ List.range' S.obs.length qq.news.length) ++ exl ex i).elem x = true then (S.add qq.news).ob x else Ob.gone) = _
            rcases Nat.lt_or_ge x S.obs.length with hlt | hge
            · rw [ob_add_lt hlt, ob_add_lt (by rw [hrl2]; exact hlt), ob_restrict]
              have : ((st ++ List.range' S.obs.length qq.news.length) ++ exl ex i).elem x = (st ++ exl ex i).elem x := by
                rw [Bool.eq_iff_iff]
                simp only [List.elem_eq_mem, decide_eq_true_eq, List.mem_append, mem_range']
                exact ⟨fun h => h.elim (fun h => h.elim .inl (fun h => by omega)) .inr, fun h => h.elim (fun h => .inl (.inl h)) .inr⟩
              rw [this]
            · rw [ob_add_ge hge, ob_add_ge (by rw [hrl2]; exact hge), hrl2]
              split
              · rfl
              · rename_i hne
                have : ¬ x < S.obs.length + qq.news.length := fun hlt => hne (by simp only [List.elem_eq_mem, decide_eq_true_eq, List.mem_append, mem_range']; exact .inl (.inr ⟨hge, hlt⟩))
                rw [List.getD_eq_getElem?_getD, List.getElem?_eq_none (by omega)]; rfl
          unfold Cx at C2 ⊢
          simp only [hobs]
          exact C2
      · -- it isn't wanted
        rename_i j o hp
        obtain ⟨ho, hcan, hdj, hw⟩ := pickQ_spec hp
        simp only at hw
        have hom := List.mem_of_getElem? ho
        have ho' : ops[j]? = some o := by simpa using ho
        simp only [canB, Bool.and_eq_true] at hcan
        have hrdy : j ∈ Region.ready .any ops (mask ops.size l) := by simpa using hcan.2
        have Fp : Fit g γ (S.put o.dst unS_) n (a.put o.dst undef) := fit_put F (v := unS_) (hd o hom) trivial (fun o ho => by cases ho)
        exact wpE_take hl ho' hn (calm_put _ _ _) _ _ _ _ hcl (Region.free_spec ho' hcan.1) hrdy (.inr ⟨wantS_spec F hd hw, rfl⟩) (hSw j hdj)
          (execDr_spec hc hi hd hl hn hst0 hex0 F0 hK fu fuel (j :: l) dead st h (closed_set hcl hrdy) Fp C (Z.trans (kp_put _ _ _ _) (fun _ => id) (fun t ht => ⟨o, hom, ht⟩)) hs he hst hI)
      · split at h
        · -- a guard is opened
          rename_i d b hg
          obtain ⟨o, hom, want, hw⟩ := openG_spec hg
          obtain ⟨hlk, hds, _⟩ := wantS_spec F hd hw
          have Fb : Fit g γ (S.put (some d) (.lit b)) n a := fit_lit F hlk rfl trivial (fun o ho => by cases ho)
          have Zb : Kp g0 S0 (dsts ops.toList) g (S.put (some d) (.lit b)) := Z.trans (kp_put _ _ _ _) (fun _ => id) (fun t ht => by cases ht; exact hds)
          obtain ⟨i, go⟩ : ∃ i, execDr (optA α) P Γ inl H k (fun l => Region.ready .any ops (mask ops.size l)) (canB ops) ops none q ex fu (fuel + 1) l dead st ((S.put (some d) (.lit b)).kid i) K = some out := by
            simp only [optA, condO] at h
            cases b
            · exact ⟨1, h⟩
            · exact ⟨0, h⟩
          exact execDr_spec hc hi hd hl hn hst0 hex0 F0 hK fu (fuel + 1) l dead st go hcl (fit_to Fb _) C (kp_to Zb _) hs he hst hI
        · -- those that may come up, whichever is first
          refine ⟨fun h0 => ?_, fun j hrdy => ?_⟩
          · simp only [h0, bothG, optA] at h; cases h
          · have hb := bothG_spec h j hrdy
            clear h
            obtain ⟨p, h⟩ := hb
            replace F := fit_to F p
            replace Z := kp_to Z p
            replace C : Cx g (S.to p) w0 D A w := C
            replace hs : ∀ i ∈ st0, i ∈ st ∧ (S.to p).ob i = S0.ob i ∧ g i = g0 i := hs
            replace he : ∀ i, dead.elem i = false → ∀ o ∈ exl ex i, (S.to p).ob o = S0.ob o ∧ g o = g0 o := he
            replace hst : ∀ i ∈ st, i < (S.to p).obs.length := hst
            replace hI : ∀ i, dead.elem i = false → ∀ w', (∃ w0 D A, Cx g0 (restrict S0 (st0 ++ exl ex i)) w0 D A w') → ∃ w0 D A, Cx g (restrict (S.to p) (st ++ exl ex i)) w0 D A w' := hI
            clear hSw
            generalize S.to p = S at F Z C hs he hst hI h
            split at h
            · rename_i o ho
              have hom := List.mem_of_getElem? ho
              have ho' : ops[j]? = some o := by simpa using ho
              split at h
              · rename_i hw
                have main : ∀ {K' : St → SV → Option α} {N : Act → World → Prop}, doOp (optA α) P Γ inl H k S o.type o.op K' = some out → (∀ v w', Post g γ S n a w0 D A K' out v w' → N (a.put o.dst v) w') →
                    wpOp P ops (calmQ Q) j N a w := by
                  intro K' N hdo hN
                  unfold wpOp
                  rw [ho']
                  simp only
                  rw [if_pos (wantS_spec F hd hw)]
                  exact .inl ((doOp_spec hc hi F C hdo) o a _ _ rfl rfl (fun v w' hK' => hN v w' hK')).1
                split at h
                · rename_i hjq
                  split at h
                  · rename_i hf
                    obtain ⟨rfl, hdone⟩ := hf
                    have m2 := main (N := fun a' w' => Q .normal a' w') h (by
                      rintro v w' ⟨g', S', sv, h1, rfl, h3, h4, h5, h6, h7⟩
                      exact hK g' _ _ w' h1 (fit_put h3 (hd o hom) h5 h6) h4 ((Z.trans h7 (fun _ => id) (fun _ h => h.elim)).trans (kp_put _ _ _ _) (fun _ => id) (fun t ht => ⟨o, hom, ht⟩)))
                    refine wpOp_mono (fun a' w' hN => ?_) m2
                    exact ⟨.inl hjq, hdone, hN⟩
                  · simp [optA] at h
                · rename_i hjq
                  have m2 := main (N := fun a' w' => (∀ x, frB ops j x = true → (∃ w0 D A, Cx g0 (restrict S0 (st0 ++ exl ex x)) w0 D A w) → (∃ w0 D A, Cx g0 (restrict S0 (st0 ++ exl ex x)) w0 D A w')) ∧ wpE P ops (calmQ Q) (fun i w' => ∃ w0 D A, Cx g0 (restrict S0 (st0 ++ exl ex i)) w0 D A w') q fuel (mask ops.size (j :: l)) a' w') h (by
                    rintro v w' ⟨g', S', sv, h1, rfl, h3, h4, h5, h6, h7⟩
                    simp only at h1
                    split at h1
                    · rename_i hdis
                      have hboth := hdis.resolve_left (by simp)
                      rw [Bool.and_eq_true] at hboth
                      obtain ⟨hdis, hexk⟩ := hboth
                      have hnm : ∀ i ∈ st, i ∉ S'.mods := fun i hi' hm => by
                        have := List.all_eq_true.1 hdis i hm
                        simp at this
                        exact this hi'
                      have hsm : ∀ i ∈ st, S'.ob i = S.ob i ∧ g' i = g i := fun i hi' => h7.same i (hst i hi') (hnm i hi')
                      have hexl : ∀ i, ∀ o ∈ exl ex i, o < S.obs.length := fun i o ho => Nat.lt_of_lt_of_le (hex0 i o ho) Z.len
                      have hsx : ∀ x, frB ops j x = true → ∀ o ∈ exl ex x, S'.ob o = S.ob o ∧ g' o = g o := fun x hx o ho => h7.same o (hexl x o ho) ((exOk_spec hexk hx).2 o ho)
                      have hdx : ∀ x, frB ops j x = true → ∀ o ∈ exl ex x, S'.ob o = S0.ob o ∧ g' o = g0 o := fun x hx o ho => by
                        obtain ⟨p, hp, hpe, _⟩ := mem_exl.1 ho
                        obtain ⟨q2, q3⟩ := he x ((exOk_spec hexk hx).1 p hp hpe) o ho
                        exact ⟨(hsx x hx o ho).1.trans q2, (hsx x hx o ho).2.trans q3⟩
                      have Z' : Kp g0 S0 (dsts ops.toList) g' S' := Z.trans h7 (fun _ => id) (fun _ h => h.elim)
                      have hs' : ∀ i ∈ st0, i ∈ st ∧ S'.ob i = S0.ob i ∧ g' i = g0 i := fun i hi' => by
                        obtain ⟨q1, q2, q3⟩ := hs i hi'
                        exact ⟨q1, (hsm i q1).1.trans q2, (hsm i q1).2.trans q3⟩
                      have Z2 : Kp g0 S0 (dsts ops.toList) g' (S'.put o.dst sv) := Z'.trans (kp_put _ _ _ _) (fun _ => id) (fun t ht => ⟨o, hom, ht⟩)
                      have live : ∀ i, (dead ++ exDead ops ex j).elem i = false → dead.elem i = false ∧ ∀ o ∈ exl ex i, frB ops j i = true := fun i hi => by
                        have h1 : i ∉ dead ++ exDead ops ex j := by simpa using hi
                        rw [List.mem_append, not_or] at h1
                        refine ⟨by simpa using h1.1, fun o ho => ?_⟩
                        obtain ⟨p, hp, hpe, _⟩ := mem_exl.1 ho
                        cases hf : frB ops j i with
                        | true => rfl
                        | false => exact absurd (by simpa using mem_exDead.2 ⟨⟨p, hp, hpe⟩, hf⟩) h1.2
                      refine ⟨fun x hx _ => Sw x h4 Z' (fun i hi' => (hs' i hi').2) (hdx x hx), execDr_spec hc hi hd hl hn hst0 hex0 F0 hK fu fuel (j :: l) _ st h1 (closed_set hcl hrdy) (fit_put h3 (hd o hom) h5 h6) h4 Z2 hs' (fun i hi o ho => hdx i ((live i hi).2 o ho) o ho) (fun i hi' => Nat.lt_of_lt_of_le (hst i hi') h7.len) (fun i hi w' hw' => ?_)⟩
                      obtain ⟨w1, D1, A1, C1⟩ := hI i (live i hi).1 w' hw'
                      exact ⟨w1, D1, A1, (cx_same (S' := S'.put o.dst sv) (g' := g') F (fun x hx => by
                        rcases List.mem_append.1 hx with hx | hx
                        · exact ⟨hst x hx, hsm x hx⟩
                        · exact ⟨hexl i x hx, hsx i ((live i hi).2 x hx) x hx⟩) h7.vb).2 C1⟩
                    · simp [optA] at h1)
                  refine wpOp_mono (fun a' w' hN => ?_) m2
                  obtain ⟨q1, q2⟩ := hN
                  exact ⟨.inr q1, q2⟩
              · simp [optA] at h
            · simp [optA] at h
end
end Go.Proofs.YthdgllldpfeelaaGreatDoor
/- A state put in order: what it means. No condition. -/
set_option linter.unusedVariables false
set_option linter.unusedSimpArgs false
namespace Go.Proofs.YthdgllldpfeelaaGreatDoor
open Go
def nilG : GV := ⟨.slice none 0 0, rfl, 0, [], []⟩
/-- An object that is owned where it is (or no more). -/
def shared (o : Ob) : Prop := ∃ e t xs m fu, o = .row e t xs m fu ∧ m ≠ .own
/-- Each of one's own is named once, and not if it stays where it is. -/
def PlOk (S : St) (nb : Nat) (sy : List Nat) (pl : List Src) : Prop :=
  ∀ j o : Nat, pl[j]? = some (.ob o) → (∀ e t xs fu, S.ob o = .row e t xs .own fu → ¬ (o < nb ∧ sy.elem o = true)) ∧ ((∃ T ls, S.ob o = .box T ls) → nb ≤ o) ∧ ∀ j' : Nat, j' ≠ j → pl[j']? = some (.ob o) → shared (S.ob o)
/-- The new numbers' contents, by what they stand for. -/
def Good (g g' : Env) (nb : Nat) (pl : List Src) : Prop :=
  (∀ i, i < nb → g' i = g i) ∧ ∀ j : Nat, (∀ o, pl[j]? = some (.ob o) → g' (nb + j) = g o) ∧ (∀ e t, pl[j]? = some (.nil e t) → g' (nb + j) = nilG)
def nrmA : At → Bool
  | .nils _ _ | .lit _ => false
  | _ => true
def nrmV : V1 → Bool
  | .a x => nrmA x
  | .fn _ fs cs => fs.all nrmA && cs.all nrmA
  | .st ls => ls.all nrmA
  | _ => false
def nrmS : SV → Bool
  | .v x => nrmV x
  | .tup xs => xs.all nrmV
theorem Good.pre {g g' : Env} {nb : Nat} {pl pl' : List Src} (h : Good g g' nb pl') (hp : pl <+: pl') : Good g g' nb pl := by
  obtain ⟨ext, rfl⟩ := hp
  refine ⟨h.1, fun j => ⟨fun o ho => (h.2 j).1 o ?_, fun e t ho => (h.2 j).2 e t ?_⟩⟩
  all_goals
    have hlt := (List.getElem?_eq_some_iff.1 ho).1
    rw [List.getElem?_append_left hlt]; exact ho
theorem findSrc_spec {o : Nat} : ∀ {pl : List Src} {b j : Nat}, findSrc o pl b = some j → b ≤ j ∧ pl[j - b]? = some (.ob o)
  | [], b, j, h => by simp [findSrc] at h
  | .ob p :: r, b, j, h => by
    simp only [findSrc] at h
    split at h
    · rename_i e; cases h; subst e; simp
    · obtain ⟨h1, h2⟩ := findSrc_spec h
      refine ⟨by omega, ?_⟩
      rw [show j - b = (j - (b + 1)) + 1 by omega]; simpa using h2
  | .nil e t :: r, b, j, h => by
    simp only [findSrc] at h
    obtain ⟨h1, h2⟩ := findSrc_spec h
    refine ⟨by omega, ?_⟩
    rw [show j - b = (j - (b + 1)) + 1 by omega]; simpa using h2
theorem findSrc_none {o : Nat} : ∀ {pl : List Src} {b : Nat}, findSrc o pl b = none → ∀ j : Nat, pl[j]? ≠ some (.ob o)
  | [], b, h, j => by simp
  | .ob p :: r, b, h, j => by
    simp only [findSrc] at h
    split at h
    · cases h
    · rename_i e
      match j with
      | 0 => simp only [List.getElem?_cons_zero, ne_eq, Option.some.injEq, Src.ob.injEq]; exact e
      | j + 1 => simpa using findSrc_none h j
  | .nil e t :: r, b, h, j => by
    simp only [findSrc] at h
    match j with
    | 0 => simp
    | j + 1 => simpa using findSrc_none h j
theorem plok_snoc {S : St} {nb : Nat} {sy : List Nat} {pl : List Src} (h : PlOk S nb sy pl) {o : Nat} (h1 : ∀ e t xs fu, S.ob o = .row e t xs .own fu → ¬ (o < nb ∧ sy.elem o = true)) (h2 : (∃ T ls, S.ob o = .box T ls) → nb ≤ o)
    (h3 : (∀ j : Nat, pl[j]? ≠ some (.ob o)) ∨ shared (S.ob o)) : PlOk S nb sy (pl ++ [.ob o]) := by
  have get : ∀ {j p : Nat}, (pl ++ [Src.ob o])[j]? = some (.ob p) → pl[j]? = some (.ob p) ∨ (j = pl.length ∧ p = o) := fun {j p} hj => by
    rcases Nat.lt_or_ge j pl.length with hlt | hge
    · rw [List.getElem?_append_left hlt] at hj; exact .inl hj
    · rw [List.getElem?_append_right hge] at hj
      match hk : j - pl.length, hj with
      | 0, hj => simp only [List.getElem?_cons_zero, Option.some.injEq, Src.ob.injEq] at hj; exact .inr ⟨by omega, hj.symm⟩
      | k + 1, hj => simp at hj
  intro j p hj
  rcases get hj with k | ⟨k1, k2⟩
  · obtain ⟨q1, q2, q3⟩ := h j p k
    refine ⟨q1, q2, fun j' hne hj' => ?_⟩
    rcases get hj' with k' | ⟨k1, k2⟩
    · exact q3 j' hne k'
    · subst k2; exact h3.resolve_left (fun h => h j k)
  · subst k2
    refine ⟨h1, h2, fun j' hne hj' => ?_⟩
    rcases get hj' with k' | ⟨k1', _⟩
    · exact h3.resolve_left (fun h => h j' k')
    · exact absurd (k1'.trans k1.symm) hne
theorem plok_nil {S : St} {nb : Nat} {sy : List Nat} {pl : List Src} (h : PlOk S nb sy pl) (e : Nat) (t : Ty) : PlOk S nb sy (pl ++ [.nil e t]) := by
  have get : ∀ {j p : Nat}, (pl ++ [Src.nil e t])[j]? = some (.ob p) → pl[j]? = some (.ob p) := fun {j p} hj => by
    rcases Nat.lt_or_ge j pl.length with hlt | hge
    · rwa [List.getElem?_append_left hlt] at hj
    · rw [List.getElem?_append_right hge] at hj
      match hk : j - pl.length, hj with
      | 0, hj => simp at hj
      | k + 1, hj => simp at hj
  intro j p hj
  obtain ⟨q1, q2, q3⟩ := h j p (get hj)
  exact ⟨q1, q2, fun j' hne hj' => q3 j' hne (get hj')⟩
theorem renId_spec {S : St} {nb o : Nat} {sy : List Nat} {pl : List Src} (h : PlOk S nb sy pl) (h1 : ∀ e t xs fu, S.ob o = .row e t xs .own fu → ¬ (o < nb ∧ sy.elem o = true)) (h2 : (∃ T ls, S.ob o = .box T ls) → nb ≤ o) :
    pl <+: (renId nb o pl).2 ∧ PlOk S nb sy (renId nb o pl).2 ∧ (renId nb o pl).1 < nb + (renId nb o pl).2.length ∧ ∀ {g g' : Env}, Good g g' nb (renId nb o pl).2 → g' (renId nb o pl).1 = g o := by
  unfold renId
  split
  · rename_i j hj
    obtain ⟨_, hj⟩ := findSrc_spec hj
    rw [Nat.sub_zero] at hj
    have := (List.getElem?_eq_some_iff.1 hj).1
    exact ⟨List.prefix_refl _, h, by simp only; omega, fun hg => (hg.2 j).1 o hj⟩
  · rename_i hn
    refine ⟨List.prefix_append _ _, plok_snoc h h1 h2 (.inl (findSrc_none hn)), by simp, fun hg => (hg.2 pl.length).1 o (by simp)⟩
/-- What is said of a part put in order. -/
structure RenOk (S : St) (nb : Nat) (sy : List Nat) (pl pl' : List Src) (rf : List Nat) (en : Env → Env → Prop) : Prop where
  pre : pl <+: pl'
  ok : PlOk S nb sy pl'
  refs : ∀ o ∈ rf, o < nb + pl'.length
  enc : ∀ g g' : Env, Good g g' nb pl' → en g g'
theorem renA_spec {S : St} {nb : Nat} {sy : List Nat} {a a' : At} {pl pl' : List Src} (hpl : PlOk S nb sy pl) (h : renA S nb sy a pl = some (a', pl')) :
    nrmA a' = true ∧ (stor a = true → stor a' = true) ∧ RenOk S nb sy pl pl' (refA a') (fun g g' => encA g' a' = encA g a ∧ val1 g' a' = val1 g a) := by
  have triv : ∀ {x : At}, (∀ g g' : Env, encA g' x = encA g a ∧ val1 g' x = val1 g a) → refA x = [] → RenOk S nb sy pl pl (refA x) (fun g g' => encA g' x = encA g a ∧ val1 g' x = val1 g a) := fun h hr =>
    ⟨List.prefix_refl _, hpl, (by rw [hr]; intro o ho; cases ho), fun g g' _ => h g g'⟩
  have idx : ∀ {x : Nat}, x < nb → ∀ {g g' : Env}, Good g g' nb pl → g' x = g x := fun hx => @fun g g' hg => hg.1 _ hx
  have ref1 : ∀ {i m : Nat}, i < m → ∀ o ∈ [i], o < m := fun h o ho => by simp only [List.mem_singleton] at ho; subst ho; exact h
  cases a with
  | fl t x => simp only [renA, Option.some.injEq, Prod.mk.injEq] at h; obtain ⟨rfl, rfl⟩ := h; exact ⟨rfl, fun _ => rfl, triv (fun _ _ => by cases t <;> exact ⟨rfl, rfl⟩) rfl⟩
  | lit b => simp only [renA, Option.some.injEq, Prod.mk.injEq] at h; obtain ⟨rfl, rfl⟩ := h; exact ⟨rfl, fun _ => rfl, triv (fun _ _ => ⟨rfl, rfl⟩) rfl⟩
  | sl o =>
    simp only [renA] at h
    split at h
    · rename_i e t xs fu ho
      split at h
      · rename_i hs
        simp only [Bool.and_eq_true, decide_eq_true_eq] at hs
        simp only [Option.some.injEq, Prod.mk.injEq] at h; obtain ⟨rfl, rfl⟩ := h
        exact ⟨rfl, fun _ => rfl, List.prefix_refl _, hpl, ref1 (by omega), fun g g' hg => by simp only [encA, val1, idx hs.1 hg, and_self]⟩
      · rename_i hs
        simp only [Bool.and_eq_true, decide_eq_true_eq] at hs
        simp only [Option.some.injEq, Prod.mk.injEq] at h; obtain ⟨rfl, rfl⟩ := h
        obtain ⟨q1, q2, q3, q4⟩ := renId_spec (o := o) hpl (fun _ _ _ _ _ => hs) (fun ⟨T, ls, h⟩ => by rw [ho] at h; cases h)
        exact ⟨rfl, fun _ => rfl, q1, q2, ref1 q3, fun g g' hg => by simp only [encA, val1, q4 hg, and_self]⟩
    · rename_i e t xs m fu hm ho
      simp only [Option.some.injEq, Prod.mk.injEq] at h; obtain ⟨rfl, rfl⟩ := h
      have hmo : m ≠ .own := fun e => hm e
      refine ⟨rfl, fun _ => rfl, List.prefix_append _ _, plok_snoc hpl (fun e t xs fu h => ?_) (fun ⟨T, ls, h⟩ => by rw [ho] at h; cases h) (.inr ⟨e, t, xs, m, fu, ho, hmo⟩), ref1 (by simp), fun g g' hg => ?_⟩
      · rw [ho] at h; cases h; exact absurd rfl hmo
      · have := (hg.2 pl.length).1 o (by simp)
        simp only [encA, val1, this, and_self]
    · cases h
  | nils e t =>
    simp only [renA, Option.some.injEq, Prod.mk.injEq] at h; obtain ⟨rfl, rfl⟩ := h
    refine ⟨rfl, fun _ => rfl, List.prefix_append _ _, plok_nil hpl e t, ref1 (by simp), fun g g' hg => ?_⟩
    have := (hg.2 pl.length).2 e t (by simp)
    simp only [encA, val1, this, nilG, and_self]
  | nil0 => simp only [renA, Option.some.injEq, Prod.mk.injEq] at h; obtain ⟨rfl, rfl⟩ := h; exact ⟨rfl, fun _ => rfl, triv (fun _ _ => ⟨rfl, rfl⟩) rfl⟩
  | ptr b off =>
    simp only [renA] at h
    split at h
    · rename_i hb
      simp only [Option.some.injEq, Prod.mk.injEq] at h; obtain ⟨rfl, rfl⟩ := h
      exact ⟨rfl, fun _ => rfl, List.prefix_refl _, hpl, ref1 (by omega), fun g g' hg => by simp only [encA, val1, idx hb hg, and_self]⟩
    · rename_i hb
      simp only [Option.some.injEq, Prod.mk.injEq] at h; obtain ⟨rfl, rfl⟩ := h
      obtain ⟨q1, q2, q3, q4⟩ := renId_spec (o := b) (sy := sy) hpl (fun _ _ _ _ _ hs => hb hs.1) (fun _ => by omega)
      exact ⟨rfl, fun _ => rfl, q1, q2, ref1 q3, fun g g' hg => by simp only [encA, val1, q4 hg, and_self]⟩
  | asl b off n =>
    simp only [renA] at h
    split at h
    · rename_i hb
      simp only [Option.some.injEq, Prod.mk.injEq] at h; obtain ⟨rfl, rfl⟩ := h
      exact ⟨rfl, fun _ => rfl, List.prefix_refl _, hpl, ref1 (by omega), fun g g' hg => by simp only [encA, val1, idx hb hg, and_self]⟩
    · rename_i hb
      simp only [Option.some.injEq, Prod.mk.injEq] at h; obtain ⟨rfl, rfl⟩ := h
      obtain ⟨q1, q2, q3, q4⟩ := renId_spec (o := b) (sy := sy) hpl (fun _ _ _ _ _ hs => hb hs.1) (fun _ => by omega)
      exact ⟨rfl, fun _ => rfl, q1, q2, ref1 q3, fun g g' hg => by simp only [encA, val1, q4 hg, and_self]⟩
  | nilp => simp only [renA, Option.some.injEq, Prod.mk.injEq] at h; obtain ⟨rfl, rfl⟩ := h; exact ⟨rfl, fun _ => rfl, triv (fun _ _ => ⟨rfl, rfl⟩) rfl⟩
  | nilf => simp only [renA, Option.some.injEq, Prod.mk.injEq] at h; obtain ⟨rfl, rfl⟩ := h; exact ⟨rfl, fun _ => rfl, triv (fun _ _ => ⟨rfl, rfl⟩) rfl⟩
  | nili => simp only [renA, Option.some.injEq, Prod.mk.injEq] at h; obtain ⟨rfl, rfl⟩ := h; exact ⟨rfl, fun _ => rfl, triv (fun _ _ => ⟨rfl, rfl⟩) rfl⟩
  | un => simp only [renA, Option.some.injEq, Prod.mk.injEq] at h; obtain ⟨rfl, rfl⟩ := h; exact ⟨rfl, (fun h => by cases h), triv (fun _ _ => ⟨rfl, rfl⟩) rfl⟩
theorem renAs_spec {S : St} {nb : Nat} {sy : List Nat} : ∀ {ls ls' : List At} {pl pl' : List Src}, PlOk S nb sy pl → renList (renA S nb sy) ls pl = some (ls', pl') →
    ls'.all nrmA = true ∧ (ls.all stor = true → ls'.all stor = true) ∧ RenOk S nb sy pl pl' (ls'.flatMap refA) (fun g g' => encL g' ls' = encL g ls ∧ ls'.map (val1 g') = ls.map (val1 g))
  | [], ls', pl, pl', hpl, h => by
    simp only [renList, Option.some.injEq, Prod.mk.injEq] at h; obtain ⟨rfl, rfl⟩ := h
    exact ⟨rfl, fun _ => rfl, List.prefix_refl _, hpl, by simp, fun _ _ _ => ⟨rfl, rfl⟩⟩
  | a :: ls, ls', pl, pl', hpl, h => by
    simp only [renList] at h
    split at h
    · rename_i a' pl1 ha
      split at h
      · rename_i ls1 pl2 hl
        simp only [Option.some.injEq, Prod.mk.injEq] at h; obtain ⟨rfl, rfl⟩ := h
        obtain ⟨n1, s1, r1⟩ := renA_spec hpl ha
        obtain ⟨n2, s2, r2⟩ := renAs_spec r1.ok hl
        refine ⟨by simp [n1, n2], fun hs => ?_, r1.pre.trans r2.pre, r2.ok, ?_, ?_⟩
        · simp only [List.all_cons, Bool.and_eq_true] at hs ⊢
          exact ⟨s1 hs.1, s2 hs.2⟩
        · intro o ho
          simp only [List.flatMap_cons, List.mem_append] at ho
          rcases ho with ho | ho
          · have h1 := r1.refs o ho; have h2 := r2.pre.length_le; exact Nat.lt_of_lt_of_le h1 (Nat.add_le_add_left h2 nb)
          · exact r2.refs o ho
        · intro g g' hg
          have q1 := r1.enc g g' (hg.pre r2.pre)
          have q2 := r2.enc g g' hg
          refine ⟨?_, by simp only [List.map_cons, q1.2, q2.2]⟩
          have := q2.1
          simp only [encL] at this ⊢
          simp only [List.flatMap_cons, q1.1, this]
      · cases h
    · cases h
theorem renV_spec {S : St} {nb : Nat} {sy : List Nat} {x x' : V1} {pl pl' : List Src} (hpl : PlOk S nb sy pl) (h : renV S nb sy x pl = some (x', pl')) :
    nrmV x' = true ∧ RenOk S nb sy pl pl' (refV x') (fun g g' => encV g' x' = encV g x) := by
  cases x with
  | a x =>
    simp only [renV, Option.map_eq_some_iff, Prod.mk.injEq] at h
    obtain ⟨⟨y, q⟩, hy, rfl, rfl⟩ := h
    obtain ⟨n, _, r⟩ := renA_spec hpl hy
    exact ⟨n, r.pre, r.ok, r.refs, fun g g' hg => (r.enc g g' hg).2⟩
  | fn f fs cs =>
    simp only [renV] at h
    split at h
    · rename_i a pl1 ha
      simp only [Option.map_eq_some_iff, Prod.mk.injEq] at h
      obtain ⟨⟨y, q⟩, hy, rfl, rfl⟩ := h
      obtain ⟨n1, _, r1⟩ := renAs_spec hpl ha
      obtain ⟨n2, _, r2⟩ := renAs_spec r1.ok hy
      refine ⟨by simp [nrmV, n1, n2], r1.pre.trans r2.pre, r2.ok, fun o ho => ?_, fun g g' hg => ?_⟩
      · simp only [refV, List.mem_append] at ho
        rcases ho with ho | ho
        · have h1 := r1.refs o ho; have h2 := r2.pre.length_le; exact Nat.lt_of_lt_of_le h1 (Nat.add_le_add_left h2 nb)
        · exact r2.refs o ho
      · have q1 := r1.enc g g' (hg.pre r2.pre)
        have q2 := r2.enc g g' hg
        simp only [encV, q1.2, q2.2]
    · cases h
  | st ls =>
    simp only [renV, Option.map_eq_some_iff, Prod.mk.injEq] at h
    obtain ⟨⟨y, q⟩, hy, rfl, rfl⟩ := h
    obtain ⟨n, _, r⟩ := renAs_spec hpl hy
    exact ⟨n, r.pre, r.ok, r.refs, fun g g' hg => by simp only [encV, (r.enc g g' hg).1]⟩
  | elp o sz i off => cases h
  | arp b off t n i => cases h
theorem renVs_spec {S : St} {nb : Nat} {sy : List Nat} : ∀ {ls ls' : List V1} {pl pl' : List Src}, PlOk S nb sy pl → renList (renV S nb sy) ls pl = some (ls', pl') →
    ls'.all nrmV = true ∧ RenOk S nb sy pl pl' (ls'.flatMap refV) (fun g g' => ls'.map (encV g') = ls.map (encV g))
  | [], ls', pl, pl', hpl, h => by
    simp only [renList, Option.some.injEq, Prod.mk.injEq] at h; obtain ⟨rfl, rfl⟩ := h
    exact ⟨rfl, List.prefix_refl _, hpl, by simp, fun _ _ _ => rfl⟩
  | a :: ls, ls', pl, pl', hpl, h => by
    simp only [renList] at h
    split at h
    · rename_i a' pl1 ha
      split at h
      · rename_i ls1 pl2 hl
        simp only [Option.some.injEq, Prod.mk.injEq] at h; obtain ⟨rfl, rfl⟩ := h
        obtain ⟨n1, r1⟩ := renV_spec hpl ha
        obtain ⟨n2, r2⟩ := renVs_spec r1.ok hl
        refine ⟨by simp [n1, n2], r1.pre.trans r2.pre, r2.ok, ?_, ?_⟩
        · intro o ho
          simp only [List.flatMap_cons, List.mem_append] at ho
          rcases ho with ho | ho
          · have h1 := r1.refs o ho; have h2 := r2.pre.length_le; exact Nat.lt_of_lt_of_le h1 (Nat.add_le_add_left h2 nb)
          · exact r2.refs o ho
        · intro g g' hg
          simp only [List.map_cons, r1.enc g g' (hg.pre r2.pre), r2.enc g g' hg]
      · cases h
    · cases h
theorem renS_spec {S : St} {nb : Nat} {sy : List Nat} {x x' : SV} {pl pl' : List Src} (hpl : PlOk S nb sy pl) (h : renS S nb sy x pl = some (x', pl')) :
    nrmS x' = true ∧ RenOk S nb sy pl pl' (refS x') (fun g g' => encS g' x' = encS g x) := by
  cases x with
  | v x =>
    simp only [renS, Option.map_eq_some_iff, Prod.mk.injEq] at h
    obtain ⟨⟨y, q⟩, hy, rfl, rfl⟩ := h
    exact renV_spec hpl hy
  | tup xs =>
    simp only [renS, Option.map_eq_some_iff, Prod.mk.injEq] at h
    obtain ⟨⟨y, q⟩, hy, rfl, rfl⟩ := h
    obtain ⟨n, r⟩ := renVs_spec hpl hy
    exact ⟨n, r.pre, r.ok, r.refs, fun g g' hg => by simp only [encS, r.enc g g' hg]⟩
/-- The slots. -/
theorem renSlots_spec {S : St} {nb : Nat} {sy : List Nat} : ∀ (C : List Nat) {pl : List Src}, PlOk S nb sy pl →
    RenOk S nb sy pl (renSlots S nb sy C pl).2 ((renSlots S nb sy C pl).1.flatMap fun p => refS p.2) (fun g g' => ∀ p ∈ (renSlots S nb sy C pl).1, p.1 ∈ C ∧ nrmS p.2 = true ∧ ∃ sv, lookS S.slots p.1 = some sv ∧ encS g' p.2 = encS g sv)
  | [], pl, hpl => ⟨List.prefix_refl _, hpl, by simp [renSlots], fun _ _ _ p hp => by simp [renSlots] at hp⟩
  | t :: C, pl, hpl => by
    simp only [renSlots]
    split
    · rename_i v pl1 hv
      obtain ⟨sv, hsv, hr⟩ := Option.bind_eq_some_iff.1 hv
      obtain ⟨n1, r1⟩ := renS_spec hpl hr
      have r2 := renSlots_spec C r1.ok
      refine ⟨r1.pre.trans r2.pre, r2.ok, ?_, ?_⟩
      · intro o ho
        simp only [List.flatMap_cons, List.mem_append] at ho
        rcases ho with ho | ho
        · have h1 := r1.refs o ho; have h2 := r2.pre.length_le; exact Nat.lt_of_lt_of_le h1 (Nat.add_le_add_left h2 nb)
        · exact r2.refs o ho
      · intro g g' hg p hp
        rcases List.mem_cons.1 hp with rfl | hp
        · exact ⟨List.mem_cons_self .., n1, sv, hsv, r1.enc g g' (hg.pre r2.pre)⟩
        · obtain ⟨q1, q2⟩ := r2.enc g g' hg p hp
          exact ⟨List.mem_cons_of_mem _ q1, q2⟩
    · have r2 := renSlots_spec C hpl
      refine ⟨r2.pre, r2.ok, r2.refs, fun g g' hg p hp => ?_⟩
      obtain ⟨q1, q2⟩ := r2.enc g g' hg p hp
      exact ⟨List.mem_cons_of_mem _ q1, q2⟩
/-- What is made of an object. -/
def Made (g g' : Env) (ob0 ob : Ob) (bd : Nat) : Prop :=
  match ob with
  | .gone => True
  | .box T ls => ∃ ls0, ob0 = .box T ls0 ∧ encL g' ls = encL g ls0 ∧ (ls0.all stor = true → ls.all stor = true) ∧ ∀ o ∈ ls.flatMap refA, o < bd
  | .row e t xs m fu => ∃ m0 fu0, ob0 = .row e t xs m0 fu0 ∧ leM m0 m = true ∧ (fu = true → fu0 = true)
def nrmO : Ob → Bool
  | .box _ ls => ls.all nrmA
  | .row _ _ _ _ fu => !fu
  | .gone => true
theorem leM_refl (m : Md) : leM m m = true := by cases m <;> rfl
theorem renBoxes_spec {S : St} {nb : Nat} {sy : List Nat} : ∀ {M : List Nat} {bx : List (Nat × Ob)} {pl pl' : List Src}, PlOk S nb sy pl → renBoxes S nb sy M pl = some (bx, pl') →
    bx.map (·.1) = M ∧ RenOk S nb sy pl pl' [] (fun g g' => ∀ p ∈ bx, nrmO p.2 = true ∧ Made g g' (S.ob p.1) p.2 (nb + pl'.length) ∧ (∀ e t xs m fu, p.2 = .row e t xs m fu → sy.elem p.1 = true))
  | [], bx, pl, pl', hpl, h => by
    simp only [renBoxes, Option.some.injEq, Prod.mk.injEq] at h; obtain ⟨rfl, rfl⟩ := h
    exact ⟨rfl, List.prefix_refl _, hpl, by simp, fun _ _ _ p hp => by simp at hp⟩
  | b :: M, bx, pl, pl', hpl, h => by
    simp only [renBoxes] at h
    split at h
    · rename_i T ls hb
      split at h
      · rename_i ls' pl1 hl
        simp only [Option.map_eq_some_iff, Prod.mk.injEq] at h
        obtain ⟨⟨bx1, q⟩, hy, rfl, rfl⟩ := h
        obtain ⟨n1, s1, r1⟩ := renAs_spec hpl hl
        obtain ⟨e2, r2⟩ := renBoxes_spec r1.ok hy
        refine ⟨by simp [e2], r1.pre.trans r2.pre, r2.ok, by simp, fun g g' hg p hp => ?_⟩
        rcases List.mem_cons.1 hp with rfl | hp
        · refine ⟨n1, ⟨ls, hb, (r1.enc g g' (hg.pre r2.pre)).1, s1, fun o ho => ?_⟩, fun e t xs m fu h => by cases h⟩
          have h1 := r1.refs o ho; have h2 := r2.pre.length_le; exact Nat.lt_of_lt_of_le h1 (Nat.add_le_add_left h2 nb)
        · exact r2.enc g g' hg p hp
      · cases h
    · rename_i e t xs m fu hb
      simp only [Option.map_eq_some_iff, Prod.mk.injEq] at h
      obtain ⟨⟨bx1, q⟩, hy, rfl, rfl⟩ := h
      obtain ⟨e2, r2⟩ := renBoxes_spec hpl hy
      refine ⟨by simp [e2], r2.pre, r2.ok, by simp, fun g g' hg p hp => ?_⟩
      rcases List.mem_cons.1 hp with rfl | hp
      · simp only
        split
        · rename_i hs
          exact ⟨rfl, ⟨m, fu, hb, leM_refl m, fun h => by cases h⟩, fun _ _ _ _ _ _ => hs⟩
        · exact ⟨rfl, trivial, fun e t xs m fu h => by cases h⟩
      · exact r2.enc g g' hg p hp
    · rename_i hb
      simp only [Option.map_eq_some_iff, Prod.mk.injEq] at h
      obtain ⟨⟨bx1, q⟩, hy, rfl, rfl⟩ := h
      obtain ⟨e2, r2⟩ := renBoxes_spec hpl hy
      refine ⟨by simp [e2], r2.pre, r2.ok, by simp, fun g g' hg p hp => ?_⟩
      rcases List.mem_cons.1 hp with rfl | hp
      · exact ⟨rfl, trivial, fun e t xs m fu h => by cases h⟩
      · exact r2.enc g g' hg p hp
theorem renNews_spec {S : St} {nb : Nat} {sy : List Nat} : ∀ {fuel j : Nat} {os : List Ob} {pl pl' : List Src}, PlOk S nb sy pl → j ≤ pl.length → renNews S nb sy fuel j pl = some (os, pl') →
    j + os.length = pl'.length ∧ RenOk S nb sy pl pl' [] (fun g g' => ∀ (i : Nat) ob, os[i]? = some ob → nrmO ob = true ∧ ((∃ o, pl'[j + i]? = some (.ob o) ∧ ob ≠ .gone ∧ Made g g' (S.ob o) ob (nb + pl'.length)) ∨ ∃ e t, pl'[j + i]? = some (.nil e t) ∧ ob = .row e t [] .own false))
  | 0, j, os, pl, pl', hpl, hj, h => by simp [renNews] at h
  | fuel + 1, j, os, pl, pl', hpl, hj, h => by
    have keep : ∀ {pl pl' : List Src} {s : Src}, pl <+: pl' → pl[j]? = some s → pl'[j]? = some s := fun {pl pl' s} hp hs => by
      obtain ⟨ext, rfl⟩ := hp
      rw [List.getElem?_append_left (List.getElem?_eq_some_iff.1 hs).1]; exact hs
    simp only [renNews] at h
    split at h
    · rename_i hn
      simp only [Option.some.injEq, Prod.mk.injEq] at h; obtain ⟨rfl, rfl⟩ := h
      have := List.getElem?_eq_none_iff.1 hn
      exact ⟨by simp; omega, List.prefix_refl _, hpl, by simp, fun _ _ _ i ob hi => by simp at hi⟩
    · rename_i e t hs
      simp only [Option.map_eq_some_iff, Prod.mk.injEq] at h
      obtain ⟨⟨os1, q⟩, hy, rfl, rfl⟩ := h
      obtain ⟨e2, r2⟩ := renNews_spec hpl (by have := (List.getElem?_eq_some_iff.1 hs).1; omega) hy
      refine ⟨by simp; omega, r2.pre, r2.ok, by simp, fun g g' hg i ob hi => ?_⟩
      match i with
      | 0 =>
        simp only [List.getElem?_cons_zero, Option.some.injEq] at hi
        subst hi
        exact ⟨rfl, .inr ⟨e, t, by rw [Nat.add_zero]; exact keep r2.pre hs, rfl⟩⟩
      | i + 1 =>
        have := r2.enc g g' hg i ob (by simpa using hi)
        rwa [show j + 1 + i = j + (i + 1) by omega] at this
    · rename_i o hs
      split at h
      · rename_i T ls hb
        split at h
        · rename_i ls' pl1 hl
          simp only [Option.map_eq_some_iff, Prod.mk.injEq] at h
          obtain ⟨⟨os1, q⟩, hy, rfl, rfl⟩ := h
          obtain ⟨n1, s1, r1⟩ := renAs_spec hpl hl
          obtain ⟨e2, r2⟩ := renNews_spec r1.ok (by have := (List.getElem?_eq_some_iff.1 hs).1; have := r1.pre.length_le; omega) hy
          refine ⟨by simp; omega, r1.pre.trans r2.pre, r2.ok, by simp, fun g g' hg i ob hi => ?_⟩
          match i with
          | 0 =>
            simp only [List.getElem?_cons_zero, Option.some.injEq] at hi
            subst hi
            refine ⟨n1, .inl ⟨o, by rw [Nat.add_zero]; exact keep (r1.pre.trans r2.pre) hs, by simp, ls, hb, (r1.enc g g' (hg.pre r2.pre)).1, s1, fun o ho => ?_⟩⟩
            have h1 := r1.refs o ho; have h2 := r2.pre.length_le; exact Nat.lt_of_lt_of_le h1 (Nat.add_le_add_left h2 nb)
          | i + 1 =>
            have := r2.enc g g' hg i ob (by simpa using hi)
            rwa [show j + 1 + i = j + (i + 1) by omega] at this
        · cases h
      · rename_i e t xs m fu hb
        simp only [Option.map_eq_some_iff, Prod.mk.injEq] at h
        obtain ⟨⟨os1, q⟩, hy, rfl, rfl⟩ := h
        obtain ⟨e2, r2⟩ := renNews_spec hpl (by have := (List.getElem?_eq_some_iff.1 hs).1; omega) hy
        refine ⟨by simp; omega, r2.pre, r2.ok, by simp, fun g g' hg i ob hi => ?_⟩
        match i with
        | 0 =>
          simp only [List.getElem?_cons_zero, Option.some.injEq] at hi
          subst hi
          exact ⟨rfl, .inl ⟨o, by rw [Nat.add_zero]; exact keep r2.pre hs, by simp, m, fu, hb, leM_refl m, fun h => by cases h⟩⟩
        | i + 1 =>
          have := r2.enc g g' hg i ob (by simpa using hi)
          rwa [show j + 1 + i = j + (i + 1) by omega] at this
      · cases h
end Go.Proofs.YthdgllldpfeelaaGreatDoor
/- Shapes filled again. No condition. -/
set_option linter.unusedVariables false
set_option linter.unusedSimpArgs false
namespace Go.Proofs.YthdgllldpfeelaaGreatDoor
open Go
theorem castT_self {t : Ty} (x : t.den) : castT (a := t) (b := t) x = some x := by unfold castT; rw [dif_pos rfl]
theorem fiA_co {a : At} (h : nrmA a = true) (ds : List Dyn) : fiA (shA a) (coA a ++ ds) = some (a, ds) := by
  cases a with
  | fl t x =>
    show (castT (a := t) (b := t) x).map (fun x => (At.fl t x, ds)) = _
    rw [castT_self]; rfl
  | lit b => cases h
  | nils e t => cases h
  | _ => rfl
theorem fiList_co {α β : Type} {f : β → List Dyn → Option (α × List Dyn)} {sh : α → β} {co : α → List Dyn} : ∀ (xs : List α) (ds : List Dyn), (∀ x ∈ xs, ∀ ds, f (sh x) (co x ++ ds) = some (x, ds)) → fiList f (xs.map sh) (xs.flatMap co ++ ds) = some (xs, ds)
  | [], ds, _ => rfl
  | x :: xs, ds, h => by
    simp only [List.map_cons, List.flatMap_cons, fiList, List.append_assoc, h x (List.mem_cons_self ..), fiList_co xs ds (fun y hy => h y (List.mem_cons_of_mem _ hy))]
theorem fiAs_co {ls : List At} (h : ls.all nrmA = true) (ds : List Dyn) : fiList fiA (ls.map shA) (coL ls ++ ds) = some (ls, ds) :=
  fiList_co ls ds (fun x hx ds => fiA_co (List.all_eq_true.1 h x hx) ds)
theorem fiV_co {x : V1} (h : nrmV x = true) (ds : List Dyn) : fiV (shV x) (coV x ++ ds) = some (x, ds) := by
  cases x with
  | a x => simp only [shV, coV, fiV, fiA_co h, Option.map_some]
  | fn f fs cs =>
    simp only [nrmV, Bool.and_eq_true] at h
    simp only [shV, coV, fiV, List.append_assoc, fiAs_co h.1, fiAs_co h.2, Option.map_some]
  | st ls => simp only [shV, coV, fiV, fiAs_co h, Option.map_some]
  | elp o sz i off => cases h
  | arp b off t n i => cases h
theorem fiS_co {x : SV} (h : nrmS x = true) (ds : List Dyn) : fiS (shS x) (coS x ++ ds) = some (x, ds) := by
  cases x with
  | v x => simp only [shS, coS, fiS, fiV_co h, Option.map_some]
  | tup xs =>
    simp only [shS, coS, fiS, fiList_co xs ds (fun x hx ds => fiV_co (List.all_eq_true.1 h x hx) ds), Option.map_some]
/-- The same, or a row that is held less. -/
def Wk (ob ob' : Ob) : Prop := match ob with
  | .row e t xs m fu => ∃ m', ob' = .row e t xs m' fu ∧ leM m m' = true
  | o => ob' = o
def All2 {α β : Type} (R : α → β → Prop) : List α → List β → Prop
  | [], [] => True
  | x :: xs, y :: ys => R x y ∧ All2 R xs ys
  | _, _ => False
theorem All2.len {α β : Type} {R : α → β → Prop} : ∀ {xs : List α} {ys : List β}, All2 R xs ys → xs.length = ys.length
  | [], [], _ => rfl
  | x :: xs, y :: ys, h => by simp [All2.len h.2]
  | [], _ :: _, h => h.elim
  | _ :: _, [], h => h.elim
theorem All2.get {α β : Type} {R : α → β → Prop} : ∀ {xs : List α} {ys : List β} {i : Nat} {y : β}, All2 R xs ys → ys[i]? = some y → ∃ x, xs[i]? = some x ∧ R x y
  | [], [], i, y, _, h => by simp at h
  | x :: xs, z :: ys, 0, y, h, hi => by simp only [List.getElem?_cons_zero, Option.some.injEq] at hi; subst hi; exact ⟨x, rfl, h.1⟩
  | x :: xs, z :: ys, i + 1, y, h, hi => All2.get (i := i) h.2 (by simpa using hi)
  | [], _ :: _, _, _, h, _ => h.elim
  | _ :: _, [], _, _, h, _ => h.elim
theorem fiO_co {ob : Ob} {s : OSh} (h : nrmO ob = true) (hs : leO (shO ob) s = true) (ds : List Dyn) : ∃ ob', fiO s (coO ob ++ ds) = some (ob', ds) ∧ Wk ob ob' := by
  cases ob with
  | box T ls =>
    have : s = .box T (ls.map shA) := by
      cases s <;> simp [shO, leO] at hs
      simp [hs]
    subst this
    exact ⟨_, by simp only [coO, fiO, fiAs_co h, Option.map_some], rfl⟩
  | row e t xs m fu =>
    cases s with
    | row e' t' m' =>
      simp only [shO, leO, Bool.and_eq_true, decide_eq_true_eq] at hs
      obtain ⟨⟨rfl, rfl⟩, hm⟩ := hs
      have hf : fu = false := by simpa [nrmO] using h
      subst hf
      refine ⟨.row e t xs m' false, ?_, m', rfl, hm⟩
      show (castT (a := .sl e t) (b := .sl e t) xs).map (fun (xs : List t.den) => (Ob.row e t xs m' false, ds)) = _
      rw [castT_self (t := .sl e t)]; rfl
    | _ => simp [shO, leO] at hs
  | gone =>
    have : s = .gone := by cases s <;> simp [shO, leO] at hs; rfl
    subst this
    exact ⟨_, rfl, rfl⟩
theorem fiOs_co : ∀ {os : List Ob} {ss : List OSh}, os.all nrmO = true → leOs (os.map shO) ss = true → ∀ ds, ∃ os', fiList fiO ss (os.flatMap coO ++ ds) = some (os', ds) ∧ All2 Wk os os'
  | [], [], _, _, ds => ⟨[], rfl, trivial⟩
  | [], _ :: _, _, h, _ => by simp [leOs] at h
  | _ :: _, [], _, h, _ => by simp [leOs] at h
  | o :: os, s :: ss, hn, h, ds => by
    simp only [List.all_cons, Bool.and_eq_true, List.map_cons, leOs] at hn h
    obtain ⟨os', h1, h2⟩ := fiOs_co (os := os) (ss := ss) hn.2 h.2 ds
    obtain ⟨o', h3, h4⟩ := fiO_co hn.1 h.1 (os.flatMap coO ++ ds)
    exact ⟨o' :: os', by simp only [List.flatMap_cons, List.append_assoc, fiList, h3, h1], h4, h2⟩
theorem fiBs_co : ∀ {os : List (Nat × Ob)} {ss : List (Nat × OSh)}, (∀ p ∈ os, nrmO p.2 = true) → os.map (·.1) = ss.map (·.1) → leOs (os.map fun p => shO p.2) (ss.map (·.2)) = true → ∀ ds, ∃ os', fiList (fiP fiO) ss (os.flatMap (fun p => coO p.2) ++ ds) = some (os', ds) ∧ All2 (fun p q => q.1 = p.1 ∧ Wk p.2 q.2) os os'
  | [], [], _, _, _, ds => ⟨[], rfl, trivial⟩
  | [], _ :: _, _, _, h, _ => by simp [leOs] at h
  | _ :: _, [], _, _, h, _ => by simp [leOs] at h
  | o :: os, s :: ss, hn, he, h, ds => by
    simp only [List.map_cons, leOs, Bool.and_eq_true, List.cons.injEq] at he h
    obtain ⟨os', h1, h2⟩ := fiBs_co (os := os) (ss := ss) (fun p hp => hn p (List.mem_cons_of_mem _ hp)) he.2 h.2 ds
    obtain ⟨o', h3, h4⟩ := fiO_co (hn o (List.mem_cons_self ..)) h.1 (os.flatMap (fun p => coO p.2) ++ ds)
    exact ⟨(s.1, o') :: os', by simp only [List.flatMap_cons, List.append_assoc, fiList, fiP, h3, h1, Option.map_some], ⟨he.1.symm, h4⟩, h2⟩
structure WkN (N N' : Nst) : Prop where
  slots : N'.slots = N.slots
  boxes : All2 (fun p q => q.1 = p.1 ∧ Wk p.2 q.2) N.boxes N'.boxes
  news : All2 Wk N.news N'.news
theorem fiN_co {N : Nst} {s : NSh} (h1 : ∀ p ∈ N.slots, nrmS p.2 = true) (h2 : ∀ p ∈ N.boxes, nrmO p.2 = true) (h3 : N.news.all nrmO = true) (hl : leN (shN N) s = true) : ∃ N', fiN s (coN N) = some N' ∧ WkN N N' := by
  simp only [leN, shN, Bool.and_eq_true, decide_eq_true_eq, List.map_map] at hl
  obtain ⟨⟨⟨l1, l2⟩, l3⟩, l4⟩ := hl
  have l1 : s.slots = N.slots.map fun p => (p.1, shS p.2) := (of_decide_eq_true l1).symm
  obtain ⟨os, q1, q2⟩ := fiOs_co h3 l4 []
  have hS := fiList_co (f := fiP fiS) (sh := fun p : Nat × SV => (p.1, shS p.2)) (co := fun p => coS p.2) N.slots (N.boxes.flatMap (fun p => coO p.2) ++ N.news.flatMap coO) (fun p hp ds => by simp only [fiP, fiS_co (h1 p hp), Option.map_some])
  obtain ⟨bs, b1, b2⟩ := fiBs_co (os := N.boxes) (ss := s.boxes) h2 (by simpa [Function.comp_def] using l2) (by simpa [Function.comp_def] using l3) (N.news.flatMap coO)
  rw [List.append_nil] at q1
  refine ⟨⟨N.slots, bs, os⟩, ?_, rfl, b2, q2⟩
  unfold fiN coN
  rw [l1, List.append_assoc, hS]
  simp only [b1, q1, Option.map_some]
/-- What is put into a class comes out of it. -/
theorem injL_elim {R : Type} : ∀ {cs : List (List Ty)} {i : Nat} {ds : List Dyn} {x : DenL cs} {f : Nat → List Dyn → R}, injL cs i ds = some x → elimL cs x f = f i ds
  | [], i, ds, x, f, h => nomatch x
  | [c], 0, ds, x, f, h => by simp only [injL] at h; simp only [elimL, fromD_spec c ds x h]
  | [c], i + 1, ds, x, f, h => by simp [injL] at h
  | c :: d :: r, 0, ds, x, f, h => by
    simp only [injL, Option.map_eq_some_iff] at h
    obtain ⟨y, hy, rfl⟩ := h
    simp only [elimL, caseS, fromD_spec c ds y hy]
  | c :: d :: r, i + 1, ds, x, f, h => by
    simp only [injL, Option.map_eq_some_iff] at h
    obtain ⟨y, hy, rfl⟩ := h
    simp only [elimL, caseS]
    exact injL_elim (f := fun i => f (i + 1)) hy
theorem findCls_spec {e : Ek} {s : NSh} : ∀ {cls : List (Ek × NSh)} {b i : Nat}, findCls e s cls b = some i → b ≤ i ∧ ∃ s', cls[i - b]? = some (e, s') ∧ leN s s' = true
  | [], b, i, h => by simp [findCls] at h
  | (e', s') :: r, b, i, h => by
    simp only [findCls] at h
    split at h
    · rename_i hc
      cases h
      exact ⟨Nat.le_refl _, s', by simp [hc.1], hc.2⟩
    · obtain ⟨h1, s2, h2, h3⟩ := findCls_spec h
      refine ⟨by omega, s2, ?_, h3⟩
      rw [show i - b = (i - (b + 1)) + 1 by omega]; simpa using h2
end Go.Proofs.YthdgllldpfeelaaGreatDoor
/- Ways that meet: a state put in order stands. No condition. -/
set_option linter.unusedVariables false
set_option linter.unusedSimpArgs false
namespace Go.Proofs.YthdgllldpfeelaaGreatDoor
open Go
theorem look_app : ∀ (l m : List (Nat × SV)) (t : Nat), lookS (l ++ m) t = (lookS l t).or (lookS m t)
  | [], m, t => rfl
  | (i, v) :: l, m, t => by
    simp only [List.cons_append, lookS]
    split
    · rfl
    · exact look_app l m t
theorem look_filter (f : Nat → Bool) : ∀ (l : List (Nat × SV)) (t : Nat), lookS (l.filter fun p => f p.1) t = if f t = true then lookS l t else none
  | [], t => by simp [lookS]
  | (i, v) :: l, t => by
    simp only [List.filter_cons]
    have ih := look_filter f l t
    by_cases hi : f i = true
    · rw [if_pos hi]
      simp only [lookS, ih]
      by_cases e : i = t
      · subst e; simp [hi]
      · simp [e]
    · rw [if_neg hi, ih]
      simp only [lookS]
      by_cases e : i = t
      · subst e; simp [hi]
      · simp [e]
theorem look_mem : ∀ {l : List (Nat × SV)} {t : Nat} {v : SV}, lookS l t = some v → (t, v) ∈ l
  | [], t, v, h => by simp [lookS] at h
  | (i, u) :: l, t, v, h => by
    simp only [lookS] at h
    split at h
    · rename_i e
      cases h
      have : i = t := by simpa using e
      subst this; exact List.mem_cons_self ..
    · exact List.mem_cons_of_mem _ (look_mem h)
theorem fold_set : ∀ (bx : List (Nat × Ob)) (l : List Ob) (i : Nat), (bx.foldl (fun l p => l.set p.1 p.2) l).length = l.length ∧
    ((i ∉ bx.map (·.1) ∧ (bx.foldl (fun l p => l.set p.1 p.2) l).getD i .gone = l.getD i .gone) ∨ ∃ p ∈ bx, p.1 = i ∧ ((bx.foldl (fun l p => l.set p.1 p.2) l).getD i .gone = p.2 ∨ (bx.foldl (fun l p => l.set p.1 p.2) l).getD i .gone = .gone))
  | [], l, i => ⟨rfl, .inl ⟨by simp, rfl⟩⟩
  | p :: bx, l, i => by
    obtain ⟨h1, h2⟩ := fold_set bx (l.set p.1 p.2) i
    simp only [List.foldl_cons]
    refine ⟨by rw [h1]; simp, ?_⟩
    rcases h2 with ⟨h2, h3⟩ | ⟨q, hq, h2, h3⟩
    · by_cases e : p.1 = i
      · refine .inr ⟨p, List.mem_cons_self .., e, ?_⟩
        rw [h3]
        subst e
        by_cases hl : p.1 < l.length
        · left; simp [List.getD_eq_getElem?_getD, hl]
        · right; simp [List.getD_eq_getElem?_getD, hl]
      · refine .inl ⟨by simp only [List.map_cons, List.mem_cons, not_or]; exact ⟨fun h => e h.symm, h2⟩, ?_⟩
        rw [h3]
        simp [List.getD_eq_getElem?_getD, List.getElem?_set, e]
    · exact .inr ⟨q, List.mem_cons_of_mem _ hq, h2, h3⟩
theorem leM_trans {a b c : Md} (h : leM a b = true) (k : leM b c = true) : leM a c = true := by cases a <;> cases b <;> cases c <;> simp_all [leM]
theorem made_wk {g g' : Env} {ob0 ob ob' : Ob} {bd : Nat} (h : Made g g' ob0 ob bd) (k : Wk ob ob') : Made g g' ob0 ob' bd := by
  cases ob with
  | gone => have : ob' = .gone := k; subst this; trivial
  | box T ls => have : ob' = .box T ls := k; subst this; exact h
  | row e t xs m fu =>
    obtain ⟨m', rfl, hm⟩ := k
    obtain ⟨m0, fu0, h1, h2, h3⟩ := h
    exact ⟨m0, fu0, h1, leM_trans h2 hm, h3⟩
section
variable {P : Program} {g g' g'' g0 : Env} {γ : Ghost} {S S' S'' base : St} {n : Nat} {a a0 : Act} {w0 w w' : World} {D A : Nat → Prop} {σ : Nat → Nat} {bd σ0 : Nat}
/-- Objects out of objects; each of one's own once. -/
structure Ren (g' : Env) (S' : St) (g'' : Env) (S'' : St) (bd : Nat) (σ : Nat → Nat) (fr : Nat → Prop) : Prop where
  ob : ∀ i, S''.ob i = .gone ∨ (∃ e t m, S''.ob i = .row e t [] m false ∧ g'' i = nilG) ∨ fr i
  frm : ∀ i, fr i → g'' i = g' (σ i) ∧ Made g' g'' (S'.ob (σ i)) (S''.ob i) bd
  once : ∀ i k, i ≠ k → fr i → fr k → σ i = σ k → shared (S'.ob (σ i))
theorem Ren.own {frm : Nat → Prop} (R : Ren g' S' g'' S'' bd σ frm) {i : Nat} (h : ∃ b, (entL g'' i (S''.ob i)).dom b) : frm i ∧ ¬ shared (S'.ob (σ i)) := by
  obtain ⟨b, hb⟩ := h
  rcases R.ob i with h | ⟨e, t, m, h, hg⟩ | h
  · rw [h] at hb; exact hb.elim
  · rw [h] at hb
    cases m with
    | own =>
      have : (g'' i).v.ownBlock = some b := hb
      rw [hg] at this
      simp [nilG, Value.ownBlock] at this
    | rd => exact hb.elim
    | lent => exact hb.elim
  · refine ⟨h, ?_⟩
    rintro ⟨e, t, xs, m, fu, hs, hm⟩
    obtain ⟨_, hM⟩ := R.frm i h
    rw [hs] at hM
    cases ho : S''.ob i with
    | gone => rw [ho] at hb; exact hb.elim
    | box T ls => rw [ho] at hM; obtain ⟨ls0, h1, _⟩ := hM; cases h1
    | row e' t' xs' m' fu' =>
      rw [ho] at hM hb
      obtain ⟨m0, fu0, h1, h2, _⟩ := hM
      cases h1
      cases m' with
      | own => cases m <;> simp_all [leM]
      | rd => exact hb.elim
      | lent => exact hb.elim
theorem row_dom {e : Nat} {u : Ty} {xs : List u.den} {b : Nat} (h1 : OwnR w e u.sz (g' σ0).v xs.length (g' σ0).cs) (q2 : addrOf (g' σ0).v = some b) : (g' σ0).v.ownBlock = some b := by
  exact own_block h1 q2
theorem cx_ren {frm : Nat → Prop} (R : Ren g' S' g'' S'' bd σ frm) (C : Cx g' S' w0 D A w) : Cx g'' S'' w0 D A w := by
  refine cf_remap2 C σ (fun i => ?_) (fun i j hij hi hj hs => ?_) (fun i => ?_)
  · rcases R.ob i with h | ⟨e, t, m, h, hg⟩ | h
    · simp only [h]; exact ⟨trivial, fun b hb => hb.elim⟩
    · simp only [h]
      cases m with
      | own =>
        refine ⟨?_, fun b hb => ?_⟩
        · simp only [entL, hg, nilG]; exact own_nil _ _ _
        · have : (g'' i).v.ownBlock = some b := hb
          rw [hg] at this
          simp [nilG, Value.ownBlock] at this
      | rd => exact ⟨trivial, fun b hb => hb.elim⟩
      | lent => exact ⟨trivial, fun b hb => hb.elim⟩
    · obtain ⟨hg, hM⟩ := R.frm i h
      have hL := C.okL (σ i)
      cases ho : S''.ob i with
      | gone => exact ⟨trivial, fun b hb => hb.elim⟩
      | box T ls =>
        rw [ho] at hM
        obtain ⟨ls0, h1, h2, _⟩ := hM
        have : entL g'' i (.box T ls) = entL g' (σ i) (S'.ob (σ i)) := by simp only [h1, entL, boxT, hg, h2]
        simp only [ho, this]
        exact ⟨hL, fun _ => id⟩
      | row e t xs m fu =>
        rw [ho] at hM
        obtain ⟨m0, fu0, h1, h2, _⟩ := hM
        cases m with
        | own =>
          cases m0 <;> simp [leM] at h2
          have : entL g'' i (.row e t xs .own fu) = entL g' (σ i) (S'.ob (σ i)) := by simp only [h1, entL, hg]
          simp only [ho, this]
          exact ⟨hL, fun _ => id⟩
        | rd => exact ⟨trivial, fun b hb => hb.elim⟩
        | lent => exact ⟨trivial, fun b hb => hb.elim⟩
  · obtain ⟨fi, ni⟩ := R.own hi
    obtain ⟨fj, nj⟩ := R.own hj
    exact ni (R.once i j hij fi fj hs)
  · rcases R.ob i with h | ⟨e, t, m, h, hg⟩ | h
    · simp only [h]; exact ⟨trivial, fun b hb => hb.elim⟩
    · simp only [h]
      have hnil : ∀ f ∈ (⟨nilG.v, 0, t.sz, nilG.cs⟩ :: nilG.fs : List Fact), f.cs = [] ∧ Rds f.v f.n f.sz f.cs w := by
        intro f hf
        simp only [nilG, List.mem_cons, List.not_mem_nil, or_false] at hf
        subst hf
        exact ⟨rfl, rds_nil _ w⟩
      cases m with
      | own =>
        refine ⟨fun f hf => ?_, fun b ⟨f, hf, h1, h2⟩ => ?_⟩
        · rw [hg] at hf; cases hf
        · rw [hg] at hf; cases hf
      | rd =>
        refine ⟨fun f hf => ?_, fun b ⟨f, hf, h1, h2⟩ => ?_⟩
        · rw [hg] at hf; exact (hnil f hf).2
        · rw [hg] at hf; exact absurd (hnil f hf).1 h1
      | lent =>
        refine ⟨fun f hf => ?_, fun b ⟨f, hf, h1, h2⟩ => ?_⟩
        · rw [hg] at hf; exact (hnil f hf).2
        · rw [hg] at hf; exact absurd (hnil f hf).1 h1
    · obtain ⟨hg, hM⟩ := R.frm i h
      have hR := C.okR (σ i)
      have hL := C.okL (σ i)
      cases ho : S''.ob i with
      | gone => exact ⟨trivial, fun b hb => hb.elim⟩
      | box T ls => exact ⟨trivial, fun b hb => hb.elim⟩
      | row e t xs m fu =>
        rw [ho] at hM
        obtain ⟨m0, fu0, h1, h2, _⟩ := hM
        simp only [h1] at hR hL
        -- a row of one's own that is read from now on
        have weak : ∀ q : Bool, m ≠ .own → m0 = .own → (factsE q (⟨(g' (σ i)).v, xs.length, t.sz, (g' (σ i)).cs⟩ :: (g' (σ i)).fs)).ok w ∧
            ∀ b, (factsE q (⟨(g' (σ i)).v, xs.length, t.sz, (g' (σ i)).cs⟩ :: (g' (σ i)).fs)).dom b →
              (∃ j, (entR g' j (S'.ob j)).dom b ∧ (q = false → (entR g' j (S'.ob j)).lent = false)) ∨ (∃ j, (entL g' j (S'.ob j)).dom b ∧ ∀ k, (∃ b, (entL g'' k (S''.ob k)).dom b) → σ k ≠ j) := by
          intro q hm hm0
          subst hm0
          refine ⟨fun f hf => ?_, fun b ⟨f, hf, q1, q2⟩ => ?_⟩
          · rcases List.mem_cons.1 hf with rfl | hf
            · exact rds_own hL
            · exact hR f hf
          · rcases List.mem_cons.1 hf with rfl | hf
            · refine .inr ⟨σ i, ?_, fun k hk e' => ?_⟩
              · simp only [h1, entL]
                exact row_dom (σ0 := σ i) (u := t) hL q2
              · obtain ⟨fk, nk⟩ := R.own hk
                by_cases hki : k = i
                · subst hki
                  obtain ⟨b', hb'⟩ := hk
                  rw [ho] at hb'
                  cases m with
                  | own => exact absurd rfl hm
                  | rd => exact hb'.elim
                  | lent => exact hb'.elim
                · exact nk (R.once k i hki fk h e')
            · exact .inl ⟨σ i, by simp only [h1, entR]; exact ⟨f, hf, q1, q2⟩, fun _ => by simp only [h1]; rfl⟩
        cases m with
        | own =>
          cases m0 <;> simp [leM] at h2
          simp only [entR, hg]
          exact ⟨hR, fun b hb => .inl ⟨σ i, by simp only [h1, entR]; exact hb, fun _ => by simp only [h1]; rfl⟩⟩
        | rd =>
          simp only [entR, hg]
          cases m0 with
          | own =>
            obtain ⟨q1, q2⟩ := weak false (by simp) rfl
            refine ⟨q1, fun b hb => ?_⟩
            rcases q2 b hb with ⟨j, x1, x2⟩ | h
            · exact .inl ⟨j, x1, fun _ => x2 rfl⟩
            · exact .inr h
          | rd => exact ⟨hR, fun b hb => .inl ⟨σ i, by simp only [h1, entR]; exact hb, fun _ => by simp only [h1]; rfl⟩⟩
          | lent => simp [leM] at h2
        | lent =>
          simp only [entR, hg]
          cases m0 with
          | own =>
            obtain ⟨q1, q2⟩ := weak true (by simp) rfl
            refine ⟨q1, fun b hb => ?_⟩
            rcases q2 b hb with ⟨j, x1, x2⟩ | h
            · exact .inl ⟨j, x1, fun hl => by cases hl⟩
            · exact .inr h
          | rd => exact ⟨hR, fun b hb => .inl ⟨σ i, by simp only [h1, entR]; exact hb, fun hl => by cases hl⟩⟩
          | lent => exact ⟨hR, fun b hb => .inl ⟨σ i, by simp only [h1, entR]; exact hb, fun hl => by cases hl⟩⟩
end
end Go.Proofs.YthdgllldpfeelaaGreatDoor
/- Ways that meet. No condition. -/
set_option linter.unusedVariables false
set_option linter.unusedSimpArgs false
namespace Go.Proofs.YthdgllldpfeelaaGreatDoor
open Go
theorem made_mono {g g' : Env} {ob0 ob : Ob} {bd bd' : Nat} (h : Made g g' ob0 ob bd) (k : bd ≤ bd') : Made g g' ob0 ob bd' := by
  cases ob with
  | gone => trivial
  | box T ls => obtain ⟨ls0, h1, h2, h3, h4⟩ := h; exact ⟨ls0, h1, h2, h3, fun o ho => Nat.lt_of_lt_of_le (h4 o ho) k⟩
  | row e t xs m fu => exact h
theorem all2_fst : ∀ {bx bx' : List (Nat × Ob)}, All2 (fun p q => q.1 = p.1 ∧ Wk p.2 q.2) bx bx' → bx'.map (·.1) = bx.map (·.1)
  | [], [], _ => rfl
  | p :: bx, q :: bx', h => by simp [h.1.1, all2_fst h.2]
  | [], _ :: _, h => h.elim
  | _ :: _, [], h => h.elim
theorem moved_mem {S : St} {nb : Nat} {pl : List Src} {o j : Nat} {e : Nat} {t : Ty} {xs : List t.den} {fu : Bool} (h : pl[j]? = some (.ob o)) (ho : S.ob o = .row e t xs .own fu) (hlt : o < nb) : o ∈ movedSrc S nb pl := by
  unfold movedSrc
  refine List.mem_filterMap.2 ⟨.ob o, List.mem_of_getElem? h, ?_⟩
  simp only [ho, if_pos hlt]
def newG (g : Env) (nb : Nat) (pl : List Src) : Env := fun i => if i < nb then g i else match pl[i - nb]? with
  | some (.ob o) => g o
  | some (.nil _ _) => nilG
  | none => g i
def newS (nb : Nat) (pl : List Src) (i : Nat) : Nat := if i < nb then i else match pl[i - nb]? with
  | some (.ob o) => o
  | _ => i
theorem newG_good (g : Env) (nb : Nat) (pl : List Src) : Good g (newG g nb pl) nb pl := by
  refine ⟨fun i hi => by simp [newG, hi], fun j => ⟨fun o ho => ?_, fun e t ho => ?_⟩⟩
  · simp only [newG, if_neg (show ¬ nb + j < nb by omega), show nb + j - nb = j by omega, ho]
  · simp only [newG, if_neg (show ¬ nb + j < nb by omega), show nb + j - nb = j by omega, ho]
section
variable {P : Program} {g g' g'' g0 : Env} {γ : Ghost} {S S' S'' base : St} {n : Nat} {a a0 : Act} {w0 w w' : World} {D A : Nat → Prop} {d : Nat → Prop}
theorem join_spec {N N' : Nst} {pl : List Src} {sy M C : List Nat} {dfs : Nat} (hS : S.slots = base.slots) (hO : S.obs = base.obs) (F0 : Fit g0 γ base n a0) (F : Fit g' γ S' n a) (C' : Cx g' S' w0 D A w) (K : Kp g0 base d g' S')
    (hd : ∀ t, d t → bit dfs t = true) (hC : ∀ t ∈ C, bit dfs t = true) (hN : norm base.obs.length sy M C S' = some (N, pl))
    (hmv : (movedSrc S' base.obs.length pl).all (M.elem ·) = true) (hmd : (S'.mods.filter (· < base.obs.length)).all (M.elem ·) = true) (W : WkN N N') :
    ∃ g'', Fit g'' γ (fillB S dfs N') n a ∧ Cx g'' (fillB S dfs N') w0 D A w ∧ Kp g0 S (fun t => bit dfs t = true) g'' (fillB S dfs N') := by
  obtain ⟨nb, hnb⟩ : ∃ nb, nb = base.obs.length := ⟨_, rfl⟩
  rw [← hnb] at hN hmv hmd
  unfold norm at hN
  split at hN
  · rename_i bx pl1 hbx
    obtain ⟨⟨os, plq⟩, hos, he⟩ := Option.map_eq_some_iff.1 hN
    simp only [Prod.mk.injEq] at he
    obtain ⟨rfl, rfl⟩ := he
    have P0 : PlOk S' nb sy [] := fun j o h => by simp at h
    have R1 := renSlots_spec (S := S') (nb := nb) (sy := sy) C P0
    obtain ⟨e2, R2⟩ := renBoxes_spec R1.ok hbx
    obtain ⟨e3, R3⟩ := renNews_spec R2.ok (Nat.zero_le _) hos
    rw [Nat.zero_add] at e3
    have G3 := newG_good g' nb plq
    have G2 := G3.pre R3.pre
    have G1 := G2.pre R2.pre
    obtain ⟨g'', hg''⟩ : ∃ g'', g'' = newG g' nb plq := ⟨_, rfl⟩
    rw [← hg''] at G1 G2 G3
    have hlow : ∀ i, i < nb → g'' i = g' i := G3.1
    obtain ⟨ws, wb, wn⟩ := W
    simp only at ws wb wn
    have hlenN : N'.news.length = plq.length := by rw [← wn.len, e3]
    have hfst : N'.boxes.map (·.1) = M := by rw [all2_fst wb, e2]
    obtain ⟨S'', hS''⟩ : ∃ S'', S'' = fillB S dfs N' := ⟨_, rfl⟩
    rw [← hS'']
    have hbl : (N'.boxes.foldl (fun l p => l.set p.1 p.2) S.obs).length = nb := by rw [(fold_set N'.boxes S.obs 0).1, hO, hnb]
    have hlen : S''.obs.length = nb + plq.length := by simp only [hS'', fillB, List.length_append, hbl, hlenN]
    have obLo : ∀ i, i < nb → S''.ob i = (N'.boxes.foldl (fun l p => l.set p.1 p.2) S.obs).getD i .gone := fun i hi => by
      simp only [hS'', fillB, St.ob, List.getD_eq_getElem?_getD]
      rw [List.getElem?_append_left (by rw [hbl]; exact hi)]
    have obHi : ∀ i, nb ≤ i → S''.ob i = N'.news.getD (i - nb) .gone := fun i hi => by
      simp only [hS'', fillB, St.ob, List.getD_eq_getElem?_getD]
      rw [List.getElem?_append_right (by rw [hbl]; exact hi), hbl]
    have notM : ∀ i, i < nb → i ∉ M → i ∉ S'.mods := fun i hi hm hmo => hm (by
      have := List.all_eq_true.1 hmd i (List.mem_filter.2 ⟨hmo, by simpa using hi⟩)
      simpa using this)
    have sameLo : ∀ i, i < nb → i ∉ M → S'.ob i = base.ob i ∧ g' i = g0 i := fun i hi hm => K.same i (by rw [← hnb]; exact hi) (notM i hi hm)
    -- what stands below
    have low : ∀ i, i < nb → (i ∉ M ∧ S''.ob i = S'.ob i) ∨ S''.ob i = .gone ∨ (Made g' g'' (S'.ob i) (S''.ob i) (nb + plq.length) ∧ ∀ e t xs m fu, S''.ob i = .row e t xs m fu → sy.elem i = true) := by
      intro i hi
      rw [obLo i hi]
      rcases (fold_set N'.boxes S.obs i).2 with ⟨h1, h2⟩ | ⟨p', hp', h1, h2⟩
      · rw [hfst] at h1
        refine .inl ⟨h1, ?_⟩
        rw [h2, (sameLo i hi h1).1, hO]; rfl
      · refine .inr ?_
        rcases h2 with h2 | h2
        · refine .inr ?_
          rw [h2]
          obtain ⟨k, hk⟩ := List.mem_iff_getElem?.1 hp'
          obtain ⟨p, hp, hq, hw⟩ := wb.get hk
          obtain ⟨q1, q2, q3⟩ := R2.enc g' g'' G2 p (List.mem_of_getElem? hp)
          have hpi : p.1 = i := hq.symm.trans h1
          rw [hpi] at q2 q3
          refine ⟨made_mono (made_wk q2 hw) (Nat.add_le_add_left R3.pre.length_le nb), fun e t xs m fu h => ?_⟩
          cases hp2 : p.2 with
          | row e' t' xs' m' fu' => exact q3 _ _ _ _ _ hp2
          | box T ls => rw [hp2] at hw; have : p'.2 = .box T ls := hw; rw [this] at h; cases h
          | gone => rw [hp2] at hw; have : p'.2 = .gone := hw; rw [this] at h; cases h
        · exact .inl h2
    have madeSelf : ∀ i, i < nb → i ∉ M → Made g' g'' (S'.ob i) (S'.ob i) (nb + plq.length) := by
      intro i hi hm
      have hb := (sameLo i hi hm).1
      cases ho : S'.ob i with
      | gone => trivial
      | box T ls =>
        have hr := F0.rb i T ls (by rw [← hb, ho])
        rw [← hnb] at hr
        exact ⟨ls, rfl, encL_ext ls (fun o hoo => hlow o (hr o hoo)), id, fun o hoo => Nat.lt_of_lt_of_le (hr o hoo) (Nat.le_add_right _ _)⟩
      | row e t xs m fu => exact ⟨m, fu, rfl, leM_refl m, id⟩
    -- what stands above
    have high : ∀ i, nb ≤ i → S''.ob i = .gone ∨ (∃ e t m, S''.ob i = .row e t [] m false ∧ g'' i = nilG) ∨ ∃ o, plq[i - nb]? = some (.ob o) ∧ S''.ob i ≠ .gone ∧ Made g' g'' (S'.ob o) (S''.ob i) (nb + plq.length) := by
      intro i hi
      rw [obHi i hi]
      cases hk : N'.news[i - nb]? with
      | none => left; simp [List.getD_eq_getElem?_getD, hk]
      | some ob' =>
        have hgd : N'.news.getD (i - nb) .gone = ob' := by simp [List.getD_eq_getElem?_getD, hk]
        rw [hgd]
        obtain ⟨ob, hob, hw⟩ := wn.get hk
        obtain ⟨q1, q2⟩ := R3.enc g' g'' G3 (i - nb) ob hob
        rw [Nat.zero_add] at q2
        rcases q2 with ⟨o, h1, h2, h3⟩ | ⟨e, t, h1, h2⟩
        · refine .inr (.inr ⟨o, h1, ?_, made_wk h3 hw⟩)
          cases ob with
          | gone => exact absurd rfl h2
          | box T ls => have : ob' = .box T ls := hw; subst this; simp
          | row e t xs m fu => obtain ⟨m', rfl, _⟩ := hw; simp
        · subst h2
          obtain ⟨m', rfl, _⟩ := hw
          refine .inr (.inl ⟨e, t, m', rfl, ?_⟩)
          have := (G3.2 (i - nb)).2 e t h1
          rwa [show nb + (i - nb) = i by omega] at this
    obtain ⟨frm, hfrm⟩ : ∃ frm : Nat → Prop, frm = fun i => S''.ob i ≠ .gone ∧ (i < nb ∨ ∃ o, plq[i - nb]? = some (.ob o)) := ⟨_, rfl⟩
    have sLo : ∀ i, i < nb → newS nb plq i = i := fun i hi => by simp [newS, hi]
    have sHi : ∀ i o, nb ≤ i → plq[i - nb]? = some (.ob o) → newS nb plq i = o := fun i o hi ho => by simp [newS, Nat.not_lt.2 hi, ho]
    have madeLo : ∀ i, i < nb → S''.ob i ≠ .gone → Made g' g'' (S'.ob i) (S''.ob i) (nb + plq.length) := fun i hi hne => by
      rcases low i hi with ⟨h1, h2⟩ | h | ⟨h, _⟩
      · rw [h2]; exact madeSelf i hi h1
      · exact absurd h hne
      · exact h
    have R : Ren g' S' g'' S'' (nb + plq.length) (newS nb plq) frm := by
      subst hfrm
      refine ⟨fun i => ?_, fun i hi => ?_, fun i k hik hi hk hs => ?_⟩
      · rcases Nat.lt_or_ge i nb with h | h
        · by_cases hg : S''.ob i = .gone
          · exact .inl hg
          · exact .inr (.inr ⟨hg, .inl h⟩)
        · rcases high i h with h1 | h1 | ⟨o, h1, h2, _⟩
          · exact .inl h1
          · exact .inr (.inl h1)
          · exact .inr (.inr ⟨h2, .inr ⟨o, h1⟩⟩)
      · rcases Nat.lt_or_ge i nb with h | h
        · rw [sLo i h]; exact ⟨hlow i h, madeLo i h hi.1⟩
        · obtain ⟨o, ho⟩ := hi.2.resolve_left (by omega)
          rw [sHi i o h ho]
          refine ⟨?_, ?_⟩
          · have := (G3.2 (i - nb)).1 o ho
            rwa [show nb + (i - nb) = i by omega] at this
          · rcases high i h with h1 | ⟨e, t, m, h1, h2⟩ | ⟨o', h1, h2, h3⟩
            · exact absurd h1 hi.1
            · -- a row of nothing has no source
              have hlt := (List.getElem?_eq_some_iff.1 ho).1
              rcases high i h with h1' | h1' | ⟨o', h1', _, h3⟩
              · exact absurd h1' hi.1
              · -- both: decided by the list
                have hgd := obHi i h
                cases hk : N'.news[i - nb]? with
                | none => rw [hgd] at h1; simp [List.getD_eq_getElem?_getD, hk] at h1
                | some ob' =>
                  obtain ⟨ob, hob, hw⟩ := wn.get hk
                  obtain ⟨q1, q2⟩ := R3.enc g' g'' G3 (i - nb) ob hob
                  rw [Nat.zero_add, ho] at q2
                  have e1 : S''.ob i = ob' := by rw [hgd]; simp [List.getD_eq_getElem?_getD, hk]
                  rw [e1]
                  rcases q2 with ⟨o2, q2, _, q3⟩ | ⟨_, _, q2, _⟩
                  · cases q2; exact made_wk q3 hw
                  · cases q2
              · rw [ho] at h1'; cases h1'; exact h3
            · rw [ho] at h1; cases h1; exact h3
      · -- each once
        have mixed : ∀ i k, i < nb → nb ≤ k → S''.ob i ≠ .gone → ∀ o, plq[k - nb]? = some (.ob o) → i = o → shared (S'.ob i) := by
          intro i k hi hk hne o ho e
          subst e
          obtain ⟨p1, p2, _⟩ := R3.ok _ _ ho
          have hM := madeLo i hi hne
          cases hob : S'.ob i with
          | gone =>
            rw [hob] at hM
            cases h2 : S''.ob i with
            | gone => exact absurd h2 hne
            | box T ls => rw [h2] at hM; obtain ⟨_, h, _⟩ := hM; cases h
            | row e t xs m fu => rw [h2] at hM; obtain ⟨_, _, h, _⟩ := hM; cases h
          | box T ls => have := p2 ⟨T, ls, hob⟩; omega
          | row e t xs m fu =>
            cases m with
            | own =>
              have hns : ¬ sy.elem i = true := fun h => p1 e t xs fu hob ⟨hi, h⟩
              have hiM : i ∈ M := by
                have := List.all_eq_true.1 hmv i (moved_mem ho hob hi)
                simpa using this
              rcases low i hi with ⟨h1, _⟩ | h | ⟨hm, hr⟩
              · exact absurd hiM h1
              · exact absurd h hne
              · cases h2 : S''.ob i with
                | gone => exact absurd h2 hne
                | box T ls => rw [h2, hob] at hm; obtain ⟨_, h, _⟩ := hm; cases h
                | row e' t' xs' m' fu' => exact absurd (hr _ _ _ _ _ h2) hns
            | rd => exact ⟨e, t, xs, .rd, fu, rfl, by simp⟩
            | lent => exact ⟨e, t, xs, .lent, fu, rfl, by simp⟩
        rcases Nat.lt_or_ge i nb with h | h
        · rcases Nat.lt_or_ge k nb with h' | h'
          · rw [sLo i h, sLo k h'] at hs; exact absurd hs hik
          · obtain ⟨o, ho⟩ := hk.2.resolve_left (by omega)
            rw [sLo i h, sHi k o h' ho] at hs
            rw [sLo i h]
            exact mixed i k h h' hi.1 o ho hs
        · obtain ⟨o, ho⟩ := hi.2.resolve_left (by omega)
          rcases Nat.lt_or_ge k nb with h' | h'
          · rw [hs]
            rw [sLo k h', sHi i o h ho] at hs
            rw [sLo k h']
            exact mixed k i h' h hk.1 o ho hs.symm
          · obtain ⟨o', ho'⟩ := hk.2.resolve_left (by omega)
            rw [sHi i o h ho, sHi k o' h' ho'] at hs
            subst hs
            rw [sHi i o h ho]
            exact (R3.ok _ _ ho).2.2 (k - nb) (by omega) ho'
    have hslots : S''.slots = (base.slots.filter fun p => !(bit dfs p.1)) ++ (renSlots S' nb sy C []).1 := by simp only [hS'', fillB, hS, ws]
    -- a slot is one that stays, or one that is new
    have slotCase : ∀ t sv, lookS S''.slots t = some sv → (¬ d t ∧ lookS base.slots t = some sv ∧ lookS S'.slots t = some sv) ∨ (t, sv) ∈ (renSlots S' nb sy C []).1 := by
      intro t sv h
      rw [hslots, look_app, look_filter (fun t => !(bit dfs t))] at h
      by_cases hb : bit dfs t = true
      · rw [if_neg (by simp [hb])] at h
        exact .inr (look_mem (by simpa using h))
      · rw [if_pos (by simpa using hb)] at h
        have hnd : ¬ d t := fun hdt => hb (hd t hdt)
        cases hl : lookS base.slots t with
        | none => rw [hl] at h; exact .inr (look_mem (by simpa using h))
        | some u =>
          rw [hl] at h
          simp only [Option.some_or, Option.some.injEq] at h
          subst h
          exact .inl ⟨hnd, rfl, (K.slots t hnd).trans hl⟩
    refine ⟨g'', ⟨F.size, F.lo, F.defers, fun t sv h => ?_, fun i => ?_, fun t sv h => ?_, fun t sv h => ?_, fun i T ls h => ?_⟩, cx_ren R C', ?_⟩
    · rcases slotCase t sv h with ⟨hnd, h1, h2⟩ | hm
      · have := F.sl t sv h2
        rwa [encS_ext (g := g') (g' := g'') sv (fun o ho => hlow o (by rw [hnb]; exact F0.rs t sv h1 o ho))]
      · obtain ⟨_, _, sv0, h1, h2⟩ := R1.enc g' g'' G1 _ hm
        simp only at h1 h2
        rw [h2]
        exact F.sl t sv0 h1
    · rcases R.ob i with h | ⟨e, t, m, h, hg⟩ | h
      · rw [h]; trivial
      · rw [h]
        refine ⟨by rw [hg]; exact ⟨rfl, rfl⟩, by rw [hg]; exact ⟨none, 0, rfl, fun _ => rfl⟩, fun h => by cases h⟩
      · obtain ⟨hg, hM⟩ := R.frm i h
        have hp := F.ob (newS nb plq i)
        cases ho : S''.ob i with
        | gone => trivial
        | box T ls =>
          rw [ho] at hM
          obtain ⟨ls0, h1, _, h3, _⟩ := hM
          rw [h1] at hp
          exact h3 hp
        | row e t xs m fu =>
          rw [ho] at hM
          obtain ⟨m0, fu0, h1, _, h3⟩ := hM
          rw [h1] at hp
          exact ⟨by rw [hg]; exact hp.1, by rw [hg]; exact hp.2.1, fun hf => by rw [hg]; exact hp.2.2 (h3 hf)⟩
    · rcases slotCase t sv h with ⟨hnd, h1, h2⟩ | hm
      · have hok := F.ok t sv h2
        have hrs := F0.rs t sv h1
        have okE : ∀ v : V1, (∀ o ∈ refV v, o < nb) → okV S' v → okV S'' v := fun v hr hv => by
          cases v with
          | elp o sz i off =>
            intro e t xs m fu he
            have hlt : o < nb := hr o (by simp [refV])
            have hM := madeLo o hlt (by rw [he]; simp)
            rw [he] at hM
            obtain ⟨m0, fu0, h1, _⟩ := hM
            exact hv e t xs m0 fu0 h1
          | arp b off t n i => exact hv
          | _ => trivial
        cases sv with
        | v x => exact okE x (fun o ho => by rw [hnb]; exact hrs o ho) hok
        | tup xs => exact fun x hx => okE x (fun o ho => by rw [hnb]; exact hrs o (List.mem_flatMap.2 ⟨x, hx, ho⟩)) (hok x hx)
      · obtain ⟨_, hn, _⟩ := R1.enc g' g'' G1 _ hm
        simp only at hn
        have okE : ∀ v : V1, nrmV v = true → okV S'' v := fun v hv => by
          cases v with
          | elp o sz i off => cases hv
          | arp b off t n i => cases hv
          | _ => trivial
        cases sv with
        | v x => exact okE x hn
        | tup xs => exact fun x hx => okE x (List.all_eq_true.1 hn x hx)
    · rw [hlen]
      rcases slotCase t sv h with ⟨hnd, h1, h2⟩ | hm
      · exact fun o ho => by have := F0.rs t sv h1 o ho; omega
      · intro o ho
        have h1 := R1.refs o (List.mem_flatMap.2 ⟨_, hm, ho⟩)
        have h2 := (R2.pre.trans R3.pre).length_le
        omega
    · rw [hlen]
      rcases R.ob i with h' | ⟨e, t, m, h', _⟩ | h'
      · rw [h'] at h; cases h
      · rw [h'] at h; cases h
      · obtain ⟨_, hM⟩ := R.frm i h'
        rw [h] at hM
        obtain ⟨_, _, _, _, h4⟩ := hM
        exact h4
    · refine ⟨by rw [hlen, hO, ← hnb]; omega, fun i hi => ?_, fun i hi hm => ?_, fun i hi => ?_, fun t ht => ?_, fun i hi e t xs m fu h => ?_⟩
      · rw [hO] at hi
        rw [hlow i (by rw [hnb]; exact hi)]
        exact K.vb i hi
      · rw [hO] at hi
        have hiM : i ∉ M := fun h => hm (by simp only [hS'', fillB, hfst, List.mem_append]; exact .inl h)
        have hi' : i < nb := by rw [hnb]; exact hi
        obtain ⟨q1, q2⟩ := sameLo i hi' hiM
        refine ⟨?_, (hlow i hi').trans q2⟩
        have : S.ob i = base.ob i := by simp only [St.ob, hO]
        rw [this]
        rcases low i hi' with ⟨_, h2⟩ | h | ⟨h, _⟩
        · exact h2.trans q1
        · rw [obLo i hi'] at h ⊢
          rcases (fold_set N'.boxes S.obs i).2 with ⟨_, h2⟩ | ⟨p', hp', h1, _⟩
          · rw [h2, hO]; rfl
          · exact absurd (by rw [← hfst, ← h1]; exact List.mem_map_of_mem hp') hiM
        · rw [obLo i hi']
          rcases (fold_set N'.boxes S.obs i).2 with ⟨_, h2⟩ | ⟨p', hp', h1, _⟩
          · rw [h2, hO]; rfl
          · exact absurd (by rw [← hfst, ← h1]; exact List.mem_map_of_mem hp') hiM
      · simp only [hS'', fillB, List.mem_append]; exact .inr hi
      · rw [hslots, look_app, look_filter (fun t => !(bit dfs t)), if_pos (by simpa using ht), hS]
        have hnone : lookS (renSlots S' nb sy C []).1 t = none := by
          cases hl : lookS (renSlots S' nb sy C []).1 t with
          | none => rfl
          | some u =>
            have := (R1.enc g' g'' G1 _ (look_mem hl)).1
            exact absurd (hC t this) ht
        rw [hnone]; simp
      · rw [hO] at hi
        have hM := madeLo i (by rw [hnb]; exact hi) (by rw [h]; simp)
        rw [h] at hM
        obtain ⟨m0, fu0, h1, _⟩ := hM
        have hSb : S.ob i = base.ob i := by simp only [St.ob, hO]
        rw [hSb]
        exact K.rows i hi e t xs m0 fu0 h1
  · cases hN
end
end Go.Proofs.YthdgllldpfeelaaGreatDoor
/- Ways that meet, loops. No condition. -/
set_option linter.unusedVariables false
set_option linter.unusedSimpArgs false
namespace Go.Proofs.YthdgllldpfeelaaGreatDoor
open Go
def bitP (d : Nat) : Nat → Prop := fun t => bit d t = true
theorem bit_or {x y t : Nat} : bit (x ||| y) t = true ↔ bit x t = true ∨ bit y t = true := by simp [bit, Nat.testBit_or]
theorem bit_and {x y t : Nat} : bit (x &&& y) t = true ↔ bit x t = true ∧ bit y t = true := by simp [bit, Nat.testBit_and]
theorem bit_one (t : Nat) : bit (1 <<< t) t = true := by simp [bit, Nat.testBit_shiftLeft]
theorem bits_mem {n b t : Nat} (h : t ∈ bitsToList n b) : bit b t = true := (List.mem_filter.1 h).2
theorem dsts_bit : ∀ {os : List Oper} {t : Nat}, dsts os t → bitP (defsOps os) t
  | [], t, ⟨o, ho, _⟩ => by cases ho
  | o :: os, t, ⟨o', ho', hd⟩ => by
    rw [bitP, defsOps]
    refine bit_or.2 ?_
    rcases List.mem_cons.1 ho' with rfl | h
    · left; rw [hd]; exact bit_one t
    · exact .inr (dsts_bit ⟨o', h, hd⟩)
theorem norm_nrm {nb : Nat} {sy M C : List Nat} {S : St} {N : Nst} {pl : List Src} (h : norm nb sy M C S = some (N, pl)) : (∀ p ∈ N.slots, nrmS p.2 = true) ∧ (∀ p ∈ N.boxes, nrmO p.2 = true) ∧ N.news.all nrmO = true := by
  unfold norm at h
  split at h
  · rename_i bx pl1 hbx
    obtain ⟨⟨os, plq⟩, hos, he⟩ := Option.map_eq_some_iff.1 h
    simp only [Prod.mk.injEq] at he
    obtain ⟨rfl, rfl⟩ := he
    have P0 : PlOk S nb sy [] := fun j o h => by simp at h
    have R1 := renSlots_spec (S := S) (nb := nb) (sy := sy) C P0
    obtain ⟨e2, R2⟩ := renBoxes_spec R1.ok hbx
    obtain ⟨e3, R3⟩ := renNews_spec R2.ok (Nat.zero_le _) hos
    have G3 := newG_good env0 nb plq
    have G2 := G3.pre R3.pre
    have G1 := G2.pre R2.pre
    refine ⟨fun p hp => (R1.enc _ _ G1 p hp).2.1, fun p hp => (R2.enc _ _ G2 p hp).1, List.all_eq_true.2 fun ob hob => ?_⟩
    obtain ⟨i, hi⟩ := List.mem_iff_getElem?.1 hob
    exact (R3.enc _ _ G3 i ob hi).1
  · cases h
/-! ### marks of deferred calls that are none -/
def markOf (D : Nat) : Deferred := { target := .collected D, args := #[] }
/-- The frame's deferred calls are marks of empty blocks. -/
def Mk (γ : Ghost) (w : World) : Prop := γ.lo ≤ w.heap.size ∧ ∃ Ds : List Nat, γ.ds = Ds.map markOf ∧ Ds.Pairwise (· ≠ ·) ∧ ∀ D ∈ Ds, γ.lo ≤ D ∧ w.heap[D]? = some (.deferred (some []))
theorem mk_nil {f : Nat → Value} {lo : Nat} {gp : ∀ t, rG ≤ t → GlV (f t) (t % shift)} {w : World} (h : lo ≤ w.heap.size) : Mk ⟨f, [], lo, gp⟩ w := ⟨h, [], rfl, .nil, fun _ h => by cases h⟩
theorem ent_cellsL {g : Env} {i : Nat} {o : Ob} {w : World} {b : Nat} (h : (entL g i o).ok w) (hd : (entL g i o).dom b) : ∃ x : Obj, w.heap[b]? = some x ∧ x.isCells = true := by
  cases o with
  | box T ls => have e : b = (g i).b := hd; subst e; exact ⟨_, h, rfl⟩
  | row e t xs m fu =>
    cases m with
    | own =>
      have h : OwnR w e t.sz (g i).v xs.length (g i).cs := h
      have hd : (g i).v.ownBlock = some b := hd
      rcases h.see.2 with hn | ⟨q, cap, cur, e', fz, hv, hgg, rest⟩
      · rw [hn.1] at hd; simp [Value.ownBlock] at hd
      · rw [hv] at hd
        simp [Value.ownBlock] at hd
        subst hd
        exact ⟨_, hgg, rfl⟩
    | rd => exact hd.elim
    | lent => exact hd.elim
  | gone => exact hd.elim
theorem facts_cells {l : Bool} {F : List Fact} {w : World} {b : Nat} (h : (factsE l F).ok w) (hd : (factsE l F).dom b) : ∃ x : Obj, w.heap[b]? = some x ∧ x.isCells = true := by
  obtain ⟨f, hf, hne, ha⟩ := hd
  obtain ⟨_, ao, c, hv, _, _, _, h2⟩ := h f hf
  obtain ⟨u, us, hus⟩ := List.exists_cons_of_ne_nil hne
  obtain ⟨ad, rfl, hc⟩ := h2 0 u (by rw [hus]; rfl)
  rw [hv] at ha
  have e : ad.block = b := by simpa [addrOf] using ha
  obtain ⟨x, h1, h2⟩ := cells_of_cell hc
  rw [add_block, e] at h1
  exact ⟨x, h1, h2⟩
theorem ent_cellsR {g : Env} {i : Nat} {o : Ob} {w : World} {b : Nat} (h : (entR g i o).ok w) (hd : (entR g i o).dom b) : ∃ x : Obj, w.heap[b]? = some x ∧ x.isCells = true := by
  cases o with
  | box T ls => exact hd.elim
  | row e t xs m fu => cases m <;> exact facts_cells h hd
  | gone => exact hd.elim
/-- The context from here on. -/
theorem cf_self {w0 w : World} {D A : Nat → Prop} {L R : Nat → Ent} (C : CtxF w0 D A L R w) : CtxF w (domF L) (freeF R) L R w :=
  ⟨Fr.refl _ _, C.okL, C.okR, fun i b hb => .inl ⟨i, hb⟩, C.sepL, C.sepR, fun i hl b hb => .inl ⟨i, hl, hb⟩⟩
theorem cf_then {w0 w w' : World} {D A : Nat → Prop} {L R L' R' : Nat → Ent} (C : CtxF w0 D A L R w) (K : CtxF w (domF L) (freeF R) L' R' w') : CtxF w0 D A L' R' w' := by
  refine ⟨C.fr.trans K.fr (fun x hx => ?_), K.okL, K.okR, fun i b hb => ?_, K.sepL, K.sepR, fun i hl b hb => ?_⟩
  · obtain ⟨i, hi⟩ := hx; exact C.mine i x hi
  · rcases K.mine i b hb with ⟨j, hj⟩ | h
    · exact C.mine j b hj
    · exact .inr (Nat.le_trans C.fr.size h)
  · rcases K.src i hl b hb with ⟨j, h1, h2⟩ | ⟨j, hj⟩ | h
    · exact C.src j h1 b h2
    · exact .inr (C.mine j b hj)
    · exact .inr (.inr (Nat.le_trans C.fr.size h))
/-- What changes is none of the cells that are spoken of. -/
theorem cf_off {w0 w w' : World} {D A F : Nat → Prop} {g : Env} {S : St} (C : Cx g S w0 D A w) (h : Fr F w w') (hF : ∀ b, F b → b < w.heap.size → ∃ o : Obj, w.heap[b]? = some o ∧ o.isCells = false) (hD : ∀ b, F b → D b ∨ w0.heap.size ≤ b) : Cx g S w0 D A w' := by
  have no : ∀ {b : Nat}, b < w.heap.size → (∃ x : Obj, w.heap[b]? = some x ∧ x.isCells = true) → ¬ F b := fun {b} hlt ⟨x, h1, h2⟩ hb => by
    obtain ⟨o, h3, h4⟩ := hF b hb hlt
    rw [h1] at h3; cases h3; rw [h2] at h4; cases h4
  have lt : ∀ {b : Nat}, (∃ x : Obj, w.heap[b]? = some x ∧ x.isCells = true) → b < w.heap.size := fun {b} ⟨x, h1, _⟩ => (Array.getElem?_eq_some_iff.1 h1).1
  refine ⟨C.fr.trans h hD, fun i => ?_, fun i => ?_, C.mine, C.sepL, C.sepR, C.src⟩
  · exact Ent.keep _ (C.okL i) h (fun b hb => by have := ent_cellsL (C.okL i) hb; exact no (lt this) this)
  · exact Ent.keep _ (C.okR i) h (fun b hb => by have := ent_cellsR (C.okR i) hb; exact no (lt this) this)
theorem cx_self {w0 w : World} {D A : Nat → Prop} {g : Env} {S : St} (C : Cx g S w0 D A w) : Cx g S w (domF fun i => entL g i (S.ob i)) (freeF fun i => entR g i (S.ob i)) w := cf_self C
/-- What lay, and is no cells, lies as it lay. -/
theorem cx_lies {w0 w w' : World} {D A : Nat → Prop} {g g' : Env} {S S' : St} (C : Cx g S w0 D A w) (K : Cx g' S' w (domF fun i => entL g i (S.ob i)) (freeF fun i => entR g i (S.ob i)) w') {b : Nat} {o : Obj} (h : w.heap[b]? = some o) (ho : o.isCells = false) :
    w'.heap[b]? = some o := by
  rw [K.fr.block b (Array.getElem?_eq_some_iff.1 h).1 (fun hd => ?_)]
  · exact h
  · obtain ⟨i, hi⟩ := hd
    obtain ⟨x, h1, h2⟩ := ent_cellsL (C.okL i) hi
    rw [h] at h1; cases h1; rw [ho] at h2; cases h2
theorem mk_keep {w0 w w' : World} {D A : Nat → Prop} {g g' : Env} {S S' : St} {γ : Ghost} (C : Cx g S w0 D A w) (K : Cx g' S' w (domF fun i => entL g i (S.ob i)) (freeF fun i => entR g i (S.ob i)) w') (h : Mk γ w) : Mk γ w' := by
  obtain ⟨h0, Ds, h1, h2, h3⟩ := h
  exact ⟨Nat.le_trans h0 K.fr.size, Ds, h1, h2, fun D hD => ⟨(h3 D hD).1, cx_lies C K (h3 D hD).2 rfl⟩⟩
section
variable {P : Program} {g g' g'' g0 : Env} {γ γ0 : Ghost} {S S' S'' base : St} {n : Nat} {a a0 : Act} {w0 w w' : World} {D A : Nat → Prop} {d : Nat → Prop}
theorem fit_f {γ' : Ghost} (F : Fit g γ S n a) (h : SameG γ' γ) (hd : γ'.ds = γ.ds) : Fit g γ' S n a := ⟨F.size, F.lo, F.defers.trans hd.symm, fun t sv hl => by have := F.sl t sv hl; rwa [h.f], F.ob, F.ok, F.rs, F.rb⟩
theorem fit_ds {ds : List Deferred} (F : Fit g γ S n a) : Fit g ⟨γ.f, ds, γ.lo, γ.gp⟩ S n { a with defers := ds } := ⟨F.size, F.lo, rfl, F.sl, F.ob, F.ok, F.rs, F.rb⟩
/-- What is put into a class stands, whatever is made of it. -/
def Stands (e : Ek) (S : St) (dfs : Nat) (c : Cls) (x : DenL c.T) (g0 : Env) (γ : Ghost) (n : Nat) (a : Act) (w0 : World) (D A : Nat → Prop) (w : World) : Prop :=
  ∀ (R : Type) (K : Ek → St → Option R) (ps : List Plan) (r : R), elimL c.T x (afterE (optA R) S dfs c.cls ps K) = some r →
    ∃ g'' γ' S'', K e S'' = some r ∧ Fit g'' γ' S'' n a ∧ Cx g'' S'' w0 D A w ∧ Mk γ' w ∧ SameG γ' γ ∧ Kp g0 S (bitP dfs) g'' S''
theorem injE_spec {c : Cls} {lv : Ek → Nat} {e : Ek} {dfs : Nat} {x : DenL c.T} {γ' : Ghost} (hS : S.slots = base.slots) (hO : S.obs = base.obs) (F0 : Fit g0 γ base n a0) (F : Fit g' γ' S' n a) (C' : Cx g' S' w0 D A w) (M : Mk γ' w) (hf : SameG γ' γ) (K : Kp g0 base d g' S')
    (hd : ∀ t, d t → bitP dfs t) (h : injE base dfs c lv e S' = some x) : Stands e S dfs c x g0 γ n a w0 D A w := by
  intro R KK ps r hr
  unfold injE at h
  split at h
  · rename_i N pl hN
    split at h
    · rename_i hc
      simp only [Bool.and_eq_true] at hc
      split at h
      · rename_i i hi
        obtain ⟨_, s', hs, hl⟩ := findCls_spec hi
        rw [Nat.sub_zero] at hs
        rw [injL_elim h] at hr
        unfold afterE at hr
        rw [hs] at hr
        simp only at hr
        obtain ⟨n1, n2, n3⟩ := norm_nrm hN
        obtain ⟨N', hfi, hW⟩ := fiN_co n1 n2 n3 hl
        rw [hfi] at hr
        simp only at hr
        have F0' : Fit g0 γ' base n { a0 with defers := γ'.ds } := fit_f (fit_ds (ds := γ'.ds) F0) ⟨hf.f, hf.lo⟩ rfl
        obtain ⟨g'', q1, q2, q3⟩ := join_spec hS hO F0' F C' K hd (fun t ht => (bit_and.1 (bits_mem ht)).2) hN hc.1 hc.2 hW
        exact ⟨g'', γ', _, hr, fit_to q1 _, q2, M, hf, kp_to q3 _⟩
      · cases h
    · cases h
  · cases h
theorem fit_fresh (F : Fit g γ S n a) : Fit g γ (fresh S) n a := ⟨F.size, F.lo, F.defers, F.sl, F.ob, F.ok, F.rs, F.rb⟩
def toX : Ek → Exit
  | .normal => .normal
  | .exit i => .exit i
  | .ret => .ret
/-- A piece of code is walked: what a run makes of it is what it does. -/
def RunOk (n : Nat) (dfs : Nat) (run : Run) (W : (Exit → Act → World → Prop) → Act → World → Prop) : Prop :=
  ∀ {α : Type} {K : Ek → St → Option α} {out : α} {Q : Exit → Act → World → Prop} {g : Env} {γ : Ghost} {S : St} {a : Act} {w w0 : World} {D A : Nat → Prop}, run _ (optA α) S K = some out → Fit g γ S n a → Cx g S w0 D A w → Mk γ w →
    (∀ g' γ' S' e a' w', K e S' = some out → Fit g' γ' S' n a' → Cx g' S' w0 D A w' → Mk γ' w' → SameG γ' γ → Kp g S (bitP dfs) g' S' → Q (toX e) a' w') → W Q a w
/-- The same, where no mark is made. -/
def RunOk1 (γ : Ghost) (n : Nat) (dfs : Nat) (run : Run) (W : (Exit → Act → World → Prop) → Act → World → Prop) : Prop :=
  ∀ {α : Type} {K : Ek → St → Option α} {out : α} {Q : Exit → Act → World → Prop} {g : Env} {S : St} {a : Act} {w w0 : World} {D A : Nat → Prop}, run _ (optA α) S K = some out → Fit g γ S n a → Cx g S w0 D A w →
    (∀ g' S' e a' w', K e S' = some out → Fit g' γ S' n a' → Cx g' S' w0 D A w' → Kp g S (bitP dfs) g' S' → Q (toX e) a' w') → W Q a w
theorem run_lift {dfs : Nat} {run : Run} {W : (Exit → Act → World → Prop) → Act → World → Prop} (h : ∀ γ, RunOk1 γ n dfs run W) : RunOk n dfs run W :=
  fun {α K out Q g γ S a w w0 D A} hr F C M hK =>
    h γ hr F (cx_self C) (fun g' S' e a' w' h1 h2 h3 h4 => hK g' γ S' e a' w' h1 h2 (cf_then C h3) (mk_keep C h3 M) (SameG.refl _) h4)
theorem joinE_spec {α : Type} {K : Ek → St → Option α} {out : α} {Q : Exit → Act → World → Prop} {dfs : Nat} {lv : Ek → Nat} {c : Cls} {p : Plan} {ps : List Plan} {run : Run} {W : (Exit → Act → World → Prop) → Act → World → Prop} (hrun : RunOk n dfs run W)
    (h : joinE (optA α) S dfs lv c p ps run K = some out) (F : Fit g γ S n a) (C : Cx g S w0 D A w) (M : Mk γ w)
    (hK : ∀ g' γ' S' e a' w', K e S' = some out → Fit g' γ' S' n a' → Cx g' S' w0 D A w' → Mk γ' w' → SameG γ' γ → Kp g S (bitP dfs) g' S' → Q (toX e) a' w') : W Q a w := by
  unfold joinE at h
  obtain ⟨y, hy, h⟩ := Option.bind_eq_some_iff.1 h
  refine hrun hy (fit_to (fit_fresh F) _) C M (fun g' γ' S' e a' w' hi F' C' M' hf Z => ?_)
  have Z' : Kp g (fresh S) (bitP dfs) g' S' := ⟨Z.len, Z.vb, Z.same, Z.mods, Z.slots, Z.rows⟩
  obtain ⟨g'', γ'', S'', q1, q2, q3, q4, q5, q6⟩ := injE_spec (S := S) (base := fresh S) rfl rfl (fit_fresh F) F' C' M' hf Z' (fun _ => id) hi _ _ _ _ h
  exact hK g'' γ'' S'' e a' w' q1 q2 q3 q4 q5 q6
theorem loopE_spec {α : Type} {K : Ek → St → Option α} {out : α} {Q : Exit → Act → World → Prop} {dfs k : Nat} {lv : Ek → Nat} {run : Run} {ro : Option Nat} {b : Code} {hd oc : Cls} {hs os : List Plan} (hrun : RunOk n dfs run (fun Q a w => b.wpIn (FR ro) 3 P Q a w))
    (h : loopE k (optA α) S dfs lv run K hd oc hs os = some out) (F : Fit g γ S n a) (C : Cx g S w0 D A w) (M : Mk γ w)
    (hK : ∀ g' γ' S' e a' w', K e S' = some out → Fit g' γ' S' n a' → Cx g' S' w0 D A w' → Mk γ' w' → SameG γ' γ → Kp g S (bitP dfs) g' S' → Q (toX e) a' w') : (Code.loop b).wpIn (FR ro) 3 P Q a w := by
  unfold loopE at h
  obtain ⟨y, hy, h⟩ := Option.bind_eq_some_iff.1 h
  obtain ⟨x0, hx0, hl0⟩ := Option.bind_eq_some_iff.1 hy
  refine c_loop (I := fun j a w => ∃ x, loopK j (loopStep (fresh S) dfs lv run hd oc hs) x = some y ∧ Stands .normal (fresh S) dfs hd x g γ n a w0 D A w) rfl k
    ⟨x0, hl0, injE_spec (S := fresh S) (base := fresh S) rfl rfl (fit_fresh F) (fit_fresh F) C M (SameG.refl _) (Kp.refl g (fresh S) (bitP dfs)) (fun _ => id) hx0⟩ ?_
  rintro j a1 w1 ⟨x, hx, hst⟩
  cases j with
  | zero => simp [loopK] at hx
  | succ j =>
    simp only [loopK] at hx
    obtain ⟨z, hz, hx⟩ := Option.bind_eq_some_iff.1 hx
    obtain ⟨g1, γ1, S1, q1, q2, q3, qm, qf, q4⟩ := hst _ _ _ _ hz
    refine hrun q1 q2 q3 qm (fun g2 γ2 S2 e a2 w2 hk F2 C2 M2 hf2 Z2 => ?_)
    have Z := q4.trans Z2 (fun _ => id) (fun _ => id)
    by_cases he : e = .normal
    · subst he
      rw [if_pos rfl] at hk
      obtain ⟨x', hx', rfl⟩ := Option.map_eq_some_iff.1 hk
      exact ⟨j, Nat.lt_succ_self j, x', hx, injE_spec (S := fresh S) (base := fresh S) rfl rfl (fit_fresh F) F2 C2 M2 (hf2.trans qf) Z (fun _ => id) hx'⟩
    · rw [if_neg he] at hk
      obtain ⟨x', hx', rfl⟩ := Option.map_eq_some_iff.1 hk
      simp only [caseS, Option.some.injEq] at hx
      subst hx
      obtain ⟨g3, γ3, S3, p1, p2, p3, pm, pf, p4⟩ := injE_spec (S := S) (base := fresh S) rfl rfl (fit_fresh F) F2 C2 M2 (hf2.trans qf) Z (fun _ => id) hx' _ _ _ _ h
      have := hK g3 γ3 S3 e a2 w2 p1 p2 p3 pm pf p4
      cases e with
      | normal => exact absurd rfl he
      | exit i => exact this
      | ret => exact this
end
end Go.Proofs.YthdgllldpfeelaaGreatDoor
/- Regions that draw within a round; a range over slices.Backward. No condition. -/
set_option linter.unusedVariables false
set_option linter.unusedSimpArgs false
namespace Go.Proofs.YthdgllldpfeelaaGreatDoor
open Go
/-! ### what only numbers and places tell -/
def VB (g g' : Env) (o : Nat) : Prop := (g' o).v = (g o).v ∧ (g' o).b = (g o).b
theorem val1_vb {g g' : Env} (a : At) (h : ∀ o ∈ refA a, VB g g' o) : val1 g' a = val1 g a := by
  cases a with
  | fl t x => cases t <;> rfl
  | _ => simp_all [val1, refA, VB]
theorem mapv_vb {g g' : Env} : ∀ (ls : List At), (∀ o ∈ ls.flatMap refA, VB g g' o) → ls.map (val1 g') = ls.map (val1 g)
  | [], _ => rfl
  | a :: ls, h => by
    simp only [List.flatMap_cons, List.mem_append] at h
    rw [List.map_cons, List.map_cons, val1_vb a (fun o ho => h o (.inl ho)), mapv_vb ls (fun o ho => h o (.inr ho))]
theorem encV_vb {g g' : Env} (x : V1) (h : ∀ o ∈ refV x, VB g g' o) : encV g' x = encV g x := by
  cases x with
  | a x => exact val1_vb x h
  | elp o sz i off => simp only [refV, List.mem_singleton, forall_eq] at h; simp only [encV, h.1]
  | arp b off t n i => simp only [refV, List.mem_singleton, forall_eq] at h; simp only [encV, h.2]
  | fn f fs cs =>
    simp only [refV, List.mem_append] at h
    simp only [encV, mapv_vb fs (fun o ho => h o (.inl ho)), mapv_vb cs (fun o ho => h o (.inr ho))]
  | st ls => simp only [encV, encL_vb ls h]
theorem encS_vb {g g' : Env} (x : SV) (h : ∀ o ∈ refS x, VB g g' o) : encS g' x = encS g x := by
  cases x with
  | v x => exact encV_vb x h
  | tup xs =>
    simp only [encS]
    congr 2
    apply List.map_congr_left
    intro x hx
    exact encV_vb x (fun o ho => h o (List.mem_flatMap.2 ⟨x, hx, ho⟩))
/-! ### a region that draws, in a round -/
/-- A post that only code's own ends meet. -/
def tameQ (Q : Exit → Act → World → Prop) : Exit → Act → World → Prop
  | .normal, a, w => Q .normal a w
  | .exit i, a, w => Q (.exit i) a w
  | .ret, a, w => Q .ret a w
  | _, _, _ => False
theorem noDef_spec {op : Op} (h : noDef op = true) : ∀ c, op ≠ .defer c := by
  intro c hc; rw [hc] at h; cases h
theorem any_in {P : Program} {ro : Option Nat} {ops : Array Oper} {Q : Exit → Act → World → Prop} (hno : ∀ a w, ¬ Q .outgrown a w) (hd : ∀ (i : Nat) (o : Oper), ops[i]? = some o → ∀ c, o.op ≠ .defer c) : ∀ (fuel : Nat) (listed : Array Bool) (a : Act) (w : World),
    wpAny P .any ops Q fuel listed a w → wpAnyIn (FR ro) 3 P .any ops Q fuel listed a w
  | 0, listed, a, w, h => h
  | fuel + 1, listed, a, w, ⟨h0, h1⟩ => by
    refine ⟨h0, fun i hi => ?_⟩
    have h := h1 i hi
    unfold wpOp at h
    unfold wpOpIn
    cases ho : ops[i]? with
    | none =>
      rw [ho] at h
      exact any_in hno hd fuel _ _ _ h
    | some o =>
      rw [ho] at h
      simp only at h ⊢
      split
      · rename_i hw
        rw [if_pos hw] at h
        rcases h with h | ⟨_, _, _, hq⟩
        · refine ⟨fun _ _ => trivial, ?_⟩
          rw [Oper.semAt_eq _ _ _ (hd i o ho)]
          unfold Oper.wp at h
          generalize (execOp a.eval o).run P w = r at h ⊢
          cases r with
          | ok x w' =>
            cases x with
            | value v => exact any_in hno hd fuel _ _ _ h
            | skip => exact any_in hno hd fuel _ _ _ h
            | defer d => exact any_in hno hd fuel _ _ _ h
            | enter f args =>
              refine ⟨fun _ => by decide, callsIn_wide.2 (Calls.mono h ?_)⟩
              rintro e w'' he
              cases e with
              | returned v => exact any_in hno hd fuel _ _ _ he
              | panicked c => exact he
              | outgrown => obtain ⟨_, _, hq⟩ := he; exact (hno _ _ hq).elim
            | row row args =>
              refine ⟨fun _ => by decide, fun c cs _ => ?_⟩
              obtain ⟨v, w'', hR, hs⟩ := h c cs
              exact ⟨v, w'', any_in hno hd fuel _ _ _ hR, stepsIn_wide.2 hs⟩
            | round l f t s b => exact h.elim
            | _ => exact h.elim
          | halt x w' =>
            cases x <;> first | exact h.elim | exact h
        · exact (hno _ _ hq).elim
      · rename_i hw
        rw [if_neg hw] at h
        exact ⟨fun _ _ => trivial, any_in hno hd fuel _ _ _ h⟩
theorem tame_of {P : Program} {ro : Option Nat} {c : Code} {Q : Exit → Act → World → Prop} {a : Act} {w : World} (h : c.wpIn (FR ro) 3 P (tameQ Q) a w) : c.wpIn (FR ro) 3 P Q a w :=
  wpIn_mono h fun e a w q => by cases e <;> first | exact q | exact q.elim
theorem c_drawsR {P : Program} {ro : Option Nat} {Q : Exit → Act → World → Prop} {a : Act} {w : World} {c : Code} {N : Nat} (q : Nat) (h : c.kind.1 = 3) (hm : P.follows .mixedOrders = true) (S : Nat → World → Prop) (hN : c.ops.size = N)
    (hl : (lastB c.ops q && Region.noSelect c.ops) = true) (hnd : ∀ o ∈ c.ops.toList, noDef o.op = true)
    (hd : ∀ w', Fr nob w w' → drE P c.ops (tameQ Q) S q N [] a w') : c.wpIn (FR ro) 3 P Q a w := by
  simp only [Bool.and_eq_true] at hl
  cases c <;> simp [Code.kind] at h
  case region i o d =>
    cases d <;> simp at h
    refine tame_of (c_calm (wpIn_region_any hm (any_in (fun _ _ h => h) (fun j x hj => noDef_spec (hnd x ?_)) _ _ _ _ (wpE_any (S := S) (q := q) _ _ _ _ ?_))))
    · exact List.mem_of_getElem? (by simpa [Code.ops] using hj)
    · have := hd _ (Fr.drawn w (w.drawn + 1)) hl.1 hl.2 (fun j o _ hj => by simp [mask, Code.ops, Array.getElem?_replicate] at hj; split at hj <;> simp at hj)
      subst hN
      exact this
/-! ### a range over slices.Backward -/
section
variable {P : Program} {g g3 : Env} {γ γ3 : Ghost} {S S3 : St} {n n3 : Nat} {a a3 : Act} {w0 w w' : World} {D A : Nat → Prop} {d : Nat → Prop}
/-- The slots of the state ahead of a round stand behind it. -/
theorem fit_back (F : Fit g γ S n a) (F3 : Fit g3 γ3 S3 n3 a3) (K : Kp g S d g3 S3) (ds : List Deferred) : Fit g3 ⟨γ.f, ds, γ.lo, γ.gp⟩ { S3 with slots := S.slots } n { a with defers := ds } := by
  refine ⟨F.size, F.lo, rfl, fun t sv h => ?_, F3.ob, fun t sv h => ?_, fun t sv h o ho => Nat.lt_of_lt_of_le (F.rs t sv h o ho) K.len, F3.rb⟩
  · rw [encS_vb sv (fun o ho => K.vb o (F.rs t sv h o ho))]; exact F.sl t sv h
  · have h1 := F.ok t sv h
    have h2 := F.rs t sv h
    have okE : ∀ v : V1, okV S v → (∀ o ∈ refV v, o < S.obs.length) → okV { S3 with slots := S.slots } v := fun v hv hr => by
      cases v with
      | elp o sz i off =>
        intro e t xs m fu he
        obtain ⟨e0, xs0, m0, fu0, q1, q2⟩ := K.rows o (hr o (by simp [refV])) e t xs m fu he
        have := hv e0 t xs0 m0 fu0 q1
        omega
      | arp b off t n i => exact hv
      | _ => trivial
    cases sv with
    | v x => exact okE x h1 h2
    | tup xs => exact fun x hx => okE x (h1 x hx) (fun o ho => h2 o (List.mem_flatMap.2 ⟨x, hx, ho⟩))
theorem kp_back {S0 : St} (K : Kp g S0 d g3 S3) (hS : S.slots = S0.slots) (d' : Nat → Prop) : Kp g S0 d' g3 { S3 with slots := S.slots } :=
  ⟨K.len, K.vb, K.same, K.mods, fun t _ => by rw [← hS], K.rows⟩
theorem mk_put {γ : Ghost} {l : Nat} {o o' : Obj} (h : Mk γ w) (hl : w.heap[l]? = some o) (ho : ∀ x, o ≠ .deferred x) : Mk γ (w.putObj l o') := by
  obtain ⟨h0, Ds, h1, h2, h3⟩ := h
  refine ⟨by simpa using h0, Ds, h1, h2, fun D hD => ⟨(h3 D hD).1, ?_⟩⟩
  rw [World.putObj_heap_other (fun e => ?_)]
  · exact (h3 D hD).2
  · subst e
    have := (h3 D hD).2
    rw [hl] at this
    exact ho _ (Option.some.inj this)
theorem fr_put (l : Nat) (o : Obj) : Fr (fun b => b = l) w (w.putObj l o) := ⟨rfl, rfl, rfl, by simp, fun b _ hb => World.putObj_heap_other hb⟩
/-- A change of what is no cells, of after the base. -/
theorem cx_putobj {l : Nat} {o o' : Obj} (C : Cx g S w0 D A w) (hl : w.heap[l]? = some o) (ho : o.isCells = false) (hb : w0.heap.size ≤ l) : Cx g S w0 D A (w.putObj l o') :=
  cf_off C (fr_put l o') (fun b e _ => by subst e; exact ⟨o, hl, ho⟩) (fun b e => by subst e; exact .inr hb)
theorem shp_of (C : Cx g S w0 D A w) {o e : Nat} {u : Ty} {xs : List u.den} {m : Md} {fu : Bool} (h : S.ob o = .row e u xs m fu) : Shp (g o).v xs.length := by
  have hL := C.okL o
  have hR := C.okR o
  rw [h] at hL hR
  cases m with
  | own => exact rds_shp (rds_own (hL : OwnR w e u.sz (g o).v xs.length (g o).cs))
  | rd => exact rds_shp (hR ⟨(g o).v, xs.length, u.sz, (g o).cs⟩ (List.mem_cons_self ..))
  | lent => exact rds_shp (hR ⟨(g o).v, xs.length, u.sz, (g o).cs⟩ (List.mem_cons_self ..))
theorem ldAt_ldS {o e : Nat} {u : Ty} {xs : List u.den} {m : Md} {fu : Bool} (h : S.ob o = .row e u xs m fu) (e' : TypeId) (sz : Nat) (i : Int) : ldS P S e' (.v (.elp o sz i 0)) = ldAt P e' u m (at_ u xs i) S.obs.length := by
  simp only [ldS, h, ldAt]
  cases cellsOf P e' <;> rfl
theorem backL_succ {α : Type} (xs : List α) (m : Nat) (h : m < xs.length) : backL (xs.take (m + 1)) = ((m : Int), xs[m]) :: backL (xs.take m) := by
  unfold backL
  rw [List.take_add_one, List.getElem?_eq_getElem h, Option.toList_some, List.zipIdx_append, List.map_append, List.reverse_append]
  simp [Nat.min_eq_left (Nat.le_of_lt h)]
theorem load_any {ρ ρ' : Operand → Value} {t : TypeId} {X Y : Operand} {v : Value} (h : Runs P ρ (.load t X) w v w) (e : ρ' Y = ρ X) : Runs P ρ' (.load t Y) w v w := by
  intro o ho
  have := h { o with op := .load t X } rfl
  simp only [execOp, ho, e] at this ⊢
  exact this
def codeX : Ek → Code
  | .normal => .skip
  | .exit i => .exit i
  | .ret => .ret
end
end Go.Proofs.YthdgllldpfeelaaGreatDoor
