/- Texts of the proof, put together: part 4. No condition. -/
import Derived.Test.YtlepjakmadlkjaaGreatDoorT3
set_option linter.unusedVariables false
set_option linter.unusedSimpArgs false
namespace Go.Proofs.YtlepjakmadlkjaaGreatDoor
open Go
theorem Db {g g' : Env} {ob0 ob : Ob} {bd bd' : Nat} (h : oX g g' ob0 ob bd) (k : bd ≤ bd') : oX g g' ob0 ob bd' := by
 cases ob with
 | gone => trivial
 | box T ls => obtain ⟨ls0, h1, h2, h3, h4⟩ := h; exact ⟨ls0, h1, h2, h3, fun o ho => Nat.lt_of_lt_of_le (h4 o ho) k⟩
 | row e t xs m fu => exact h
 | fleet e d xs hl => exact h
theorem uG {c : Bool} : ∀ {bx bx' : List (Nat × Ob)}, All2 (fun p q => q.1 = p.1 ∧ Wk c p.2 q.2) bx bx' → bx'.map (·.1) = bx.map (·.1)
 | [], [], _ => rfl
 | p :: bx, q :: bx', h => by simp [h.1.1, uG h.2]
 | [], _ :: _, h => h.elim
 | _ :: _, [], h => h.elim
theorem wI {S : St} {nb : Nat} {pl : List Src} {o j : Nat} (h : pl[j]? = some (.ob o)) (ho : HV (S.ob o)) (hlt : o < nb) : o ∈ nC S nb pl := by
 unfold nC
 refine List.mem_filterMap.2 ⟨.ob o, List.mem_of_getElem? h, ?_⟩
 cases hob : S.ob o with
 | gone => rw [hob] at ho; exact ho.elim
 | box T ls => rw [hob] at ho; exact ho.elim
 | fleet e d xs hl => simp only [hob, if_pos hlt]
 | row e t xs m fu =>
   rw [hob] at ho
   cases m with
   | own => simp only [hob, if_pos hlt]
   | rd => exact ho.elim
   | lent => exact ho.elim
def AV (g : Env) (nb : Nat) (pl : List Src) : Env := fun i => if i < nb then g i else match pl[i - nb]? with
 | some (.ob o) => g o
 | some (.nil _ _) => nilG
 | some (.nilr _ _) => nilG
 | none => g i
def AW (nb : Nat) (pl : List Src) (i : Nat) : Nat := if i < nb then i else match pl[i - nb]? with
 | some (.ob o) => o
 | _ => i
theorem rX (g : Env) (nb : Nat) (pl : List Src) : Good g (AV g nb pl) nb pl := by
 refine ⟨fun i hi => by simp [AV, hi], fun j => ⟨fun o ho => ?_, fun e t ho => ?_, fun e d ho => ?_⟩⟩
 ·simp only [AV, if_neg (show ¬ nb + j < nb by omega), show nb + j - nb = j by omega, ho]
 ·simp only [AV, if_neg (show ¬ nb + j < nb by omega), show nb + j - nb = j by omega, ho]
 ·simp only [AV, if_neg (show ¬ nb + j < nb by omega), show nb + j - nb = j by omega, ho]
theorem pN (e : Nat) (d : Kd) : FleetP nilG e d [] none := by
 refine ⟨rfl, rfl, rfl, fun k hk => by simp at hk, ⟨none, 0, rfl, fun _ => rfl⟩, fun k x hk => by simp at hk, fun p q _ b hb => ?_⟩
 exact absurd ⟨p, hb⟩ ((it e d).1 b)
section
variable {P : Program} {g g' g'' g0 : Env} {γ : Ghost} {S S' S'' base : St} {n : Nat} {a a0 : Act} {w0 w w' : World} {D A : Nat → Prop} {d : Nat → Prop}
theorem wJ {N N' : Nst} {pl : List Src} {sy M C : List Nat} {dfs : Nat} (hS : S.slots = base.slots) (hO : S.obs = base.obs) (F0 : Fit g0 γ base n a0) (F : Fit g' γ S' n a) (C' : Cx g' S' w0 D A w) (K : Kp g0 base d g' S')
 (hd : ∀ t, d t → bit dfs t = true) (hC : ∀ t ∈ C, bit dfs t = true) (hN : uf base.obs.length sy M C S' = some (N, pl))
 (hmv : (nC S' base.obs.length pl).all (M.elem ·) = true) (hmd : (S'.mods.filter (· < base.obs.length)).all (M.elem ·) = true) (W : WkN false N N') :
 ∃ g'', Fit g'' γ (fX S dfs N') n a ∧ Cx g'' (fX S dfs N') w0 D A w ∧ Kp g0 S (fun t => bit dfs t = true) g'' (fX S dfs N') := by
 obtain ⟨nb, hnb⟩ : ∃ nb, nb = base.obs.length := ⟨_, rfl⟩
 rw [← hnb] at hN hmv hmd
 unfold uf at hN
 split at hN
 ·rename_i bx pl1 hbx
  obtain ⟨⟨os, plq⟩, hos, he⟩ := Option.map_eq_some_iff.1 hN
  simp only [Prod.mk.injEq] at he
  obtain ⟨rfl, rfl⟩ := he
  have P0 : lJ S' nb sy [] := fun j o h => by simp at h
  have R1 := fZ (S := S') (nb := nb) (sy := sy) C P0
  obtain ⟨e2, R2⟩ := cY R1.ok hbx
  obtain ⟨e3, R3⟩ := cR R2.ok (Nat.zero_le _) hos
  rw [Nat.zero_add] at e3
  have G3 := rX g' nb plq
  have G2 := G3.pre R3.pre
  have G1 := G2.pre R2.pre
  obtain ⟨g'', hg''⟩ : ∃ g'', g'' = AV g' nb plq := ⟨_, rfl⟩
  rw [← hg''] at G1 G2 G3
  have hlow : ∀ i, i < nb → g'' i = g' i := G3.1
  obtain ⟨ws, wb, wn⟩ := W
  simp only at ws wb wn
  have hlenN : N'.news.length = plq.length := by rw [← wn.len, e3]
  have hfst : N'.boxes.map (·.1) = M := by rw [uG wb, e2]
  obtain ⟨S'', hS''⟩ : ∃ S'', S'' = fX S dfs N' := ⟨_, rfl⟩
  rw [← hS'']
  have hbl : (N'.boxes.foldl (fun l p => l.set p.1 p.2) S.obs).length = nb := by rw [(nL N'.boxes S.obs 0).1, hO, hnb]
  have hlen : S''.obs.length = nb + plq.length := by simp only [hS'', fX, List.length_append, hbl, hlenN]
  have obLo : ∀ i, i < nb → S''.ob i = (N'.boxes.foldl (fun l p => l.set p.1 p.2) S.obs).getD i .gone := fun i hi => by
   simp only [hS'', fX, St.ob, List.getD_eq_getElem?_getD]
   rw [List.getElem?_append_left (by rw [hbl]; exact hi)]
  have obHi : ∀ i, nb ≤ i → S''.ob i = N'.news.getD (i - nb) .gone := fun i hi => by
   simp only [hS'', fX, St.ob, List.getD_eq_getElem?_getD]
   rw [List.getElem?_append_right (by rw [hbl]; exact hi), hbl]
  have notM : ∀ i, i < nb → i ∉ M → i ∉ S'.mods := fun i hi hm hmo => hm (by
   have := List.all_eq_true.1 hmd i (List.mem_filter.2 ⟨hmo, by simpa using hi⟩)
   simpa using this)
  have sameLo : ∀ i, i < nb → i ∉ M → S'.ob i = base.ob i ∧ g' i = g0 i := fun i hi hm => K.same i (by rw [← hnb]; exact hi) (notM i hi hm)
  -- what stands below
  have low : ∀ i, i < nb → (i ∉ M ∧ S''.ob i = S'.ob i) ∨ S''.ob i = .gone ∨ (oX g' g'' (S'.ob i) (S''.ob i) (nb + plq.length) ∧ (K9 (S''.ob i) → sy.elem i = true)) := by
   intro i hi
   rw [obLo i hi]
   rcases (nL N'.boxes S.obs i).2 with ⟨h1, h2⟩ | ⟨p', hp', h1, h2⟩
   ·rw [hfst] at h1
    refine .inl ⟨h1, ?_⟩
    rw [h2, (sameLo i hi h1).1, hO]; rfl
   ·refine .inr ?_
    rcases h2 with h2 | h2
    ·refine .inr ?_
     rw [h2]
     obtain ⟨k, hk⟩ := List.mem_iff_getElem?.1 hp'
     obtain ⟨p, hp, hq, hw⟩ := wb.get hk
     obtain ⟨q1, q2, q3⟩ := R2.enc g' g'' G2 p (List.mem_of_getElem? hp)
     have hpi : p.1 = i := hq.symm.trans h1
     rw [hpi] at q2 q3
     refine ⟨Db (tG q2 hw) (Nat.add_le_add_left R3.pre.length_le nb), fun h => q3 ?_⟩
     cases hp2 : p.2 with
     | row e' t' xs' m' fu' => trivial
     | box T ls => rw [hp2] at hw; have : p'.2 = .box T ls := hw; rw [this] at h; exact h.elim
     | gone => rw [hp2] at hw; have : p'.2 = .gone := hw; rw [this] at h; exact h.elim
     | fleet e' d' xs' hl' => trivial
    ·exact .inl h2
  have madeSelf : ∀ i, i < nb → i ∉ M → oX g' g'' (S'.ob i) (S'.ob i) (nb + plq.length) := by
   intro i hi hm
   have hb := (sameLo i hi hm).1
   cases ho : S'.ob i with
   | gone => trivial
   | box T ls =>
     have hr := F0.rb i T ls (by rw [← hb, ho])
     rw [← hnb] at hr
     exact ⟨ls, rfl, ep ls (fun o hoo => hlow o (hr o hoo)), id, fun o hoo => Nat.lt_of_lt_of_le (hr o hoo) (Nat.le_add_right _ _)⟩
   | row e t xs m fu => exact ⟨m, fu, rfl, qL m, id⟩
   | fleet e d xs hl => exact rfl
  -- what stands above
  have high : ∀ i, nb ≤ i → S''.ob i = .gone ∨ (∃ e t m, S''.ob i = .row e t [] m false ∧ g'' i = nilG) ∨ (∃ e d, S''.ob i = .fleet e d [] none ∧ g'' i = nilG ∧ plq[i - nb]? = some (.nilr e d)) ∨ ∃ o, plq[i - nb]? = some (.ob o) ∧ S''.ob i ≠ .gone ∧ oX g' g'' (S'.ob o) (S''.ob i) (nb + plq.length) := by
   intro i hi
   rw [obHi i hi]
   cases hk : N'.news[i - nb]? with
   | none => left; simp [List.getD_eq_getElem?_getD, hk]
   | some ob' =>
     have hgd : N'.news.getD (i - nb) .gone = ob' := by simp [List.getD_eq_getElem?_getD, hk]
     rw [hgd]
     obtain ⟨ob, hob, hw⟩ := wn.get hk
     obtain ⟨q1, q2⟩ := R3.enc g' g'' G3 (i - nb) ob hob
     rw [Nat.zero_add] at q2
     rcases q2 with ⟨o, h1, h2, h3⟩ | ⟨e, t, h1, h2⟩ | ⟨e, d, h1, h2⟩
     ·refine .inr (.inr (.inr ⟨o, h1, ?_, tG h3 hw⟩))
      cases ob with
      | gone => exact absurd rfl h2
      | box T ls => have : ob' = .box T ls := hw; subst this; simp
      | fleet e d xs hl => have : ob' = .fleet e d xs hl := Wk.fl hw; subst this; simp
      | row e t xs m fu => obtain ⟨m', rfl, _⟩ := hw; simp
     ·subst h2
      obtain ⟨m', rfl, _⟩ := hw
      refine .inr (.inl ⟨e, t, m', rfl, ?_⟩)
      have := (G3.2 (i - nb)).2.1 e t h1
      rwa [show nb + (i - nb) = i by omega] at this
     ·subst h2
      have : ob' = .fleet e d [] none := Wk.fl hw
      subst this
      refine .inr (.inr (.inl ⟨e, d, rfl, ?_, h1⟩))
      have := (G3.2 (i - nb)).2.2 e d h1
      rwa [show nb + (i - nb) = i by omega] at this
  obtain ⟨frm, hfrm⟩ : ∃ frm : Nat → Prop, frm = fun i => S''.ob i ≠ .gone ∧ (i < nb ∨ ∃ o, plq[i - nb]? = some (.ob o)) := ⟨_, rfl⟩
  have sLo : ∀ i, i < nb → AW nb plq i = i := fun i hi => by simp [AW, hi]
  have sHi : ∀ i o, nb ≤ i → plq[i - nb]? = some (.ob o) → AW nb plq i = o := fun i o hi ho => by simp [AW, Nat.not_lt.2 hi, ho]
  have madeLo : ∀ i, i < nb → S''.ob i ≠ .gone → oX g' g'' (S'.ob i) (S''.ob i) (nb + plq.length) := fun i hi hne => by
   rcases low i hi with ⟨h1, h2⟩ | h | ⟨h, _⟩
   ·rw [h2]; exact madeSelf i hi h1
   ·exact absurd h hne
   ·exact h
  have R : Ren g' S' g'' S'' (nb + plq.length) (AW nb plq) frm := by
   subst hfrm
   refine ⟨fun i => ?_, fun i hi => ?_, fun i k hik hi hk hs => ?_⟩
   ·rcases Nat.lt_or_ge i nb with h | h
    ·by_cases hg : S''.ob i = .gone
     ·exact .inl hg
     ·exact .inr (.inr (.inr ⟨hg, .inl h⟩))
    ·rcases high i h with h1 | h1 | ⟨e, d, h1, h2, _⟩ | ⟨o, h1, h2, _⟩
     ·exact .inl h1
     ·exact .inr (.inl h1)
     ·exact .inr (.inr (.inl ⟨e, d, h1, h2⟩))
     ·exact .inr (.inr (.inr ⟨h2, .inr ⟨o, h1⟩⟩))
   ·rcases Nat.lt_or_ge i nb with h | h
    ·rw [sLo i h]; exact ⟨hlow i h, madeLo i h hi.1⟩
    ·obtain ⟨o, ho⟩ := hi.2.resolve_left (by omega)
     rw [sHi i o h ho]
     refine ⟨?_, ?_⟩
     ·have := (G3.2 (i - nb)).1 o ho
      rwa [show nb + (i - nb) = i by omega] at this
     ·rcases high i h with h1 | ⟨e, t, m, h1, h2⟩ | ⟨e, d, h1, h2, h3⟩ | ⟨o', h1, h2, h3⟩
      ·exact absurd h1 hi.1
      ·-- a row of nothing has no source
       have hlt := (List.getElem?_eq_some_iff.1 ho).1
       rcases high i h with h1' | h1' | ⟨e, d, h1', h2', h3'⟩ | ⟨o', h1', _, h3⟩
       ·exact absurd h1' hi.1
       ·-- both: decided by the list
        have hgd := obHi i h
        cases hk : N'.news[i - nb]? with
        | none => rw [hgd] at h1; simp [List.getD_eq_getElem?_getD, hk] at h1
        | some ob' =>
          obtain ⟨ob, hob, hw⟩ := wn.get hk
          obtain ⟨q1, q2⟩ := R3.enc g' g'' G3 (i - nb) ob hob
          rw [Nat.zero_add, ho] at q2
          have e1 : S''.ob i = ob' := by rw [hgd]; simp [List.getD_eq_getElem?_getD, hk]
          rw [e1]
          rcases q2 with ⟨o2, q2, _, q3⟩ | ⟨_, _, q2, _⟩ | ⟨_, _, q2, _⟩
          ·cases q2; exact tG q3 hw
          ·cases q2
          ·cases q2
       ·rw [ho] at h3'; cases h3'
       ·rw [ho] at h1'; cases h1'; exact h3
      ·rw [ho] at h3; cases h3
      ·rw [ho] at h1; cases h1; exact h3
   ·-- each once
    have mixed : ∀ i k, i < nb → nb ≤ k → S''.ob i ≠ .gone → ∀ o, plq[k - nb]? = some (.ob o) → i = o → pM (S'.ob i) := by
     intro i k hi hk hne o ho e
     subst e
     obtain ⟨p1, p2, _⟩ := R3.ok _ _ ho
     have hM := madeLo i hi hne
     cases hob : S'.ob i with
     | gone =>
       rw [hob] at hM
       cases h2 : S''.ob i with
       | gone => exact absurd h2 hne
       | box T ls => rw [h2] at hM; obtain ⟨_, h, _⟩ := hM; cases h
       | fleet e d xs hl => rw [h2] at hM; cases hM
       | row e t xs m fu => rw [h2] at hM; obtain ⟨_, _, h, _⟩ := hM; cases h
     | box T ls => have := p2 (by rw [hob]; trivial); omega
     | fleet e d xs hl =>
       have hns : ¬ sy.elem i = true := fun h => p1 (by rw [hob]; trivial) ⟨hi, h⟩
       have hiM : i ∈ M := by
        have := List.all_eq_true.1 hmv i (wI ho (by rw [hob]; trivial) hi)
        simpa using this
       rcases low i hi with ⟨h1, _⟩ | h | ⟨hm, hr⟩
       ·exact absurd hiM h1
       ·exact absurd h hne
       ·cases h2 : S''.ob i with
        | gone => exact absurd h2 hne
        | box T ls => rw [h2, hob] at hm; obtain ⟨_, h, _⟩ := hm; cases h
        | fleet e' d' xs' hl' => exact absurd (hr (by rw [h2]; trivial)) hns
        | row e' t' xs' m' fu' => rw [h2, hob] at hm; obtain ⟨_, _, h, _⟩ := hm; cases h
     | row e t xs m fu =>
       cases m with
       | own =>
         have hns : ¬ sy.elem i = true := fun h => p1 (by rw [hob]; trivial) ⟨hi, h⟩
         have hiM : i ∈ M := by
          have := List.all_eq_true.1 hmv i (wI ho (by rw [hob]; trivial) hi)
          simpa using this
         rcases low i hi with ⟨h1, _⟩ | h | ⟨hm, hr⟩
         ·exact absurd hiM h1
         ·exact absurd h hne
         ·cases h2 : S''.ob i with
          | gone => exact absurd h2 hne
          | box T ls => rw [h2, hob] at hm; obtain ⟨_, h, _⟩ := hm; cases h
          | fleet e' d' xs' hl' => rw [h2, hob] at hm; cases hm
          | row e' t' xs' m' fu' => exact absurd (hr (by rw [h2]; trivial)) hns
       | rd => exact ⟨e, t, xs, .rd, fu, rfl, by simp⟩
       | lent => exact ⟨e, t, xs, .lent, fu, rfl, by simp⟩
    rcases Nat.lt_or_ge i nb with h | h
    ·rcases Nat.lt_or_ge k nb with h' | h'
     ·rw [sLo i h, sLo k h'] at hs; exact absurd hs hik
     ·obtain ⟨o, ho⟩ := hk.2.resolve_left (by omega)
      rw [sLo i h, sHi k o h' ho] at hs
      rw [sLo i h]
      exact mixed i k h h' hi.1 o ho hs
    ·obtain ⟨o, ho⟩ := hi.2.resolve_left (by omega)
     rcases Nat.lt_or_ge k nb with h' | h'
     ·rw [hs]
      rw [sLo k h', sHi i o h ho] at hs
      rw [sLo k h']
      exact mixed k i h' h hk.1 o ho hs.symm
     ·obtain ⟨o', ho'⟩ := hk.2.resolve_left (by omega)
      rw [sHi i o h ho, sHi k o' h' ho'] at hs
      subst hs
      rw [sHi i o h ho]
      exact (R3.ok _ _ ho).2.2 (k - nb) (by omega) ho'
  have hslots : S''.slots = (base.slots.filter fun p => !(bit dfs p.1)) ++ (bV S' nb sy C []).1 := by simp only [hS'', fX, hS, ws]
  -- a slot is one that stays, or one that is new
  have slotCase : ∀ t sv, aA S''.slots t = some sv → (¬ d t ∧ aA base.slots t = some sv ∧ aA S'.slots t = some sv) ∨ (t, sv) ∈ (bV S' nb sy C []).1 := by
   intro t sv h
   rw [hslots, jS, nK (fun t => !(bit dfs t))] at h
   by_cases hb : bit dfs t = true
   ·rw [if_neg (by simp [hb])] at h
    exact .inr (gW (by simpa using h))
   ·rw [if_pos (by simpa using hb)] at h
    have hnd : ¬ d t := fun hdt => hb (hd t hdt)
    cases hl : aA base.slots t with
    | none => rw [hl] at h; exact .inr (gW (by simpa using h))
    | some u =>
      rw [hl] at h
      simp only [Option.some_or, Option.some.injEq] at h
      subst h
      exact .inl ⟨hnd, rfl, (K.slots t hnd).trans hl⟩
  refine ⟨g'', ⟨F.size, F.lo, F.defers, fun t sv h => ?_, fun i => ?_, fun t sv h => ?_, fun t sv h => ?_, fun i T ls h => ?_⟩, Fh R C', ?_⟩
  ·rcases slotCase t sv h with ⟨hnd, h1, h2⟩ | hm
   ·have := F.sl t sv h2
    rwa [eq (g := g') (g' := g'') sv (fun o ho => hlow o (by rw [hnb]; exact F0.rs t sv h1 o ho))]
   ·obtain ⟨_, _, sv0, h1, h2⟩ := R1.enc g' g'' G1 _ hm
    simp only at h1 h2
    rw [h2]
    exact F.sl t sv0 h1
  ·rcases R.ob i with h | ⟨e, t, m, h, hg⟩ | ⟨e, d, h, hg⟩ | h
   ·rw [h]; trivial
   ·rw [h]
    refine ⟨by rw [hg]; exact ⟨rfl, rfl⟩, by rw [hg]; exact ⟨none, 0, rfl, fun _ => rfl⟩, fun h => by cases h⟩
   ·rw [h]
    show FleetP (g'' i) e d [] none
    rw [hg]
    exact pN e d
   ·obtain ⟨hg, hM⟩ := R.frm i h
    have hp := F.ob (AW nb plq i)
    cases ho : S''.ob i with
    | gone => trivial
    | box T ls =>
      rw [ho] at hM
      obtain ⟨ls0, h1, _, h3, _⟩ := hM
      rw [h1] at hp
      exact h3 hp
    | fleet e d xs hl =>
      rw [ho] at hM
      have h1 : S'.ob (AW nb plq i) = .fleet e d xs hl := hM
      rw [h1] at hp
      show FleetP (g'' i) e d xs hl
      rw [hg]
      exact hp
    | row e t xs m fu =>
      rw [ho] at hM
      obtain ⟨m0, fu0, h1, _, h3⟩ := hM
      rw [h1] at hp
      exact ⟨by rw [hg]; exact hp.1, by rw [hg]; exact hp.2.1, fun hf => by rw [hg]; exact hp.2.2 (h3 hf)⟩
  ·rcases slotCase t sv h with ⟨hnd, h1, h2⟩ | hm
   ·have hok := F.ok t sv h2
    have hrs := F0.rs t sv h1
    have okE : ∀ v : V1, (∀ o ∈ bi v, o < nb) → okV S' v → okV S'' v := fun v hr hv => by
     cases v with
     | elp o sz i off =>
       intro e t xs m fu he
       have hlt : o < nb := hr o (by simp [bi])
       have hM := madeLo o hlt (by rw [he]; simp)
       rw [he] at hM
       obtain ⟨m0, fu0, h1, _⟩ := hM
       exact hv e t xs m0 fu0 h1
     | arp b off t n i => exact hv
     | _ => trivial
    cases sv with
    | v x => exact okE x (fun o ho => by rw [hnb]; exact hrs o ho) hok
    | tup xs => exact fun x hx => okE x (fun o ho => by rw [hnb]; exact hrs o (List.mem_flatMap.2 ⟨x, hx, ho⟩)) (hok x hx)
   ·obtain ⟨_, hn, _⟩ := R1.enc g' g'' G1 _ hm
    simp only at hn
    have okE : ∀ v : V1, uD v = true → okV S'' v := fun v hv => by
     cases v with
     | elp o sz i off => cases hv
     | arp b off t n i => cases hv
     | _ => trivial
    cases sv with
    | v x => exact okE x hn
    | tup xs => exact fun x hx => okE x (List.all_eq_true.1 hn x hx)
  ·rw [hlen]
   rcases slotCase t sv h with ⟨hnd, h1, h2⟩ | hm
   ·exact fun o ho => by have := F0.rs t sv h1 o ho; omega
   ·intro o ho
    have h1 := R1.refs o (List.mem_flatMap.2 ⟨_, hm, ho⟩)
    have h2 := (R2.pre.trans R3.pre).length_le
    omega
  ·rw [hlen]
   rcases R.ob i with h' | ⟨e, t, m, h', _⟩ | ⟨e, d, h', _⟩ | h'
   ·rw [h'] at h; cases h
   ·rw [h'] at h; cases h
   ·rw [h'] at h; cases h
   ·obtain ⟨_, hM⟩ := R.frm i h'
    rw [h] at hM
    obtain ⟨_, _, _, _, h4⟩ := hM
    exact h4
  ·refine ⟨by rw [hlen, hO, ← hnb]; omega, fun i hi => ?_, fun i hi hm => ?_, fun i hi => ?_, fun t ht => ?_, fun i hi e t xs m fu h => ?_⟩
   ·rw [hO] at hi
    rw [hlow i (by rw [hnb]; exact hi)]
    exact K.vb i hi
   ·rw [hO] at hi
    have hiM : i ∉ M := fun h => hm (by simp only [hS'', fX, hfst, List.mem_append]; exact .inl h)
    have hi' : i < nb := by rw [hnb]; exact hi
    obtain ⟨q1, q2⟩ := sameLo i hi' hiM
    refine ⟨?_, (hlow i hi').trans q2⟩
    have : S.ob i = base.ob i := by simp only [St.ob, hO]
    rw [this]
    rcases low i hi' with ⟨_, h2⟩ | h | ⟨h, _⟩
    ·exact h2.trans q1
    ·rw [obLo i hi'] at h ⊢
     rcases (nL N'.boxes S.obs i).2 with ⟨_, h2⟩ | ⟨p', hp', h1, _⟩
     ·rw [h2, hO]; rfl
     ·exact absurd (by rw [← hfst, ← h1]; exact List.mem_map_of_mem hp') hiM
    ·rw [obLo i hi']
     rcases (nL N'.boxes S.obs i).2 with ⟨_, h2⟩ | ⟨p', hp', h1, _⟩
     ·rw [h2, hO]; rfl
     ·exact absurd (by rw [← hfst, ← h1]; exact List.mem_map_of_mem hp') hiM
   ·simp only [hS'', fX, List.mem_append]; exact .inr hi
   ·rw [hslots, jS, nK (fun t => !(bit dfs t)), if_pos (by simpa using ht), hS]
    have hnone : aA (bV S' nb sy C []).1 t = none := by
     cases hl : aA (bV S' nb sy C []).1 t with
     | none => rfl
     | some u =>
       have := (R1.enc g' g'' G1 _ (gW hl)).1
       exact absurd (hC t this) ht
    rw [hnone]; simp
   ·rw [hO] at hi
    have hM := madeLo i (by rw [hnb]; exact hi) (by rw [h]; simp)
    rw [h] at hM
    obtain ⟨m0, fu0, h1, _⟩ := hM
    have hSb : S.ob i = base.ob i := by simp only [St.ob, hO]
    rw [hSb]
    exact K.rows i hi e t xs m0 fu0 h1
 ·cases hN
end
end Go.Proofs.YtlepjakmadlkjaaGreatDoor
namespace Go.Proofs.YtlepjakmadlkjaaGreatDoor
open Go
theorem qM {nb : Nat} {sy M C : List Nat} {S : St} {N : Nst} {pl : List Src} (h : uf nb sy M C S = some (N, pl)) : (∀ p ∈ N.slots, kt p.2 = true) ∧ (∀ p ∈ N.boxes, uF p.2 = true) ∧ N.news.all uF = true := by
 unfold uf at h
 split at h
 ·rename_i bx pl1 hbx
  obtain ⟨⟨os, plq⟩, hos, he⟩ := Option.map_eq_some_iff.1 h
  simp only [Prod.mk.injEq] at he
  obtain ⟨rfl, rfl⟩ := he
  have P0 : lJ S nb sy [] := fun j o h => by simp at h
  have R1 := fZ (S := S) (nb := nb) (sy := sy) C P0
  obtain ⟨e2, R2⟩ := cY R1.ok hbx
  obtain ⟨e3, R3⟩ := cR R2.ok (Nat.zero_le _) hos
  have G3 := rX vL nb plq
  have G2 := G3.pre R3.pre
  have G1 := G2.pre R2.pre
  refine ⟨fun p hp => (R1.enc _ _ G1 p hp).2.1, fun p hp => (R2.enc _ _ G2 p hp).1, List.all_eq_true.2 fun ob hob => ?_⟩
  obtain ⟨i, hi⟩ := List.mem_iff_getElem?.1 hob
  exact (R3.enc _ _ G3 i ob hi).1
 ·cases h
theorem B7 {g g' : Env} {f : Nat → Nat} (a : At) (h : ∀ o ∈ aN a, (g' (f o)).v = (g o).v ∧ (g' (f o)).bb = (g o).bb) : ba g' (mvA f a) = ba g a ∧ aJ g' (mvA f a) = aJ g a ∧ gP (mvA f a) = gP a ∧ aN (mvA f a) = (aN a).map f := by
 cases a with
 | fl t x => cases t <;> exact ⟨rfl, rfl, rfl, rfl⟩
 | sl o => simp only [aN, List.mem_singleton, forall_eq] at h; exact ⟨by simp only [mvA, ba, h.1], by simp only [mvA, aJ, h.1], rfl, rfl⟩
 | ptr b off => simp only [aN, List.mem_singleton, forall_eq] at h; exact ⟨by simp only [mvA, ba, GV.b, h.2], by simp only [mvA, aJ, GV.b, h.2], rfl, rfl⟩
 | asl b off n => simp only [aN, List.mem_singleton, forall_eq] at h; exact ⟨by simp only [mvA, ba, GV.b, h.2], by simp only [mvA, aJ, GV.b, h.2], rfl, rfl⟩
 | pel o k off => simp only [aN, List.mem_singleton, forall_eq] at h; exact ⟨by simp only [mvA, ba, nt, gq, h.2], by simp only [mvA, aJ, nt, gq, h.2], rfl, rfl⟩
 | _ => exact ⟨rfl, rfl, rfl, rfl⟩
theorem kJ {g g' : Env} {f : Nat → Nat} : ∀ (ls : List At), (∀ o ∈ ls.flatMap aN, (g' (f o)).v = (g o).v ∧ (g' (f o)).bb = (g o).bb) →
 aw g' (ls.map (mvA f)) = aw g ls ∧ (ls.map (mvA f)).map (aJ g') = ls.map (aJ g) ∧ (ls.all gP = true → (ls.map (mvA f)).all gP = true) ∧ (ls.map (mvA f)).flatMap aN = (ls.flatMap aN).map f
 | [], _ => ⟨rfl, rfl, id, rfl⟩
 | a :: ls, h => by
   simp only [List.flatMap_cons, List.mem_append] at h
   obtain ⟨a1, a2, a3, a4⟩ := B7 (g := g) (g' := g') (f := f) a (fun o ho => h o (.inl ho))
   obtain ⟨l1, l2, l3, l4⟩ := kJ (g := g) (g' := g') (f := f) ls (fun o ho => h o (.inr ho))
   refine ⟨?_, by simp only [List.map_cons, a2, l2], fun hs => ?_, by simp only [List.map_cons, List.flatMap_cons, a4, l4, List.map_append]⟩
   ·simp only [aw] at l1 ⊢
    simp only [List.map_cons, List.flatMap_cons, a1, l1]
   ·simp only [List.map_cons, List.all_cons, Bool.and_eq_true] at hs ⊢
    exact ⟨a3.trans hs.1, l3 hs.2⟩
theorem B8 {g g' : Env} {f : Nat → Nat} (x : V1) (hn : uD x = true) (h : ∀ o ∈ bi x, (g' (f o)).v = (g o).v ∧ (g' (f o)).bb = (g o).bb) : aU g' (mvV f x) = aU g x ∧ bi (mvV f x) = (bi x).map f ∧ ∀ S, okV S (mvV f x) := by
 cases x with
 | a x => obtain ⟨a1, a2, a3, a4⟩ := B7 (g := g) (g' := g') (f := f) x h; exact ⟨a2, a4, fun _ => trivial⟩
 | fn q fs cs =>
   simp only [bi, List.mem_append] at h
   obtain ⟨_, a2, _, a4⟩ := kJ (g := g) (g' := g') (f := f) fs (fun o ho => h o (.inl ho))
   obtain ⟨_, l2, _, l4⟩ := kJ (g := g) (g' := g') (f := f) cs (fun o ho => h o (.inr ho))
   exact ⟨by simp only [mvV, aU, a2, l2], by simp only [mvV, bi, a4, l4, List.map_append], fun _ => trivial⟩
 | st ls => obtain ⟨a1, a2, a3, a4⟩ := kJ (g := g) (g' := g') (f := f) ls h; exact ⟨by simp only [mvV, aU, a1], a4, fun _ => trivial⟩
 | elp o sz i off => cases hn
 | cutf o => cases hn
 | arp b off t n i => cases hn
theorem xO {g g' : Env} {f : Nat → Nat} (x : SV) (hn : kt x = true) (h : ∀ o ∈ aL x, (g' (f o)).v = (g o).v ∧ (g' (f o)).bb = (g o).bb) : aq g' (mvS f x) = aq g x ∧ aL (mvS f x) = (aL x).map f ∧ ∀ S, okS S (mvS f x) := by
 cases x with
 | v x => exact B8 x hn h
 | tup xs =>
   have hx : ∀ x ∈ xs, aU g' (mvV f x) = aU g x ∧ bi (mvV f x) = (bi x).map f ∧ ∀ S, okV S (mvV f x) := fun x hx => B8 x (List.all_eq_true.1 hn x hx) (fun o ho => h o (List.mem_flatMap.2 ⟨x, hx, ho⟩))
   refine ⟨?_, ?_, fun S y hy => ?_⟩
   ·simp only [mvS, aq, List.map_map]
    congr 2
    exact List.map_congr_left (fun x hm => (hx x hm).1)
   ·simp only [mvS, aL, List.flatMap_map]
    have : ∀ (l : List V1), (∀ x ∈ l, bi (mvV f x) = (bi x).map f) → l.flatMap (fun x => bi (mvV f x)) = (l.flatMap bi).map f := by
     intro l
     induction l with
     | nil => intro _; rfl
     | cons a l ih => intro hl; simp only [List.flatMap_cons, List.map_append, hl a (List.mem_cons_self ..), ih (fun x hx => hl x (List.mem_cons_of_mem _ hx))]
    exact this xs (fun x hm => (hx x hm).2.1)
   ·obtain ⟨x, hm, rfl⟩ := List.mem_map.1 hy
    exact (hx x hm).2.2 S
def Fi : Src → Ob
 | .nil e t => .row e t [] .own false
 | .nilr e d => .fleet e d [] none
 | .ob _ => .gone
theorem iv : ∀ (pl : List Src) (j : Nat), (cE pl)[j]? = (pl[j]?).map Fi
 | [], j => by simp [cE]
 | .nil e t :: pl, 0 => rfl
 | .ob o :: pl, 0 => rfl
 | .nilr e t :: pl, 0 => rfl
 | .nilr e t :: pl, j + 1 => by simpa [cE] using iv pl j
 | .nil e t :: pl, j + 1 => by simpa [cE] using iv pl j
 | .ob o :: pl, j + 1 => by simpa [cE] using iv pl j
theorem jT : ∀ (pl : List Src), (cE pl).length = pl.length
 | [] => rfl
 | .nil e t :: pl => by simp [cE, jT pl]
 | .nilr e t :: pl => by simp [cE, jT pl]
 | .ob o :: pl => by simp [cE, jT pl]
def La (n : Nat) : Src → Nat
 | .nil _ _ => n
 | .nilr _ _ => n
 | .ob o => o
theorem gH : ∀ (n : Nat) (pl : List Src) (j : Nat), (gE n pl)[j]? = (pl[j]?).map (La (n + j))
 | n, [], j => by simp [gE]
 | n, .nil e t :: pl, 0 => rfl
 | n, .nilr e t :: pl, 0 => rfl
 | n, .ob o :: pl, 0 => rfl
 | n, .nilr e t :: pl, j + 1 => by
   have := gH (n + 1) pl j
   simp only [gE, List.getElem?_cons_succ, this, show n + 1 + j = n + (j + 1) by omega]
 | n, .nil e t :: pl, j + 1 => by
   have := gH (n + 1) pl j
   simp only [gE, List.getElem?_cons_succ, this, show n + 1 + j = n + (j + 1) by omega]
 | n, .ob o :: pl, j + 1 => by
   have := gH (n + 1) pl j
   simp only [gE, List.getElem?_cons_succ, this, show n + 1 + j = n + (j + 1) by omega]
theorem jI : ∀ (n : Nat) (pl : List Src), (gE n pl).length = pl.length
 | n, [] => rfl
 | n, .nil e t :: pl => by simp [gE, jI (n + 1) pl]
 | n, .nilr e t :: pl => by simp [gE, jI (n + 1) pl]
 | n, .ob o :: pl => by simp [gE, jI (n + 1) pl]
theorem lK {n : Nat} : ∀ {pl : List Src} {j o : Nat}, plB n pl = true → pl[j]? = some (.ob o) → o < n
 | [], j, o, h, hj => by simp at hj
 | .ob p :: pl, 0, o, h, hj => by
   simp only [plB, Bool.and_eq_true, decide_eq_true_eq] at h
   simp only [List.getElem?_cons_zero, Option.some.injEq, Src.ob.injEq] at hj
   subst hj; exact h.1
 | .ob p :: pl, j + 1, o, h, hj => by
   simp only [plB, Bool.and_eq_true] at h
   exact lK h.2 (j := j) (by simpa using hj)
 | .nil e t :: pl, 0, o, h, hj => by simp at hj
 | .nil e t :: pl, j + 1, o, h, hj => lK (pl := pl) (j := j) h (by simpa using hj)
 | .nilr e t :: pl, 0, o, h, hj => by simp at hj
 | .nilr e t :: pl, j + 1, o, h, hj => lK (pl := pl) (j := j) h (by simpa using hj)
theorem kX (xs : List SV) : ∀ (b i : Nat), aA (bW b xs) (b + i) = xs[i]? := by
 induction xs with
 | nil => intro b i; simp [bW, aA]
 | cons x xs ih =>
   intro b i
   cases i with
   | zero => simp [bW, aA]
   | succ i =>
     simp only [bW, aA]
     rw [if_neg (by simp)]
     have := ih (b + 1) i
     rw [show b + 1 + i = b + (i + 1) by omega] at this
     simpa using this
structure Given (g1 gp : Env) (S1 : St) (pl1 : List Nat) (os : List Ob) : Prop where
 len : os.length = pl1.length
 src : ∀ (j : Nat) o, pl1[j]? = some o → o < S1.obs.length ∧ gp j = g1 o
 made : ∀ (j : Nat) ob, os[j]? = some ob → ob ≠ .gone ∧ ∃ o, pl1[j]? = some o ∧ oX g1 gp (S1.ob o) ob pl1.length
 once : ∀ (j j' : Nat) o, j ≠ j' → pl1[j]? = some o → pl1[j']? = some o → pM (S1.ob o)
section
variable {P : Program} {g g' g1 gp : Env} {γ : Ghost} {S S1 Sd : St} {n : Nat} {a : Act} {w0 w w' : World} {D A : Nat → Prop}
theorem wK (F : Fit g γ S n a) (C : Cx g S w0 D A w) {Ls : List (Nat × SV)} {ks : List Nat} {N : Nst} {pl : List Src} (hN : uf 0 [] [] ks { S with slots := Ls } = some (N, pl))
 (hp : plB S.obs.length pl = true) :
 ∃ g1 gp : Env, Fit g1 γ (S.add (cE pl)) n a ∧ Cx g1 (S.add (cE pl)) w0 D A w ∧ Kp g S noD g1 (S.add (cE pl)) ∧ Given g1 gp (S.add (cE pl)) (gE S.obs.length pl) N.news ∧
  N.boxes = [] ∧ (∀ p ∈ N.slots, ∃ sv, aA Ls p.1 = some sv ∧ aq gp p.2 = aq g sv) ∧ ∀ p ∈ N.slots, kt p.2 = true ∧ ∀ o ∈ aL p.2, o < pl.length := by
 unfold uf at hN
 split at hN
 ·rename_i bx pl1 hbx
  obtain ⟨⟨os, plq⟩, hos, he⟩ := Option.map_eq_some_iff.1 hN
  simp only [Prod.mk.injEq] at he
  obtain ⟨rfl, rfl⟩ := he
  obtain ⟨Sx, hSx⟩ : ∃ Sx : St, Sx = { S with slots := Ls } := ⟨_, rfl⟩
  rw [← hSx] at hbx hos
  have hob : ∀ i, Sx.ob i = S.ob i := fun i => by rw [hSx]; rfl
  have P0 : lJ Sx 0 [] [] := fun j o h => by simp at h
  have R1 := fZ (S := Sx) (nb := 0) (sy := []) ks P0
  obtain ⟨e2, R2⟩ := cY R1.ok hbx
  obtain ⟨e3, R3⟩ := cR R2.ok (Nat.zero_le _) hos
  rw [Nat.zero_add] at e3
  obtain ⟨gp, hgp⟩ : ∃ gp, gp = AV g 0 plq := ⟨_, rfl⟩
  have G3 := rX g 0 plq
  rw [← hgp] at G3
  have G2 := G3.pre R3.pre
  have G1 := G2.pre R2.pre
  obtain ⟨g1, hg1⟩ : ∃ g1 : Env, g1 = fun i => if i < S.obs.length then g i else nilG := ⟨_, rfl⟩
  have hlo : ∀ i, i < S.obs.length → g1 i = g i := fun i hi => by simp [hg1, hi]
  have hhi : ∀ i, S.obs.length ≤ i → g1 i = nilG := fun i hi => by simp [hg1, Nat.not_lt.2 hi]
  have hext : Ext g g1 S.obs.length := hlo
  have obHi : ∀ j, (S.add (cE plq)).ob (S.obs.length + j) = ((plq[j]?).map Fi).getD .gone := fun j => by
   rw [bO (by omega), show S.obs.length + j - S.obs.length = j by omega, List.getD_eq_getElem?_getD, iv]
  have F1 : Fit g1 γ (S.add (cE plq)) n a := by
   refine gb F hext (fun j ob hj => ?_) (fun j T ls hj => ?_)
   ·rw [iv] at hj
    obtain ⟨s, hs, rfl⟩ := Option.map_eq_some_iff.1 hj
    cases s with
    | nil e t =>
      have := hhi (S.obs.length + j) (by omega)
      exact ⟨by rw [this]; exact ⟨rfl, rfl⟩, by rw [this]; exact ⟨none, 0, rfl, fun _ => rfl⟩, fun h => by cases h⟩
    | nilr e d =>
      have := hhi (S.obs.length + j) (by omega)
      show FleetP (g1 (S.obs.length + j)) e d [] none
      rw [this]
      exact pN e d
    | ob o => trivial
   ·rw [iv] at hj
    obtain ⟨s, hs, h⟩ := Option.map_eq_some_iff.1 hj
    cases s <;> simp [Fi] at h
  have R : Ren g S g1 (S.add (cE plq)) S.obs.length id (fun i => i < S.obs.length) := by
   refine ⟨fun i => ?_, fun i hi => ⟨hlo i hi, ?_⟩, fun i k hik _ _ h => absurd h hik⟩
   ·rcases Nat.lt_or_ge i S.obs.length with h | h
    ·exact .inr (.inr (.inr h))
    ·have := obHi (i - S.obs.length)
     rw [show S.obs.length + (i - S.obs.length) = i by omega] at this
     rw [this]
     cases hk : plq[i - S.obs.length]? with
     | none => exact .inl rfl
     | some s => cases s with
       | ob o => exact .inl rfl
       | nil e t => exact .inr (.inl ⟨e, t, .own, rfl, hhi i h⟩)
       | nilr e d => exact .inr (.inr (.inl ⟨e, d, rfl, hhi i h⟩))
   ·rw [aW hi]
    show oX g g1 (S.ob i) (S.ob i) _
    cases ho : S.ob i with
    | gone => trivial
    | box T ls => exact ⟨ls, rfl, ep ls (fun o hoo => hlo o (F.rb i T ls ho o hoo)), id, F.rb i T ls ho⟩
    | row e t xs m fu => exact ⟨m, fu, rfl, qL m, id⟩
    | fleet e d xs hl => exact rfl
  have hnn : ∀ {j o : Nat}, (gE S.obs.length plq)[j]? = some o → (plq[j]? = some (.ob o) ∧ o < S.obs.length) ∨ (((∃ e t, plq[j]? = some (.nil e t)) ∨ ∃ e d, plq[j]? = some (.nilr e d)) ∧ o = S.obs.length + j) := fun {j o} h => by
   rw [gH] at h
   obtain ⟨s, hs, rfl⟩ := Option.map_eq_some_iff.1 h
   cases s with
   | ob o => exact .inl ⟨hs, lK hp hs⟩
   | nil e t => exact .inr ⟨.inl ⟨e, t, hs⟩, rfl⟩
   | nilr e d => exact .inr ⟨.inr ⟨e, d, hs⟩, rfl⟩
  refine ⟨g1, gp, F1, Fh R C, Kp.add _ hext, ⟨by rw [e3, jI], fun j o ho => ?_, fun j ob hj => ?_, fun j j' o hne ho ho' => ?_⟩, ?_, ?_, ?_⟩
  ·rcases hnn ho with ⟨h1, h2⟩ | ⟨⟨e, t, h1⟩ | ⟨e, d, h1⟩, rfl⟩
   ·refine ⟨by simp only [St.add, List.length_append]; omega, ?_⟩
    have := (G3.2 j).1 o h1
    rw [Nat.zero_add] at this
    rw [this, hlo o h2]
   ·have hlt := (List.getElem?_eq_some_iff.1 h1).1
    refine ⟨by simp only [St.add, List.length_append, jT]; omega, ?_⟩
    have := (G3.2 j).2.1 e t h1
    rw [Nat.zero_add] at this
    rw [this, hhi _ (by omega)]
   ·have hlt := (List.getElem?_eq_some_iff.1 h1).1
    refine ⟨by simp only [St.add, List.length_append, jT]; omega, ?_⟩
    have := (G3.2 j).2.2 e d h1
    rw [Nat.zero_add] at this
    rw [this, hhi _ (by omega)]
  ·obtain ⟨_, q⟩ := R3.enc g gp G3 j ob hj
   rw [Nat.zero_add, Nat.zero_add] at q
   rcases q with ⟨o, h1, h2, h3⟩ | ⟨e, t, h1, rfl⟩ | ⟨e, d, h1, rfl⟩
   ·refine ⟨h2, o, by rw [gH, h1]; rfl, ?_⟩
    have hol := lK hp h1
    rw [aW hol, jI]
    rw [hob] at h3
    cases ob with
    | gone => trivial
    | box T ls =>
      obtain ⟨ls0, q1, q2, q3, q4⟩ := h3
      exact ⟨ls0, q1, by rw [q2, ep ls0 (fun x hx => hlo x (F.rb o T ls0 q1 x hx))], q3, q4⟩
    | row e t xs m fu => exact h3
    | fleet e d xs hl => exact h3
   ·refine ⟨by simp, S.obs.length + j, by rw [gH, h1]; rfl, ?_⟩
    rw [obHi, h1]
    exact ⟨.own, false, rfl, rfl, id⟩
   ·refine ⟨by simp, S.obs.length + j, by rw [gH, h1]; rfl, ?_⟩
    rw [obHi, h1]
    exact rfl
  ·rcases hnn ho with ⟨h1, h2⟩ | ⟨_, rfl⟩
   ·rcases hnn ho' with ⟨h1', _⟩ | ⟨_, rfl⟩
    ·rw [aW h2, ← hob]
     exact (R3.ok j o h1).2.2 j' (fun h => hne h.symm) h1'
    ·omega
   ·rcases hnn ho' with ⟨_, h⟩ | ⟨_, h⟩
    ·omega
    ·omega
  ·have : bx.map (·.1) = [] := e2
   simpa using this
  ·intro p hp'
   have hp'' : p ∈ (bV Sx 0 [] ks []).1 := by rw [hSx]; exact hp'
   obtain ⟨_, _, sv, h1, h2⟩ := R1.enc g gp G1 p hp''
   rw [hSx] at h1
   exact ⟨sv, h1, h2⟩
  ·intro p hp'
   have hp'' : p ∈ (bV Sx 0 [] ks []).1 := by rw [hSx]; exact hp'
   refine ⟨(R1.enc g gp G1 p hp'').2.1, fun o ho => ?_⟩
   have h1 := R1.refs o (List.mem_flatMap.2 ⟨p, hp'', ho⟩)
   have h2 := (R2.pre.trans R3.pre).length_le
   omega
 ·cases hN
theorem nM : ∀ (pl : List Nat) (os : List OSh) {S : St}, Fit g γ S n a →
 Fit g γ (br S pl os) n a ∧ (∀ w0 D A w, Cx g S w0 D A w → Cx g (br S pl os) w0 D A w) ∧ Kp g S noD g (br S pl os) ∧ (br S pl os).slots = S.slots ∧ (br S pl os).obs.length = S.obs.length ∧
  (∀ o, (br S pl os).ob o = S.ob o ∨ ∃ e t xs fu, S.ob o = .row e t xs .own fu ∧ (br S pl os).ob o = .row e t xs .rd fu ∧ ∃ (j : Nat) (e' : Nat) (t' : Ty), pl[j]? = some o ∧ os[j]? = some (.row e' t' .rd)) ∧
  (∀ (j o : Nat) e' t', pl[j]? = some o → os[j]? = some (.row e' t' .rd) → ∀ e t xs fu, (br S pl os).ob o ≠ .row e t xs .own fu)
 | [], os, S, F => by
   have : br S [] os = S := by cases os <;> rfl
   rw [this]
   exact ⟨F, fun _ _ _ _ h => h, Kp.refl .., rfl, rfl, fun _ => .inl rfl, fun j o e' t' h => by simp at h⟩
 | o :: pl, [], S, F => ⟨F, fun _ _ _ _ h => h, Kp.refl .., rfl, rfl, fun _ => .inl rfl, fun j o e' t' _ h => by simp at h⟩
 | o :: pl, s :: os, S, F => by
   have skip : br S (o :: pl) (s :: os) = br S pl os → (∀ e t, s = .row e t .rd → ∀ e t xs fu, S.ob o ≠ .row e t xs .own fu) →
    Fit g γ (br S (o :: pl) (s :: os)) n a ∧ (∀ w0 D A w, Cx g S w0 D A w → Cx g (br S (o :: pl) (s :: os)) w0 D A w) ∧ Kp g S noD g (br S (o :: pl) (s :: os)) ∧ (br S (o :: pl) (s :: os)).slots = S.slots ∧ (br S (o :: pl) (s :: os)).obs.length = S.obs.length ∧
    (∀ p, (br S (o :: pl) (s :: os)).ob p = S.ob p ∨ ∃ e t xs fu, S.ob p = .row e t xs .own fu ∧ (br S (o :: pl) (s :: os)).ob p = .row e t xs .rd fu ∧ ∃ (j : Nat) (e' : Nat) (t' : Ty), (o :: pl)[j]? = some p ∧ (s :: os)[j]? = some (.row e' t' .rd)) ∧
    (∀ (j p : Nat) e' t', (o :: pl)[j]? = some p → (s :: os)[j]? = some (.row e' t' .rd) → ∀ e t xs fu, (br S (o :: pl) (s :: os)).ob p ≠ .row e t xs .own fu) := by
    intro e hno
    rw [e]
    obtain ⟨h1, h2, h3, h4, h5, h6, h7⟩ := nM pl os F
    refine ⟨h1, h2, h3, h4, h5, fun p => ?_, fun j p e' t' hj hs => ?_⟩
    ·rcases h6 p with h | ⟨e, t, xs, fu, q1, q2, j, e', t', q3, q4⟩
     ·exact .inl h
     ·exact .inr ⟨e, t, xs, fu, q1, q2, j + 1, e', t', by simpa using q3, by simpa using q4⟩
    ·cases j with
     | zero =>
       simp only [List.getElem?_cons_zero, Option.some.injEq] at hj hs
       subst hj
       intro e t xs fu he
       rcases h6 o with h | ⟨e2, t2, xs2, fu2, q1, q2, _⟩
       ·rw [h] at he; exact hno e' t' hs e t xs fu he
       ·rw [q2] at he; cases he
     | succ j => exact h7 j p e' t' (by simpa using hj) (by simpa using hs)
   cases s with
   | row e0 t0 m0 =>
     cases m0 with
     | rd =>
       cases ho : S.ob o with
       | row e t xs m fu =>
         cases m with
         | own =>
           have e1 : br S (o :: pl) (.row e0 t0 .rd :: os) = br (S.setOb o (.row e t xs .rd fu)) pl os := by simp only [br, ho]
           rw [e1]
           have holt := nJ (S := S) (i := o) (by rw [ho]; simp)
           obtain ⟨f1, f2, f3, _⟩ := xJ F ho holt
           obtain ⟨h1, h2, h3, h4, h5, h6, h7⟩ := nM pl os f1
           have obo : ∀ p, (S.setOb o (.row e t xs .rd fu)).ob p = if o = p then .row e t xs .rd fu else S.ob p := fun p => by
            rw [iX]
            by_cases h : o = p
            ·rw [if_pos ⟨h, holt⟩, if_pos h]
            ·rw [if_neg (fun x => h x.1), if_neg h]
           refine ⟨h1, fun w0 D A w C => h2 _ _ _ _ (f2 _ _ _ _ C), f3.trans h3 (fun _ => id) (fun _ => id), h4, by rw [h5]; simp [St.setOb], fun p => ?_, fun j p e' t' hj hs => ?_⟩
           ·rcases h6 p with h | ⟨e2, t2, xs2, fu2, q1, q2, j, e', t', q3, q4⟩
            ·rw [obo] at h
             split at h
             ·rename_i hp; subst hp; exact .inr ⟨e, t, xs, fu, ho, h, 0, e0, t0, rfl, rfl⟩
             ·exact .inl h
            ·rw [obo] at q1
             split at q1
             ·cases q1
             ·exact .inr ⟨e2, t2, xs2, fu2, q1, q2, j + 1, e', t', by simpa using q3, by simpa using q4⟩
           ·cases j with
            | zero =>
              simp only [List.getElem?_cons_zero, Option.some.injEq] at hj hs
              subst hj
              intro e3 t3 xs3 fu3 he
              rcases h6 o with h | ⟨e2, t2, xs2, fu2, q1, q2, _⟩
              ·rw [obo, if_pos rfl] at h; rw [h] at he; cases he
              ·rw [q2] at he; cases he
            | succ j => exact h7 j p e' t' (by simpa using hj) (by simpa using hs)
         | rd => exact skip (by simp only [br, ho]) (fun _ _ _ e t xs fu h => by rw [ho] at h; cases h)
         | lent => exact skip (by simp only [br, ho]) (fun _ _ _ e t xs fu h => by rw [ho] at h; cases h)
       | box T ls => exact skip (by simp only [br, ho]) (fun _ _ _ e t xs fu h => by rw [ho] at h; cases h)
       | gone => exact skip (by simp only [br, ho]) (fun _ _ _ e t xs fu h => by rw [ho] at h; cases h)
       | fleet e d xs hl => exact skip (by simp only [br, ho]) (fun _ _ _ e t xs fu h => by rw [ho] at h; cases h)
     | own => exact skip rfl (fun _ _ h => by cases h)
     | lent => exact skip rfl (fun _ _ h => by cases h)
   | box T ls => exact skip rfl (fun _ _ h => by cases h)
   | gone => exact skip rfl (fun _ _ h => by cases h)
   | fleet e d => exact skip rfl (fun _ _ h => by cases h)
end
theorem xP {w0 w : World} {D A : Nat → Prop} {L R L' R' : Nat → Ent} (C : CtxF w0 D A L R w) (okL : ∀ i, (L' i).ok w) (okR : ∀ i, (R' i).ok w)
 (own : ∀ i b, (L' i).dom b → ∃ j, (L j).dom b)
 (apart : ∀ i k, i ≠ k → ∀ b, (L' i).dom b → ¬ (L' k).dom b)
 (rd : ∀ i b, (R' i).dom b → (∃ j, (R j).dom b ∧ ((R' i).lent = false → (R j).lent = false)) ∨ ((∃ j, (L j).dom b) ∧ ∀ k, ¬ (L' k).dom b)) : CtxF w0 D A L' R' w := by
 refine ⟨C.fr, okL, okR, fun i b hb => ?_, apart, fun i j b hb hb' => ?_, fun i hl b hb => ?_⟩
 ·obtain ⟨j, hj⟩ := own i b hb; exact C.mine j b hj
 ·rcases rd j b hb' with ⟨k, h, _⟩ | ⟨_, h⟩
  ·obtain ⟨q, hq⟩ := own i b hb; exact C.sepR q k b hq h
  ·exact h i hb
 ·rcases rd i b hb with ⟨k, h, hf⟩ | ⟨⟨k, h⟩, _⟩
  ·exact C.src k (hf hl) b h
  ·exact .inr (C.mine k b h)
theorem zd {g' κ : Env} {n j : Nat} {ob : Ob} {l : Bool} (hg : g' (j + n) = κ j) (hr : ∀ T ls, ob = .box T ls → ∀ o ∈ ls.flatMap aN, g' (o + n) = κ o) (hp : iq ob = true) (h0 : AO κ j ob) :
 an g' (j + n) (mvO (· + n) (aZ l ob)) = cF κ j (aZ l ob) ∧ az g' (j + n) (mvO (· + n) (aZ l ob)) = cG κ j (aZ l ob) ∧ obP g' (j + n) (mvO (· + n) (aZ l ob)) := by
 cases ob with
 | gone => cases hp
 | fleet e d xs hl => cases hp
 | box T ls =>
   obtain ⟨l1, _, l3, _⟩ := kJ (g := κ) (g' := g') (f := (· + n)) ls (fun o ho => by simp only [hr T ls rfl o ho]; exact ⟨trivial, trivial⟩)
   exact ⟨by simp only [aZ, mvO, an, cF, qH, hg, l1], rfl, l3 h0⟩
 | row e t xs m fu =>
   obtain ⟨h1, h2, h3, h4⟩ := h0
   obtain ⟨m', hm'⟩ : ∃ m', m' = sR l m := ⟨_, rfl⟩
   refine ⟨?_, ?_, ?_⟩
   ·simp only [aZ, ← hm']
    cases m' <;> simp only [mvO, an, cF, hg]
   ·simp only [aZ, ← hm']
    cases m' <;> simp only [mvO, az, cG, hg]
   ·simp only [aZ, ← hm', mvO, obP, hg]
    exact ⟨h1, h2, fun h => by rw [h3] at h; cases h⟩
theorem HW {g' κ : Env} {n j : Nat} {ob : Ob} {l : Bool} (hg : ∀ j, g' (j + n) = κ j) (hp : iq ob = true) (h0 : AO κ j ob) :
 an g' (j + n) (mvO (· + n) (aZ l ob)) = cF κ j (aZ l ob) ∧ az g' (j + n) (mvO (· + n) (aZ l ob)) = cG κ j (aZ l ob) ∧ obP g' (j + n) (mvO (· + n) (aZ l ob)) :=
 zd (hg j) (fun _ _ _ o _ => hg o) hp h0
theorem sV (ob : Ob) : aZ false ob = ob := by cases ob <;> rfl
theorem AX {κ : Env} {j b : Nat} {l : Bool} {ob : Ob} (h : (cG κ j (aZ l ob)).lent = false) (hb : (cG κ j (aZ l ob)).dom b) : l = false := by
 cases l with
 | false => rfl
 | true =>
   cases ob with
   | row e t xs m fu => cases h
   | box T ls => exact hb.elim
   | fleet e d xs hl => exact hb.elim
   | gone => exact hb.elim
theorem Fj {κ : Env} {j : Nat} {l : Bool} {ob : Ob} (hp : iq ob = true) (hl : l = false) : (cG κ j (aZ l ob)).lent = false := by
 subst hl
 cases ob with
 | row e t xs m fu => cases m <;> first | rfl | (simp [iq] at hp)
 | box T ls => rfl
 | fleet e d xs hl => rfl
 | gone => rfl
theorem pO {α β : Type} {f : α → List Dyn → Option (β × List Dyn)} : ∀ {xs : List α} {ds ds' : List Dyn} {ys : List β}, bo f xs ds = some (ys, ds') → ys.length = xs.length
 | [], ds, ds', ys, h => by simp only [bo, Option.some.injEq, Prod.mk.injEq] at h; obtain ⟨rfl, _⟩ := h; rfl
 | x :: xs, ds, ds', ys, h => by
   simp only [bo] at h
   split at h
   ·split at h
    ·rename_i h2
     simp only [Option.some.injEq, Prod.mk.injEq] at h
     obtain ⟨rfl, _⟩ := h
     simp [pO h2]
    ·cases h
   ·cases h
theorem pP {d : Kd} {x : (bm d).den} {os : List Ob} (h : jN d x = some os) : os.length = (CP d).length := by
 unfold jN at h
 split at h
 ·rename_i h1
  cases h
  exact pO h1
 ·cases h
section
variable {P : Program} {g g' g1 gp : Env} {γ : Ghost} {S S1 Sd : St} {n : Nat} {a : Act} {w0 w w' : World} {D A : Nat → Prop}
theorem AY (F : Fit g γ S n a) {o e : Nat} {d : Kd} {xs : List (bm d).den} {k : Nat} {x : (bm d).den} {os : List Ob} (ho : S.ob o = .fleet e d xs none) (hk : xs[k]? = some x) (hos : jN d x = some os) (hpl : os.all iq = true) :
 ∃ g', Fit g' γ (fy S o e d xs k os) n a ∧ (∀ w0 D A w, Cx g S w0 D A w → Cx g' (fy S o e d xs k os) w0 D A w) ∧ Kp g S noD g' (fy S o e d xs k os) ∧ (g' S.obs.length).b = gq (g o) k ∧ g' o = g o ∧ o < S.obs.length ∧ S.obs.length < (fy S o e d xs k os).obs.length ∧ (∀ j, g' (j + S.obs.length) = dL (g o) k j) := by
 obtain ⟨m, hm⟩ : ∃ m, m = S.obs.length := ⟨_, rfl⟩
 have holt : o < m := by rw [hm]; exact nJ (by rw [ho]; simp)
 have hP : FleetP (g o) e d xs none := by have := F.ob o; rwa [ho] at this
 have hK := hP.kid k x hk (by simp)
 obtain ⟨os', e1, T0, ls0, e2⟩ := hK.ex
 rw [hos] at e1
 cases e1
 have hkl : k < xs.length := (List.getElem?_eq_some_iff.1 hk).1
 have hkid : ∀ j, bq d x j = os.getD j .gone := fun j => by simp only [bq, hos, Option.getD_some]
 obtain ⟨g', hg'⟩ : ∃ g' : Env, g' = fun i => if i < m then g i else dL (g o) k (i - m) := ⟨_, rfl⟩
 have gLo : ∀ i, i < m → g' i = g i := fun i hi => by simp [hg', hi]
 have gHi : ∀ j, g' (j + m) = dL (g o) k j := fun j => by simp only [hg', if_neg (show ¬ j + m < m by omega), Nat.add_sub_cancel]
 obtain ⟨S', hS'⟩ : ∃ S', S' = fy S o e d xs k os := ⟨_, rfl⟩
 rw [← hS', ← hm]
 have hlen : S'.obs.length = m + os.length := by simp only [hS', fy, List.length_append, List.length_set, List.length_map, hm]
 have obO : S'.ob o = .fleet e d xs (some k) := by
  simp only [hS', fy, St.ob, List.getD_eq_getElem?_getD]
  rw [List.getElem?_append_left (by simpa [hm] using holt), List.getElem?_set, if_pos rfl, if_pos (by rw [← hm]; exact holt)]
  rfl
 have obLo : ∀ i, i < m → i ≠ o → S'.ob i = S.ob i := fun i hi hne => by
  simp only [hS', fy, St.ob, List.getD_eq_getElem?_getD]
  rw [List.getElem?_append_left (by simpa [hm] using hi), List.getElem?_set, if_neg (Ne.symm hne)]
 have obHi : ∀ j, S'.ob (j + m) = mvO (· + m) (aZ d.l (bq d x j)) := fun j => by
  rw [hkid]
  simp only [hS', fy, St.ob, List.getD_eq_getElem?_getD]
  rw [List.getElem?_append_right (by simp [hm]), List.length_set, ← hm, Nat.add_sub_cancel, List.getElem?_map]
  cases os[j]? <;> rfl
 -- a part
 have part : ∀ j, (bq d x j = .gone) ∨ iq (bq d x j) = true := fun j => by
  rw [hkid]
  cases h : os[j]? with
  | none => left; simp [List.getD_eq_getElem?_getD, h]
  | some ob => right; simp only [List.getD_eq_getElem?_getD, h, Option.getD_some]; exact List.all_eq_true.1 hpl ob (List.mem_of_getElem? h)
 have entHi : ∀ j, an g' (j + m) (S'.ob (j + m)) = aF (g o) e d xs none (some (k, j)) ∧ az g' (j + m) (S'.ob (j + m)) = aY (g o) d xs none (k, j) ∧ obP g' (j + m) (S'.ob (j + m)) := fun j => by
  have eL : aF (g o) e d xs none (some (k, j)) = cF (dL (g o) k) j (aZ d.l (bq d x j)) := by simp [aF, hk]
  have eR : aY (g o) d xs none (k, j) = cG (dL (g o) k) j (aZ d.l (bq d x j)) := by simp [aY, hk]
  rw [eL, eR, obHi]
  rcases part j with h | h
  ·rw [h]; exact ⟨rfl, rfl, trivial⟩
  ·exact HW gHi h (hK.ob j)
 have entLo : ∀ i, i < m → i ≠ o → an g' i (S'.ob i) = an g i (S.ob i) ∧ az g' i (S'.ob i) = az g i (S.ob i) := fun i hi hne => by
  rw [obLo i hi hne]
  exact ⟨iW (gLo i hi) (fun T ls e x hx => gLo x (by rw [hm]; exact F.rb i T ls e x hx)), cQ (gLo i hi)⟩
 have eO : an g' o (S'.ob o) = el (g o) e d xs (some k) ∧ az g' o (S'.ob o) = fE (g o) d xs (some k) := by
  rw [obO]; simp only [an, az, gLo o holt]; exact ⟨trivial, trivial⟩
 have eO0 : an g o (S.ob o) = el (g o) e d xs none ∧ az g o (S.ob o) = fE (g o) d xs none := by rw [ho]; exact ⟨rfl, rfl⟩
 -- with a hole there is less
 have holeL : ∀ q, aF (g o) e d xs (some k) q = Ent.nil ∧ (∃ j, q = some (k, j)) ∨ aF (g o) e d xs (some k) q = aF (g o) e d xs none q ∧ ∀ j, q ≠ some (k, j) := fun q => by
  cases q with
  | none => exact .inr ⟨rfl, fun j h => by cases h⟩
  | some kj =>
    obtain ⟨k', j⟩ := kj
    by_cases h : k = k'
    ·subst h; exact .inl ⟨by simp [aF], j, rfl⟩
    ·refine .inr ⟨by simp [aF, h], fun j' h' => ?_⟩
     simp only [Option.some.injEq, Prod.mk.injEq] at h'
     exact h h'.1.symm
 have holeR : ∀ q, aY (g o) d xs (some k) q = Ent.nil ∨ aY (g o) d xs (some k) q = aY (g o) d xs none q := fun q => by
  obtain ⟨k', j⟩ := q
  by_cases h : k = k'
  ·subst h; exact .inl (by simp [aY])
  ·exact .inr (by simp [aY, h])
 have split3 : ∀ i, i = o ∨ (i < m ∧ i ≠ o) ∨ ∃ j, i = j + m := fun i => by
  by_cases h : i = o
  ·exact .inl h
  ·rcases Nat.lt_or_ge i m with h' | h'
   ·exact .inr (.inl ⟨h', h⟩)
   ·exact .inr (.inr ⟨i - m, by omega⟩)
 refine ⟨g', ⟨F.size, F.lo, F.defers, fun t sv h => ?_, fun i => ?_, fun t sv h => ?_, fun t sv h r hr => ?_, fun i T ls h r hr => ?_⟩, fun w0 D A w C => ?_, ⟨by rw [hlen, ← hm]; omega, fun i hi => ?_, fun i hi hmo => ?_, fun i hi => ?_, fun t ht => by rw [hS']; rfl, fun i hi e' t xs' m' fu h => ?_⟩, ?_, gLo o holt, holt, ?_, gHi⟩
 ·have h' : aA S.slots t = some sv := by rw [hS'] at h; exact h
  have := F.sl t sv h'
  rwa [eq (g := g) (g' := g') sv (fun o ho => gLo o (by rw [hm]; exact F.rs t sv h' o ho))]
 ·rcases split3 i with rfl | ⟨h1, h2⟩ | ⟨j, rfl⟩
  ·rw [obO]
   show FleetP (g' i) e d xs (some k)
   rw [gLo i holt]
   refine ⟨hP.n, hP.cs, hP.fs, hP.kb, hP.sl, fun k' x' h1 h2 => hP.kid k' x' h1 (by simp), fun p q hpq b hb hb' => ?_⟩
   rcases holeL p with ⟨h, _⟩ | ⟨h, _⟩ <;> rw [h] at hb
   ·exact hb.elim
   ·rcases holeL q with ⟨h, _⟩ | ⟨h, _⟩ <;> rw [h] at hb'
    ·exact hb'.elim
    ·exact hP.apart p q hpq b hb hb'
  ·rw [obLo i h1 h2]; exact iN (gLo i h1) (F.ob i)
  ·exact (entHi j).2.2
 ·have h' : aA S.slots t = some sv := by rw [hS'] at h; exact h
  have hok := F.ok t sv h'
  have okE : ∀ v : V1, (∀ o ∈ bi v, o < m) → okV S v → okV S' v := fun v hr hv => by
   cases v with
   | elp o2 sz i off =>
     intro e2 t2 xs2 m2 fu2 he
     have hlt : o2 < m := hr o2 (by simp [bi])
     by_cases hne : o2 = o
     ·subst hne; rw [obO] at he; cases he
     ·rw [obLo o2 hlt hne] at he; exact hv e2 t2 xs2 m2 fu2 he
   | arp b off t n i => exact hv
   | _ => trivial
  cases sv with
  | v x => exact okE x (fun o ho => by rw [hm]; exact F.rs t _ h' o ho) hok
  | tup xs => exact fun x hx => okE x (fun o ho => by rw [hm]; exact F.rs t _ h' o (List.mem_flatMap.2 ⟨x, hx, ho⟩)) (hok x hx)
 ·have h' : aA S.slots t = some sv := by rw [hS'] at h; exact h
  have := F.rs t sv h' r hr
  rw [hlen]; omega
 ·rcases split3 i with rfl | ⟨h1, h2⟩ | ⟨j, rfl⟩
  ·rw [obO] at h; cases h
  ·rw [obLo i h1 h2] at h
   have := F.rb i T ls h r hr
   rw [hlen]; omega
  ·rw [obHi] at h
   cases hj : bq d x j with
   | gone => rw [hj] at h; cases h
   | row e t xs m fu => rw [hj] at h; cases h
   | fleet e d xs hl => rw [hj] at h; cases h
   | box T' ls' =>
     rw [hj] at h
     cases h
     rw [(kJ (g := g) (g' := fun i => g (i - m)) (f := (· + m)) ls' (fun o _ => by simp)).2.2.2] at hr
     obtain ⟨r', hr', rfl⟩ := List.mem_map.1 hr
     have h1 := hK.rb j _ ls' hj r' hr'
     have h2 : os.length = (CP d).length := pP hos
     rw [hlen]; omega
 ·refine xP C (fun i => ?_) (fun i => ?_) (fun i b hb => ?_) (fun i i' hne b hb hb' => ?_) (fun i b hb => ?_)
  ·rcases split3 i with rfl | ⟨h1, h2⟩ | ⟨j, rfl⟩
   ·simp only [eO.1]
    have := C.okL i
    simp only [eO0.1] at this
    intro q
    rcases holeL q with ⟨h, _⟩ | ⟨h, _⟩ <;> rw [h]
    ·trivial
    ·exact this q
   ·simp only [(entLo i h1 h2).1]; exact C.okL i
   ·simp only [(entHi j).1]
    have := C.okL o
    simp only [eO0.1] at this
    exact this _
  ·rcases split3 i with rfl | ⟨h1, h2⟩ | ⟨j, rfl⟩
   ·simp only [eO.2]
    have := C.okR i
    simp only [eO0.2] at this
    intro q
    rcases holeR q with h | h <;> rw [h]
    ·trivial
    ·exact this q
   ·simp only [(entLo i h1 h2).2]; exact C.okR i
   ·simp only [(entHi j).2.1]
    have := C.okR o
    simp only [eO0.2] at this
    exact this _
  ·rcases split3 i with rfl | ⟨h1, h2⟩ | ⟨j, rfl⟩
   ·simp only [eO.1] at hb
    obtain ⟨q, hq⟩ := hb
    refine ⟨i, ?_⟩
    simp only [eO0.1]
    rcases holeL q with ⟨h, _⟩ | ⟨h, _⟩ <;> rw [h] at hq
    ·exact hq.elim
    ·exact ⟨q, hq⟩
   ·simp only [(entLo i h1 h2).1] at hb; exact ⟨i, hb⟩
   ·simp only [(entHi j).1] at hb
    exact ⟨o, by simp only [eO0.1]; exact ⟨_, hb⟩⟩
  ·-- of one's own: where it was
   have wh : ∀ i, (an g' i (S'.ob i)).dom b → (i < m ∧ i ≠ o ∧ (an g i (S.ob i)).dom b) ∨ (an g o (S.ob o)).dom b ∧ ∃ q, (aF (g o) e d xs none q).dom b ∧ (i = o ∧ (∀ j, q ≠ some (k, j)) ∨ ∃ j, i = j + m ∧ q = some (k, j)) := fun i hb => by
    rcases split3 i with rfl | ⟨h1, h2⟩ | ⟨j, rfl⟩
    ·rw [eO.1] at hb
     obtain ⟨q, hq⟩ := hb
     rcases holeL q with ⟨h, _⟩ | ⟨h, hq2⟩ <;> rw [h] at hq
     ·exact hq.elim
     ·exact .inr ⟨by rw [eO0.1]; exact ⟨q, hq⟩, q, hq, .inl ⟨rfl, hq2⟩⟩
    ·rw [(entLo i h1 h2).1] at hb; exact .inl ⟨h1, h2, hb⟩
    ·rw [(entHi j).1] at hb; exact .inr ⟨by rw [eO0.1]; exact ⟨_, hb⟩, _, hb, .inr ⟨j, rfl, rfl⟩⟩
   rcases wh i hb with ⟨h1, h2, h3⟩ | ⟨h3, q, h4, h5⟩
   ·rcases wh i' hb' with ⟨h1', h2', h3'⟩ | ⟨h3', _⟩
    ·exact C.sepL i i' hne b h3 h3'
    ·exact C.sepL i o h2 b h3 h3'
   ·rcases wh i' hb' with ⟨h1', h2', h3'⟩ | ⟨h3', q', h4', h5'⟩
    ·exact C.sepL i' o h2' b h3' h3
    ·have hq : q ≠ q' := by
      rintro rfl
      rcases h5 with ⟨rfl, h5⟩ | ⟨j, rfl, rfl⟩
      ·rcases h5' with ⟨rfl, _⟩ | ⟨j', _, rfl⟩
       ·exact hne rfl
       ·exact h5 j' rfl
      ·rcases h5' with ⟨_, h5'⟩ | ⟨j', rfl, h6⟩
       ·exact h5' j rfl
       ·simp only [Option.some.injEq, Prod.mk.injEq, true_and] at h6
        exact hne (by rw [h6])
     exact hP.apart q q' hq b h4 h4'
  ·rcases split3 i with rfl | ⟨h1, h2⟩ | ⟨j, rfl⟩
   ·simp only [eO.2] at hb
    obtain ⟨q, hq⟩ := hb
    refine .inl ⟨i, ?_, fun h => by simp only [eO.2] at h; simp only [eO0.2]; exact h⟩
    simp only [eO0.2]
    rcases holeR q with h | h <;> rw [h] at hq
    ·exact hq.elim
    ·exact ⟨q, hq⟩
   ·simp only [(entLo i h1 h2).2] at hb ⊢; exact .inl ⟨i, hb, id⟩
   ·simp only [(entHi j).2.1] at hb
    refine .inl ⟨o, by simp only [eO0.2]; exact ⟨_, hb⟩, fun h => ?_⟩
    simp only [(entHi j).2.1] at h
    have eR : aY (g o) d xs none (k, j) = cG (dL (g o) k) j (aZ d.l (bq d x j)) := by simp [aY, hk]
    rw [eR] at h hb
    simp only [eO0.2]
    exact AX h hb
 ·rw [← hm] at hi; rw [gLo i hi]; exact ⟨rfl, rfl⟩
 ·rw [← hm] at hi
  have hne : i ≠ o := fun h => hmo (by rw [hS', h]; exact List.mem_cons_self ..)
  exact ⟨obLo i hi hne, gLo i hi⟩
 ·rw [hS']; exact List.mem_cons_of_mem _ hi
 ·rw [← hm] at hi
  by_cases hne : i = o
  ·subst hne; rw [obO] at h; cases h
  ·rw [obLo i hi hne] at h; exact ⟨_, _, _, _, h, rfl⟩
 ·have := gHi 0
  rw [Nat.zero_add] at this
  rw [this]
  exact hP.kb k hkl
 ·rw [hlen]
  have := (List.getElem?_eq_some_iff.1 e2).1
  omega
theorem xQ (F : Fit g γ S n a) {o e k b : Nat} {d : Kd} {xs : List (bm d).den} {x : (bm d).den} {os : List Ob} (ho : S.ob o = .fleet e d xs (some k)) (hk : xs[k]? = some x) (hos : jN d x = some os) (hpl : os.all iq = true)
 (hP : FleetP (g o) e d xs none) (hob : o < b) (hlen : b + os.length ≤ S.obs.length) (hp : ∀ j, j < os.length → S.ob (j + b) = mvO (· + b) (aZ d.l (bq d x j))) (hg : ∀ j, j < os.length → g (j + b) = dL (g o) k j) :
 Fit g γ (eW S o e d xs b os.length) n a ∧ (∀ w0 D A w, Cx g S w0 D A w → Cx g (eW S o e d xs b os.length) w0 D A w) ∧ (eW S o e d xs b os.length).obs.length = S.obs.length ∧
  (eW S o e d xs b os.length).ob o = .fleet e d xs none ∧ ∀ i, i ≠ o → ¬ (b ≤ i ∧ i < b + os.length) → (eW S o e d xs b os.length).ob i = S.ob i := by
 obtain ⟨S', hS'⟩ : ∃ S', S' = eW S o e d xs b os.length := ⟨_, rfl⟩
 rw [← hS']
 have hkl : k < xs.length := (List.getElem?_eq_some_iff.1 hk).1
 have hK := hP.kid k x hk (by simp)
 have hkid : ∀ j, bq d x j = os.getD j .gone := fun j => by simp only [bq, hos, Option.getD_some]
 have hl : S'.obs.length = S.obs.length := by simp [hS', eW]
 have obO : S'.ob o = .fleet e d xs none := by
  simp only [hS', eW, St.ob, List.getD_eq_getElem?_getD, List.getElem?_set]
  have h1 : o < S.obs.length := by omega
  simp [h1]
 have obQ : ∀ i, i ≠ o → S'.ob i = if b ≤ i ∧ i < b + os.length then .gone else S.ob i := fun i hi => by
  simp only [hS', eW, St.ob, List.getD_eq_getElem?_getD, List.getElem?_set, if_neg (Ne.symm hi), List.getElem?_map, List.getElem?_zipIdx, Nat.zero_add]
  cases h : S.obs[i]? with
  | none => simp
  | some ob => simp only [Option.map_some, Option.getD_some]
 have obP_ : ∀ j, j < os.length → S'.ob (j + b) = .gone := fun j hj => by rw [obQ _ (by omega), if_pos (by omega)]
 have obN : ∀ i, i ≠ o → ¬ (b ≤ i ∧ i < b + os.length) → S'.ob i = S.ob i := fun i hi hn => by rw [obQ i hi, if_neg hn]
 have part : ∀ j, j < os.length → iq (bq d x j) = true := fun j hj => by
  rw [hkid, List.getD_eq_getElem?_getD, List.getElem?_eq_getElem hj]
  exact List.all_eq_true.1 hpl _ (List.getElem_mem hj)
 have entHi : ∀ j, j < os.length → an g (j + b) (S.ob (j + b)) = aF (g o) e d xs none (some (k, j)) ∧ az g (j + b) (S.ob (j + b)) = aY (g o) d xs none (k, j) := fun j hj => by
  have eL : aF (g o) e d xs none (some (k, j)) = cF (dL (g o) k) j (aZ d.l (bq d x j)) := by simp [aF, hk]
  have eR : aY (g o) d xs none (k, j) = cG (dL (g o) k) j (aZ d.l (bq d x j)) := by simp [aY, hk]
  rw [eL, eR, hp j hj]
  obtain ⟨h1, h2, _⟩ := zd (l := d.l) (hg j hj) (fun T ls h r hr => hg r (by rw [pP hos]; exact hK.rb j T ls h r hr)) (part j hj) (hK.ob j)
  exact ⟨h1, h2⟩
 have gone : ∀ j, os.length ≤ j → aF (g o) e d xs none (some (k, j)) = Ent.nil ∧ aY (g o) d xs none (k, j) = Ent.nil := fun j hj => by
  have h0 : bq d x j = .gone := by rw [hkid, List.getD_eq_getElem?_getD, List.getElem?_eq_none hj]; rfl
  have eL : aF (g o) e d xs none (some (k, j)) = cF (dL (g o) k) j (aZ d.l (bq d x j)) := by simp [aF, hk]
  have eR : aY (g o) d xs none (k, j) = cG (dL (g o) k) j (aZ d.l (bq d x j)) := by simp [aY, hk]
  rw [eL, eR, h0]; exact ⟨rfl, rfl⟩
 have eO : an g o (S'.ob o) = el (g o) e d xs none ∧ az g o (S'.ob o) = fE (g o) d xs none := by rw [obO]; exact ⟨rfl, rfl⟩
 have eO0 : an g o (S.ob o) = el (g o) e d xs (some k) ∧ az g o (S.ob o) = fE (g o) d xs (some k) := by rw [ho]; exact ⟨rfl, rfl⟩
 -- each part of it was somewhere
 have fromL : ∀ q, aF (g o) e d xs none q = Ent.nil ∨ aF (g o) e d xs none q = aF (g o) e d xs (some k) q ∨ ∃ j, j < os.length ∧ q = some (k, j) ∧ aF (g o) e d xs none q = an g (j + b) (S.ob (j + b)) := fun q => by
  cases q with
  | none => exact .inr (.inl rfl)
  | some kj =>
    obtain ⟨k', j⟩ := kj
    by_cases h : k = k'
    ·subst h
     by_cases hj : j < os.length
     ·exact .inr (.inr ⟨j, hj, rfl, (entHi j hj).1.symm⟩)
     ·exact .inl (gone j (by omega)).1
    ·exact .inr (.inl (by simp [aF, h]))
 have fromR : ∀ q, aY (g o) d xs none q = Ent.nil ∨ aY (g o) d xs none q = aY (g o) d xs (some k) q ∨ ∃ j, j < os.length ∧ q = (k, j) ∧ aY (g o) d xs none q = az g (j + b) (S.ob (j + b)) := fun q => by
  obtain ⟨k', j⟩ := q
  by_cases h : k = k'
  ·subst h
   by_cases hj : j < os.length
   ·exact .inr (.inr ⟨j, hj, rfl, (entHi j hj).2.symm⟩)
   ·exact .inl (gone j (by omega)).2
  ·exact .inr (.inl (by simp [aY, h]))
 have split3 : ∀ i, i = o ∨ (∃ j, j < os.length ∧ i = j + b) ∨ (i ≠ o ∧ ¬ (b ≤ i ∧ i < b + os.length)) := fun i => by
  by_cases h : i = o
  ·exact .inl h
  ·by_cases h' : b ≤ i ∧ i < b + os.length
   ·exact .inr (.inl ⟨i - b, by omega, by omega⟩)
   ·exact .inr (.inr ⟨h, h'⟩)
 refine ⟨⟨F.size, F.lo, F.defers, fun t sv h => F.sl t sv (by rw [hS'] at h; exact h), fun i => ?_, fun t sv h => ?_, fun t sv h r hr => by rw [hl]; exact F.rs t sv (by rw [hS'] at h; exact h) r hr, fun i T ls h r hr => ?_⟩, fun w0 D A w C => ?_, hl, obO, obN⟩
 ·rcases split3 i with rfl | ⟨j, hj, rfl⟩ | ⟨h1, h2⟩
  ·rw [obO]; exact hP
  ·rw [obP_ j hj]; trivial
  ·rw [obN i h1 h2]; exact F.ob i
 ·have h' : aA S.slots t = some sv := by rw [hS'] at h; exact h
  have hok := F.ok t sv h'
  have okE : ∀ v : V1, okV S v → okV S' v := fun v hv => by
   cases v with
   | elp o2 sz i off =>
     intro e2 t2 xs2 m2 fu2 he
     rcases split3 o2 with rfl | ⟨j, hj, rfl⟩ | ⟨h1, h2⟩
     ·rw [obO] at he; cases he
     ·rw [obP_ j hj] at he; cases he
     ·rw [obN o2 h1 h2] at he; exact hv e2 t2 xs2 m2 fu2 he
   | arp b off t n i => exact hv
   | _ => trivial
  cases sv with
  | v x => exact okE x hok
  | tup xs => exact fun x hx => okE x (hok x hx)
 ·rw [hl]
  rcases split3 i with rfl | ⟨j, hj, rfl⟩ | ⟨h1, h2⟩
  ·rw [obO] at h; cases h
  ·rw [obP_ j hj] at h; cases h
  ·rw [obN i h1 h2] at h; exact F.rb i T ls h r hr
 ·have wh : ∀ i b', (an g i (S'.ob i)).dom b' → (i = o ∧ (∃ j, j < os.length ∧ (an g (j + b) (S.ob (j + b))).dom b')) ∨ ((i = o ∨ (i ≠ o ∧ ¬ (b ≤ i ∧ i < b + os.length))) ∧ (an g i (S.ob i)).dom b') := fun i b' hb => by
   rcases split3 i with rfl | ⟨j, hj, rfl⟩ | ⟨h1, h2⟩
   ·rw [eO.1] at hb
    obtain ⟨q, hq⟩ := hb
    rcases fromL q with h | h | ⟨j, hj, _, h⟩
    ·rw [h] at hq; exact hq.elim
    ·exact .inr ⟨.inl rfl, by rw [eO0.1]; exact ⟨q, by rw [← h]; exact hq⟩⟩
    ·exact .inl ⟨rfl, j, hj, by rw [← h]; exact hq⟩
   ·rw [obP_ j hj] at hb; exact hb.elim
   ·rw [obN i h1 h2] at hb; exact .inr ⟨.inr ⟨h1, h2⟩, hb⟩
  refine xP C (fun i => ?_) (fun i => ?_) (fun i b' hb => ?_) (fun i i' hne b' hb hb' => ?_) (fun i b' hb => ?_)
  ·rcases split3 i with rfl | ⟨j, hj, rfl⟩ | ⟨h1, h2⟩
   ·simp only [eO.1]
    intro q
    rcases fromL q with h | h | ⟨j, hj, _, h⟩
    ·rw [h]; trivial
    ·rw [h]
     have := C.okL i
     simp only [eO0.1] at this
     exact this q
    ·rw [h]; exact C.okL (j + b)
   ·simp only [obP_ j hj]; trivial
   ·simp only [obN i h1 h2]; exact C.okL i
  ·rcases split3 i with rfl | ⟨j, hj, rfl⟩ | ⟨h1, h2⟩
   ·simp only [eO.2]
    intro q
    rcases fromR q with h | h | ⟨j, hj, _, h⟩
    ·rw [h]; trivial
    ·rw [h]
     have := C.okR i
     simp only [eO0.2] at this
     exact this q
    ·rw [h]; exact C.okR (j + b)
   ·simp only [obP_ j hj]; trivial
   ·simp only [obN i h1 h2]; exact C.okR i
  ·rcases wh i b' hb with ⟨rfl, j, hj, h⟩ | ⟨_, h⟩
   ·exact ⟨j + b, h⟩
   ·exact ⟨i, h⟩
  ·rcases wh i b' hb with ⟨rfl, j, hj, h⟩ | ⟨h1, h⟩
   ·rcases wh i' b' hb' with ⟨rfl, _⟩ | ⟨h1', h'⟩
    ·exact hne rfl
    ·refine C.sepL (j + b) i' (fun e => ?_) b' h h'
     rcases h1' with h1' | ⟨_, h1'⟩ <;> omega
   ·rcases wh i' b' hb' with ⟨rfl, j, hj, h'⟩ | ⟨h1', h'⟩
    ·refine C.sepL (j + b) i (fun e => ?_) b' h' h
     rcases h1 with h1 | ⟨_, h1⟩ <;> omega
    ·exact C.sepL i i' hne b' h h'
  ·rcases split3 i with rfl | ⟨j, hj, rfl⟩ | ⟨h1, h2⟩
   ·simp only [eO.2] at hb
    obtain ⟨q, hq⟩ := hb
    rcases fromR q with h | h | ⟨j, hj, hqe, h⟩
    ·rw [h] at hq; exact hq.elim
    ·refine .inl ⟨i, by simp only [eO0.2]; exact ⟨q, by rw [← h]; exact hq⟩, fun hlt => ?_⟩
     simp only [eO.2] at hlt; simp only [eO0.2]; exact hlt
    ·refine .inl ⟨j + b, by simp only [← h]; exact hq, fun hlt => ?_⟩
     simp only [eO.2] at hlt
     have hdl : d.l = false := hlt
     have eR : aY (g i) d xs none (k, j) = cG (dL (g i) k) j (aZ d.l (bq d x j)) := by simp [aY, hk]
     simp only [← h, hqe, eR]
     exact Fj (part j hj) hdl
   ·simp only [obP_ j hj] at hb; exact hb.elim
   ·simp only [obN i h1 h2] at hb ⊢; exact .inl ⟨i, hb, id⟩
end
theorem ze : ∀ (ts : List Ty) (x : HL ts), HG ts (toP ts x) = toD ts x
 | [], _ => rfl
 | [_], _ => rfl
 | t :: u :: ts, x => by
   exact congrArg (List.cons (⟨t, x.1⟩ : Dyn)) (ze (u :: ts) x.2)
theorem Dc {d : Kd} {ds : List Dyn} {x : (bm d).den} (h : EO d ds = some x) : HG (Ey d) x = ds := by
 obtain ⟨y, hy, rfl⟩ := Option.map_eq_some_iff.1 h
 rw [ze, jK _ _ _ hy]
def dn (G : GV) : GV0 := ⟨G.v, G.one, G.b, G.cs, G.fs⟩
theorem Fk {gp : Env} : ∀ (ls : List At), ls.all IA = true → aw (fun j => (dn (gp j)).up) ls = aw gp ls
 | [], _ => rfl
 | a :: ls, h => by
   simp only [List.all_cons, Bool.and_eq_true] at h
   have := Fk (gp := gp) ls h.2
   simp only [aw] at this ⊢
   rw [List.flatMap_cons, List.flatMap_cons, this]
   congr 1
   cases a <;> first | rfl | (cases h.1)
section
variable {P : Program} {g g' g1 gp : Env} {γ : Ghost} {S S1 S' Sd : St} {n : Nat} {a : Act} {w0 w w' : World} {D A : Nat → Prop}
theorem mj : ∀ (l : List Nat) {S : St}, (cK S l).slots = S.slots ∧ (cK S l).obs.length = S.obs.length ∧ (∀ i, (cK S l).ob i = S.ob i ∨ (cK S l).ob i = .gone) ∧
 (∀ i ∈ l, tj (S.ob i) = true → (cK S l).ob i = .gone) ∧ (∀ i, i ∉ (cK S l).mods → (cK S l).ob i = S.ob i) ∧ ∀ i ∈ S.mods, i ∈ (cK S l).mods
 | [], S => ⟨rfl, rfl, fun _ => .inl rfl, fun i h => (by cases h), fun _ _ => rfl, fun _ h => h⟩
 | o :: l, S => by
   by_cases ho : tj (S.ob o) = true
   ·have e : cK S (o :: l) = cK (S.setOb o .gone) l := by simp only [cK, if_pos ho]
    rw [e]
    obtain ⟨h1, h2, h3, h4, h5, h6⟩ := mj l (S := S.setOb o .gone)
    have holt : o < S.obs.length := nJ (by intro h; rw [h] at ho; cases ho)
    have ob : ∀ i, (S.setOb o .gone).ob i = if o = i then .gone else S.ob i := fun i => by
     rw [iX]
     by_cases h : o = i
     ·rw [if_pos ⟨h, holt⟩, if_pos h]
     ·rw [if_neg (fun x => h x.1), if_neg h]
    refine ⟨h1, by rw [h2]; simp [St.setOb], fun i => ?_, fun i hi hown => ?_, fun i hi => ?_, fun i hi => h6 i (List.mem_cons_of_mem _ hi)⟩
    ·rcases h3 i with h | h
     ·rw [h, ob]
      split
      ·exact .inr rfl
      ·exact .inl rfl
     ·exact .inr h
    ·by_cases hoi : o = i
     ·rcases h3 i with h | h
      ·rw [h, ob, if_pos hoi]
      ·exact h
     ·rcases List.mem_cons.1 hi with rfl | hi
      ·exact absurd rfl hoi
      ·exact h4 i hi (by rw [ob, if_neg hoi]; exact hown)
    ·have hne : o ≠ i := fun h => hi (h6 i (by rw [← h]; exact List.mem_cons_self ..))
     rw [h5 i hi, ob, if_neg hne]
   ·have e : cK S (o :: l) = cK S l := by simp only [cK, if_neg ho]
    rw [e]
    obtain ⟨h1, h2, h3, h4, h5, h6⟩ := mj l (S := S)
    refine ⟨h1, h2, h3, fun i hi hown => ?_, h5, h6⟩
    rcases List.mem_cons.1 hi with rfl | hi
    ·exact absurd hown ho
    ·exact h4 i hi hown
theorem Kj {o' j bd : Nat} {ob0 ob : Ob} {κ : Env} (hκ : κ = fun j => (dn (gp j)).up) (hP : obP g1 o' ob0) (okL : (an g1 o' ob0).ok w) (okR : (az g1 o' ob0).ok w) (hM : oX g1 gp ob0 ob bd) (hg : gp j = g1 o') (hp : iq ob = true) :
 (cF κ j ob).ok w ∧ (∀ b, (cF κ j ob).dom b → tj ob0 = true ∧ (an g1 o' ob0).dom b) ∧ (cG κ j ob).ok w ∧
  (∀ b, (cG κ j ob).dom b → (az g1 o' ob0).dom b ∨ tj ob0 = true ∧ (an g1 o' ob0).dom b ∧ ∀ b, ¬ (cF κ j ob).dom b) ∧ AO κ j ob := by
 have hκj : κ j = (dn (gp j)).up := by rw [hκ]
 cases ob with
 | gone => cases hp
 | fleet e d xs hl => cases hp
 | box T ls =>
   obtain ⟨ls0, rfl, h2, h3, h4⟩ := hM
   have e : cF κ j (.box T ls) = an g1 o' (.box T ls0) := by
    simp only [cF, an, qH, hκj, hg]
    rw [hκ, Fk ls hp, h2]
    rfl
   rw [e]
   exact ⟨okL, fun b hb => ⟨rfl, hb⟩, trivial, fun b hb => hb.elim, h3 hP⟩
 | row e t xs m fu =>
   obtain ⟨m0, fu0, rfl, h2, h3⟩ := hM
   simp only [iq, Bool.and_eq_true, decide_eq_true_eq, Bool.not_eq_true'] at hp
   have hP' : AO κ j (.row e t xs m fu) := by
    refine ⟨?_, ?_, hp.2, hp.1⟩
    ·rw [hκj, hg]; exact hP.1
    ·rw [hκj, hg]; exact hP.2.1
   cases m with
   | own =>
     cases m0 <;> simp [leM] at h2
     have e1 : cF κ j (.row e t xs .own fu) = an g1 o' (.row e t xs .own fu0) := by simp only [cF, an, hκj, hg]; rfl
     have e2 : cG κ j (.row e t xs .own fu) = az g1 o' (.row e t xs .own fu0) := by simp only [cG, az, hκj, hg]; rfl
     rw [e1, e2]
     exact ⟨okL, fun b hb => ⟨rfl, hb⟩, okR, fun b hb => .inl hb, hP'⟩
   | rd =>
     have e2 : cG κ j (.row e t xs .rd fu) = dK false (⟨(g1 o').v, xs.length, t.sz, (g1 o').cs⟩ :: (g1 o').fs) := by simp only [cG, hκj, hg]; rfl
     rw [e2]
     cases m0 with
     | lent => simp [leM] at h2
     | rd => exact ⟨trivial, fun b hb => hb.elim, okR, fun b hb => .inl hb, hP'⟩
     | own =>
       refine ⟨trivial, fun b hb => hb.elim, fun f hf => ?_, fun b ⟨f, hf, x1, x2⟩ => ?_, hP'⟩
       ·rcases List.mem_cons.1 hf with rfl | hf
        ·exact kD okL
        ·exact okR f hf
       ·rcases List.mem_cons.1 hf with rfl | hf
        ·exact .inr ⟨rfl, xN (g' := g1) (σ0 := o') (u := t) okL x2, fun b hb => hb.elim⟩
        ·exact .inl ⟨f, hf, x1, x2⟩
   | lent => exact absurd rfl hp.1
theorem wL (F : Fit g γ S n a) (C : Cx g S w0 D A w) {o e k b : Nat} {d : Kd} {xs : List (bm d).den} {put : (bm d).den → List (bm d).den} (ho : S.ob o = .fleet e d xs (some k)) (hbk : (g b).b = gq (g o) k)
 (h : xB S o e d put b = some S') (hput : ∀ x, put x = xs.set k x) : ∃ g', Fit g' γ S' n a ∧ Cx g' S' w0 D A w ∧ Kp g S noD g' S' := by
 unfold xB at h
 split at h
 ·rename_i N pl hN
  split at h
  ·rename_i hc
   simp only [Bool.and_eq_true] at hc
   obtain ⟨⟨⟨hp, hle⟩, hdl⟩, hhd⟩ := hc
   have hdl : d.l = false := by simpa using hdl
   split at h
   ·rename_i x hx
    split at h
    ·rename_i os hos
     split at h
     ·rename_i hpl
      simp only [Bool.and_eq_true] at hpl
      cases h
      obtain ⟨g1, gp, F1, C1, K1, G, hbx, henc, hsl⟩ := wK F C hN hp
      obtain ⟨n1, n2, n3⟩ := qM hN
      obtain ⟨os', q1, W⟩ := xM n3 hle []
      have hos' : os' = os := by
       have : jN d x = some os' := by
        unfold jN
        rw [Dc hx]
        rw [List.append_nil] at q1
        rw [q1]
       rw [hos] at this
       cases this; rfl
      rw [hos'] at W
      have holt0 : o < S.obs.length := nJ (by rw [ho]; simp)
      obtain ⟨pl1, hpl1⟩ : ∃ pl1, pl1 = gE S.obs.length pl := ⟨_, rfl⟩
      rw [← hpl1] at G ⊢
      obtain ⟨S1, hS1⟩ : ∃ S1, S1 = S.add (cE pl) := ⟨_, rfl⟩
      have ho1 : S1.ob o = .fleet e d xs (some k) := by rw [hS1, aW holt0]; exact ho
      rw [← hS1] at F1 C1 K1 G ⊢
      have holt : o < S1.obs.length := nJ (by rw [ho1]; simp)
      have hhead : pl1[0]? = some b := by
       rw [hpl1, gH]
       cases pl with
       | nil => cases hhd
       | cons s pl =>
         cases s with
         | ob b' => have : b' = b := by simpa [EP] using hhd
                    subst this; rfl
         | nil e t => cases hhd
         | nilr e d => cases hhd
      have hgp0 : (gp 0).b = gq (g1 o) k := by
       obtain ⟨h1, h2⟩ := G.src 0 b hhead
       have hblt : b < S.obs.length := by
        have := lK (pl := pl) (j := 0) (o := b) hp (by
         cases pl with
         | nil => cases hhd
         | cons s pl =>
           cases s with
           | ob b' => have : b' = b := by simpa [EP] using hhd
                      subst this; rfl
           | nil e t => cases hhd
           | nilr e d => cases hhd)
        exact this
       rw [h2]
       have v1 := (K1.vb b hblt).2
       have v2 := (K1.vb o holt0).2
       show (g1 b).bb.1 = (g1 o).bb.2 k
       rw [v1, v2]
       exact hbk
      -- the parts
      have hlen : os.length = pl1.length := by rw [← W.len, G.len]
      have src : ∀ j ob, os[j]? = some ob → ∃ o', pl1[j]? = some o' ∧ o' < S1.obs.length ∧ gp j = g1 o' ∧ oX g1 gp (S1.ob o') ob pl1.length := fun j ob hj => by
       obtain ⟨ob1, h1, hw⟩ := W.get hj
       obtain ⟨_, o', h2, hM⟩ := G.made j ob1 h1
       obtain ⟨h3, h4⟩ := G.src j o' h2
       exact ⟨o', h2, h3, h4, tG hM hw⟩
      obtain ⟨κ, hκ⟩ : ∃ κ : Env, κ = fun j => (dn (gp j)).up := ⟨_, rfl⟩
      have kid : ∀ j ob o', os[j]? = some ob → pl1[j]? = some o' → (cF κ j ob).ok w ∧ (∀ b, (cF κ j ob).dom b → tj (S1.ob o') = true ∧ (an g1 o' (S1.ob o')).dom b) ∧ (cG κ j ob).ok w ∧
       (∀ b, (cG κ j ob).dom b → (az g1 o' (S1.ob o')).dom b ∨ tj (S1.ob o') = true ∧ (an g1 o' (S1.ob o')).dom b ∧ ∀ b, ¬ (cF κ j ob).dom b) ∧ AO κ j ob := fun j ob o' hj ho' => by
       obtain ⟨o2, h1, h2, h3, h4⟩ := src j ob hj
       rw [ho'] at h1
       cases h1
       exact Kj (w := w) (j := j) hκ (F1.ob o') (C1.okL o') (C1.okR o') h4 h3 (List.all_eq_true.1 hpl.1 ob (List.mem_of_getElem? hj))
      have hkid : ∀ j, bq d x j = os.getD j .gone := fun j => by simp only [bq, hos, Option.getD_some]
      have hP : FleetP (g1 o) e d xs (some k) := by have := F1.ob o; rwa [ho1] at this
      obtain ⟨G', hG'⟩ : ∃ G' : GV, G' = ⟨(g1 o).v, (g1 o).one, (g1 o).bb, (g1 o).cs, (g1 o).fs, (g1 o).ks.set k (fun j => dn (gp j))⟩ := ⟨_, rfl⟩
      have kidE_ne : ∀ k', k' ≠ k → dL G' k' = dL (g1 o) k' := fun k' hk' => by
       funext j
       simp only [dL, hG', List.getD_eq_getElem?_getD, List.getElem?_set, if_neg (Ne.symm hk')]
      have kidE_eq : k < xs.length → dL G' k = κ := fun hk => by
       funext j
       rw [hκ]
       simp only [dL, hG', List.getD_eq_getElem?_getD]
       rw [List.getElem?_set, if_pos rfl, if_pos (by rw [hP.n]; exact hk)]
       rfl
      have xs_ne : ∀ k', k' ≠ k → (xs.set k x)[k']? = xs[k']? := fun k' hk' => by rw [List.getElem?_set, if_neg (Ne.symm hk')]
      have pL : ∀ q, (aF G' e d (xs.set k x) none q = aF (g1 o) e d xs (some k) q ∧ ∀ j, q ≠ some (k, j)) ∨ ∃ j, q = some (k, j) ∧ (aF G' e d (xs.set k x) none q = Ent.nil ∨ ∃ ob, os[j]? = some ob ∧ aF G' e d (xs.set k x) none q = cF κ j ob) := fun q => by
       cases q with
       | none => exact .inl ⟨by simp only [aF, hG', List.length_set], fun j h => by cases h⟩
       | some kj =>
         obtain ⟨k', j⟩ := kj
         by_cases hk : k' = k
         ·subst hk
          refine .inr ⟨j, rfl, ?_⟩
          by_cases hlt : k' < xs.length
          ·have e1 : aF G' e d (xs.set k' x) none (some (k', j)) = cF κ j (bq d x j) := by
            simp only [aF, hdl, sV]
            rw [if_neg (by simp), List.getElem?_set, if_pos rfl, if_pos hlt, kidE_eq hlt]
           rw [e1, hkid]
           cases hj : os[j]? with
           | none => left; simp only [List.getD_eq_getElem?_getD, hj, Option.getD_none]; rfl
           | some ob => right; exact ⟨ob, rfl, by simp only [List.getD_eq_getElem?_getD, hj, Option.getD_some]⟩
          ·left
           simp only [aF]
           rw [if_neg (by simp), List.getElem?_set, if_pos rfl, if_neg hlt]
         ·refine .inl ⟨?_, fun j' h => by simp only [Option.some.injEq, Prod.mk.injEq] at h; exact hk h.1⟩
          simp only [aF, xs_ne k' hk, kidE_ne k' hk]
          rw [if_neg (by simp), if_neg (by simp only [Option.some.injEq]; exact Ne.symm hk)]
      have pR : ∀ q : Nat × Nat, (aY G' d (xs.set k x) none q = aY (g1 o) d xs (some k) q) ∨ ∃ j, q = (k, j) ∧ (aY G' d (xs.set k x) none q = Ent.nil ∨ ∃ ob, os[j]? = some ob ∧ aY G' d (xs.set k x) none q = cG κ j ob) := fun q => by
       obtain ⟨k', j⟩ := q
       by_cases hk : k' = k
       ·subst hk
        refine .inr ⟨j, rfl, ?_⟩
        by_cases hlt : k' < xs.length
        ·have e1 : aY G' d (xs.set k' x) none (k', j) = cG κ j (bq d x j) := by
          simp only [aY, hdl, sV]
          rw [if_neg (by simp), List.getElem?_set, if_pos rfl, if_pos hlt, kidE_eq hlt]
         rw [e1, hkid]
         cases hj : os[j]? with
         | none => left; simp only [List.getD_eq_getElem?_getD, hj, Option.getD_none]; rfl
         | some ob => right; exact ⟨ob, rfl, by simp only [List.getD_eq_getElem?_getD, hj, Option.getD_some]⟩
        ·left
         simp only [aY]
         rw [if_neg (by simp), List.getElem?_set, if_pos rfl, if_neg hlt]
       ·left
        simp only [aY, xs_ne k' hk, kidE_ne k' hk]
        rw [if_neg (by simp), if_neg (by simp only [Option.some.injEq]; exact Ne.symm hk)]
      -- the state
      obtain ⟨D1, D2, D3, D4, D5, D6⟩ := mj pl1 (S := S1)
      obtain ⟨S2, hS2⟩ : ∃ S2, S2 = cK S1 pl1 := ⟨_, rfl⟩
      rw [← hS2] at D1 D2 D3 D4 D5 D6 ⊢
      rw [hput x]
      obtain ⟨S', hS'⟩ : ∃ S', S' = S2.setOb o (.fleet e d (xs.set k x) none) := ⟨_, rfl⟩
      rw [← hS']
      have hl' : S'.obs.length = S1.obs.length := by rw [hS']; simp only [St.setOb, List.length_set]; exact D2
      have obO : S'.ob o = .fleet e d (xs.set k x) none := by rw [hS', iX, if_pos ⟨rfl, by rw [D2]; exact holt⟩]
      have obN : ∀ i, i ≠ o → S'.ob i = S2.ob i := fun i hi => by rw [hS', iX, if_neg (fun h => hi h.1.symm)]
      obtain ⟨g', hg'⟩ : ∃ g' : Env, g' = fun i => if i = o then G' else g1 i := ⟨_, rfl⟩
      have gO : g' o = G' := by simp [hg']
      have gN : ∀ i, i ≠ o → g' i = g1 i := fun i hi => by simp [hg', hi]
      have gvb : ∀ i, (g' i).v = (g1 i).v ∧ (g' i).bb = (g1 i).bb := fun i => by
       by_cases hi : i = o
       ·subst hi; rw [gO, hG']; exact ⟨rfl, rfl⟩
       ·rw [gN i hi]; exact ⟨rfl, rfl⟩
      have eO0 : an g1 o (S1.ob o) = el (g1 o) e d xs (some k) ∧ az g1 o (S1.ob o) = fE (g1 o) d xs (some k) := by rw [ho1]; exact ⟨rfl, rfl⟩
      have eO : an g' o (S'.ob o) = el G' e d (xs.set k x) none ∧ az g' o (S'.ob o) = fE G' d (xs.set k x) none := by
       rw [obO]; simp only [an, az, gO]; exact ⟨trivial, trivial⟩
      have entN : ∀ i, i ≠ o → S'.ob i = .gone ∨ (S'.ob i = S1.ob i ∧ an g' i (S'.ob i) = an g1 i (S1.ob i) ∧ az g' i (S'.ob i) = az g1 i (S1.ob i) ∧ ¬ (i ∈ pl1 ∧ tj (S1.ob i) = true)) := fun i hi => by
       rw [obN i hi]
       by_cases hg : S2.ob i = .gone
       ·exact .inl hg
       ·rcases D3 i with h | h
        ·refine .inr ⟨h, ?_, ?_, fun hm => hg (D4 i hm.1 hm.2)⟩
         ·rw [h]; exact tE (gN i hi) (fun T ls e x hx => gvb x)
         ·rw [h]; exact cQ (gN i hi)
        ·exact absurd h hg
      -- of one's own: where it was
      have wh : ∀ i b, (an g' i (S'.ob i)).dom b → (i ≠ o ∧ (an g1 i (S1.ob i)).dom b ∧ ¬ (i ∈ pl1 ∧ tj (S1.ob i) = true)) ∨ i = o ∧ ∃ q, (aF G' e d (xs.set k x) none q).dom b ∧
       (((∀ j, q ≠ some (k, j)) ∧ (aF (g1 o) e d xs (some k) q).dom b ∧ (an g1 o (S1.ob o)).dom b) ∨ ∃ j ob o', q = some (k, j) ∧ os[j]? = some ob ∧ pl1[j]? = some o' ∧ (cF κ j ob).dom b ∧ tj (S1.ob o') = true ∧ (an g1 o' (S1.ob o')).dom b) := fun i b hb => by
       by_cases hi : i = o
       ·subst hi
        rw [eO.1] at hb
        obtain ⟨q, hq⟩ := hb
        refine .inr ⟨rfl, q, hq, ?_⟩
        rcases pL q with ⟨h1, h2⟩ | ⟨j, rfl, h1 | ⟨ob, h1, h2⟩⟩
        ·rw [h1] at hq
         exact .inl ⟨h2, hq, by rw [eO0.1]; exact ⟨q, hq⟩⟩
        ·rw [h1] at hq; exact hq.elim
        ·rw [h2] at hq
         obtain ⟨o', h3, _⟩ := src j ob h1
         obtain ⟨_, k2, _⟩ := kid j ob o' h1 h3
         exact .inr ⟨j, ob, o', rfl, h1, h3, hq, k2 b hq⟩
       ·rcases entN i hi with h | ⟨_, h1, _, h2⟩
        ·rw [h] at hb; exact hb.elim
        ·rw [h1] at hb; exact .inl ⟨hi, hb, h2⟩
      have ne_o : ∀ {o'}, tj (S1.ob o') = true → o' ≠ o := fun h e => by rw [e, ho1] at h; cases h
      have once : ∀ {j j' : Nat} {o'}, pl1[j]? = some o' → pl1[j']? = some o' → tj (S1.ob o') = true → j = j' := fun {j j' o'} h1 h2 h3 => by
       by_cases hj : j = j'
       ·exact hj
       ·obtain ⟨e2, t2, xs2, m2, fu2, h4, h5⟩ := G.once j j' o' hj h1 h2
        rw [h4] at h3
        cases m2 with
        | own => exact absurd rfl h5
        | rd => cases h3
        | lent => cases h3
      have FP : FleetP G' e d (xs.set k x) none := by
       refine ⟨by rw [hG']; simp only [List.length_set]; exact hP.n, ?_, by rw [hG']; exact hP.fs, fun k' hk' => ?_, by rw [hG', List.length_set]; exact hP.sl, fun k' x' hx' _ => ?_, fun p q hpq b hb hb' => ?_⟩
       ·rw [List.length_set, hG']; exact hP.cs
       ·rw [List.length_set] at hk'
        have eb : gq G' k' = gq (g1 o) k' := by rw [hG']; rfl
        by_cases h : k' = k
        ·subst h
         rw [kidE_eq hk', eb, hκ]
         exact hgp0
        ·rw [kidE_ne k' h, eb]; exact hP.kb k' hk'
       ·by_cases h : k' = k
        ·subst h
         have hlt : k' < xs.length := by
          have := (List.getElem?_eq_some_iff.1 hx').1
          simpa using this
         rw [List.getElem?_set, if_pos rfl, if_pos hlt] at hx'
         have ex : x' = x := (Option.some.inj hx').symm
         rw [ex]
         rw [kidE_eq hlt]
         refine ⟨⟨os, hos, ?_⟩, fun j => ?_, fun j T ls hj r hr => ?_⟩
         ·cases os with
          | nil => simp [xA] at hpl
          | cons ob os =>
            cases ob with
            | box T ls => exact ⟨T, ls, rfl⟩
            | _ => simp [xA] at hpl
         ·rw [hkid]
          cases hj : os[j]? with
          | none => simp only [List.getD_eq_getElem?_getD, hj, Option.getD_none]; trivial
          | some ob =>
            simp only [List.getD_eq_getElem?_getD, hj, Option.getD_some]
            obtain ⟨o', h3, _⟩ := src j ob hj
            exact (kid j ob o' hj h3).2.2.2.2
         ·rw [hkid] at hj
          cases hj' : os[j]? with
          | none => simp [List.getD_eq_getElem?_getD, hj'] at hj
          | some ob =>
            simp only [List.getD_eq_getElem?_getD, hj', Option.getD_some] at hj
            subst hj
            obtain ⟨o', _, _, _, hM⟩ := src j _ hj'
            obtain ⟨_, _, _, _, h4⟩ := hM
            rw [← pP hos, hlen]
            exact h4 r hr
        ·rw [xs_ne k' h] at hx'
         rw [kidE_ne k' h]
         exact hP.kid k' x' hx' (by simp only [ne_eq, Option.some.injEq]; exact fun e => h e.symm)
       ·rcases wh o b (by rw [eO.1]; exact ⟨p, hb⟩) with ⟨h, _⟩ | _
        ·exact absurd rfl h
        ·rcases pL p with ⟨h1, h2⟩ | ⟨j, rfl, h1 | ⟨ob, h1, h2⟩⟩
         ·rw [h1] at hb
          rcases pL q with ⟨h1', h2'⟩ | ⟨j', rfl, h1' | ⟨ob', h1', h2'⟩⟩
          ·rw [h1'] at hb'; exact hP.apart p q hpq b hb hb'
          ·rw [h1'] at hb'; exact hb'.elim
          ·rw [h2'] at hb'
           obtain ⟨o', h3, _⟩ := src j' ob' h1'
           obtain ⟨h4, h5⟩ := (kid j' ob' o' h1' h3).2.1 b hb'
           exact C1.sepL o' o (ne_o h4) b h5 (by simp only [eO0.1]; exact ⟨p, hb⟩)
         ·rw [h1] at hb; exact hb.elim
         ·rw [h2] at hb
          obtain ⟨o', h3, _⟩ := src j ob h1
          obtain ⟨h4, h5⟩ := (kid j ob o' h1 h3).2.1 b hb
          rcases pL q with ⟨h1', h2'⟩ | ⟨j', rfl, h1' | ⟨ob', h1', h2'⟩⟩
          ·rw [h1'] at hb'
           exact C1.sepL o' o (ne_o h4) b h5 (by simp only [eO0.1]; exact ⟨q, hb'⟩)
          ·rw [h1'] at hb'; exact hb'.elim
          ·rw [h2'] at hb'
           obtain ⟨o2, h3', _⟩ := src j' ob' h1'
           obtain ⟨h4', h5'⟩ := (kid j' ob' o2 h1' h3').2.1 b hb'
           by_cases ho2 : o' = o2
           ·subst ho2
            have := once h3 h3' h4
            subst this
            exact hpq rfl
           ·exact C1.sepL o' o2 ho2 b h5 h5'
      refine ⟨g', ⟨F1.size, F1.lo, F1.defers, fun t sv h => ?_, fun i => ?_, fun t sv h => ?_, fun t sv h r hr => ?_, fun i T ls h r hr => ?_⟩, ?_, ?_⟩
      ·have h' : aA S1.slots t = some sv := by rw [hS'] at h; simp only [St.setOb, D1] at h; exact h
       have := F1.sl t sv h'
       rwa [qK (g := g1) (g' := g') sv (fun o _ => gvb o)]
      ·by_cases hi : i = o
       ·subst hi
        rw [obO]
        show FleetP (g' i) e d (xs.set k x) none
        rw [gO]
        exact FP
       ·rcases entN i hi with h | ⟨h, _⟩ <;> rw [h]
        ·trivial
        ·exact iN (gN i hi) (F1.ob i)
      ·have h' : aA S1.slots t = some sv := by rw [hS'] at h; simp only [St.setOb, D1] at h; exact h
       have hok := F1.ok t sv h'
       have okE : ∀ v : V1, okV S1 v → okV S' v := fun v hv => by
        cases v with
        | elp o2 sz i off =>
          intro e2 t2 xs2 m2 fu2 he
          by_cases hne : o2 = o
          ·subst hne; rw [obO] at he; cases he
          ·rcases entN o2 hne with h | ⟨h, _⟩ <;> rw [h] at he
           ·cases he
           ·exact hv e2 t2 xs2 m2 fu2 he
        | arp b off t n i => exact hv
        | _ => trivial
       cases sv with
       | v x => exact okE x hok
       | tup xs => exact fun x hx => okE x (hok x hx)
      ·have h' : aA S1.slots t = some sv := by rw [hS'] at h; simp only [St.setOb, D1] at h; exact h
       rw [hl']; exact F1.rs t sv h' r hr
      ·by_cases hi : i = o
       ·subst hi; rw [obO] at h; cases h
       ·rcases entN i hi with h1 | ⟨h1, _⟩ <;> rw [h1] at h
        ·cases h
        ·rw [hl']; exact F1.rb i T ls h r hr
      ·refine xP C1 (fun i => ?_) (fun i => ?_) (fun i b hb => ?_) (fun i i' hne b hb hb' => ?_) (fun i b hb => ?_)
       ·by_cases hi : i = o
        ·subst hi
         simp only [eO.1]
         have h0 := C1.okL i
         simp only [eO0.1] at h0
         intro q
         rcases pL q with ⟨h1, h2⟩ | ⟨j, rfl, h1 | ⟨ob, h1, h2⟩⟩
         ·rw [h1]; exact h0 q
         ·rw [h1]; trivial
         ·rw [h2]
          obtain ⟨o', h3, _⟩ := src j ob h1
          exact (kid j ob o' h1 h3).1
        ·rcases entN i hi with h | ⟨_, h1, _, _⟩
         ·simp only [h]; trivial
         ·simp only [h1]; exact C1.okL i
       ·by_cases hi : i = o
        ·subst hi
         simp only [eO.2]
         have h0 := C1.okR i
         simp only [eO0.2] at h0
         intro q
         rcases pR q with h1 | ⟨j, rfl, h1 | ⟨ob, h1, h2⟩⟩
         ·rw [h1]; exact h0 q
         ·rw [h1]; trivial
         ·rw [h2]
          obtain ⟨o', h3, _⟩ := src j ob h1
          exact (kid j ob o' h1 h3).2.2.1
        ·rcases entN i hi with h | ⟨_, _, h1, _⟩
         ·simp only [h]; trivial
         ·simp only [h1]; exact C1.okR i
       ·rcases wh i b hb with ⟨_, h, _⟩ | ⟨rfl, q, _, ⟨_, _, h⟩ | ⟨j, ob, o', _, _, _, _, _, h⟩⟩
        ·exact ⟨i, h⟩
        ·exact ⟨i, h⟩
        ·exact ⟨o', h⟩
       ·rcases wh i b hb with ⟨h1, h2, h3⟩ | ⟨rfl, q, _, h4⟩
        ·rcases wh i' b hb' with ⟨h1', h2', h3'⟩ | ⟨rfl, q', _, h4'⟩
         ·exact C1.sepL i i' hne b h2 h2'
         ·rcases h4' with ⟨_, _, h⟩ | ⟨j, ob, o', _, _, h6, _, h7, h⟩
          ·exact C1.sepL i i' hne b h2 h
          ·by_cases e : i = o'
           ·subst e; exact h3 ⟨List.mem_of_getElem? h6, h7⟩
           ·exact C1.sepL i o' e b h2 h
        ·rcases wh i' b hb' with ⟨h1', h2', h3'⟩ | ⟨rfl, _⟩
         ·rcases h4 with ⟨_, _, h⟩ | ⟨j, ob, o', _, _, h6, _, h7, h⟩
          ·exact C1.sepL i i' hne b h h2'
          ·by_cases e : i' = o'
           ·subst e; exact h3' ⟨List.mem_of_getElem? h6, h7⟩
           ·exact C1.sepL i' o' e b h2' h
         ·exact hne rfl
       ·by_cases hi : i = o
        ·subst hi
         simp only [eO.2] at hb
         obtain ⟨q, hq⟩ := hb
         rcases pR q with h1 | ⟨j, rfl, h1 | ⟨ob, h1, h2⟩⟩
         ·rw [h1] at hq
          exact .inl ⟨i, by simp only [eO0.2]; exact ⟨q, hq⟩, fun h => by simp only [eO.2] at h; simp only [eO0.2]; exact h⟩
         ·rw [h1] at hq; exact hq.elim
         ·rw [h2] at hq
          obtain ⟨o', h3, _, h3b, hM⟩ := src j ob h1
          rcases (kid j ob o' h1 h3).2.2.2.1 b hq with h4 | ⟨h4, h5, h6⟩
          ·refine .inl ⟨o', h4, fun _ => ?_⟩
           have hpo := List.all_eq_true.1 hpl.1 ob (List.mem_of_getElem? h1)
           cases ob with
           | gone => cases hpo
           | fleet e d xs hl => cases hpo
           | box T ls => exact hq.elim
           | row e2 t2 xs2 m2 fu2 =>
             obtain ⟨m0, fu0, h7, h8, _⟩ := hM
             simp only [iq, Bool.and_eq_true, decide_eq_true_eq] at hpo
             rw [h7]
             cases m0 with
             | own => rfl
             | rd => rfl
             | lent => cases m2 with
               | own => cases h8
               | rd => cases h8
               | lent => exact absurd rfl hpo.1
          ·refine .inr ⟨⟨o', h5⟩, fun k2 hk2 => ?_⟩
           rcases wh k2 b hk2 with ⟨x1, x2, x3⟩ | ⟨rfl, q', _, ⟨_, _, x4⟩ | ⟨j2, ob2, o2, _, x5, x6, x7, x8, x9⟩⟩
           ·by_cases e : k2 = o'
            ·subst e; exact x3 ⟨List.mem_of_getElem? h3, h4⟩
            ·exact C1.sepL k2 o' e b x2 h5
           ·exact C1.sepL o' k2 (ne_o h4) b h5 x4
           ·by_cases e : o' = o2
            ·subst e
             have := once h3 x6 h4
             subst this
             rw [h1] at x5
             cases x5
             exact h6 b x7
            ·exact C1.sepL o' o2 e b h5 x9
        ·rcases entN i hi with h | ⟨_, _, h1, _⟩
         ·simp only [h] at hb; exact hb.elim
         ·simp only [h1] at hb; exact .inl ⟨i, hb, fun hl => by simp only [h1] at hl; exact hl⟩
      ·refine (K1.trans (g2 := g') (S2 := S') (d := noD) (d1 := noD) (d2 := noD) ⟨Nat.le_of_eq hl'.symm, fun i _ => gvb i, fun i hi hm => ?_, fun i hi => ?_, fun t _ => by rw [hS']; simp only [St.setOb, D1], fun i hi e2 t2 xs2 m2 fu2 h => ?_⟩ (fun _ => id) (fun _ => id))
       ·have hne : i ≠ o := fun h => hm (by rw [hS', h]; exact List.mem_cons_self ..)
        have hm2 : i ∉ S2.mods := fun h => hm (by rw [hS']; exact List.mem_cons_of_mem _ h)
        exact ⟨by rw [obN i hne]; exact D5 i hm2, gN i hne⟩
       ·rw [hS']; exact List.mem_cons_of_mem _ (D6 i hi)
       ·by_cases hne : i = o
        ·subst hne; rw [obO] at h; cases h
        ·rcases entN i hne with h1 | ⟨h1, _⟩ <;> rw [h1] at h
         ·cases h
         ·exact ⟨_, _, _, _, h, rfl⟩
     ·cases h
    ·cases h
   ·cases h
  ·cases h
 ·cases h
end
section
variable {P : Program} {g g' : Env} {γ : Ghost} {S : St} {n : Nat} {a : Act} {w0 w w' : World} {D A : Nat → Prop} {α : Type} {K : St → SV → Option α} {out : α}
def zf (G H : GV) (v : Value) (hv : v.oneCell' = true) (m : Nat) : GV := ⟨v, hv, (0, fun k => if k < m then gq G k else gq H (k - m)), G.cs ++ H.cs, [], G.ks ++ H.ks⟩
theorem qN {G H : GV} {v : Value} {hv : v.oneCell' = true} {m : Nat} (hm : G.ks.length = m) (k : Nat) : dL (zf G H v hv m) k = if k < m then dL G k else dL H (k - m) := by
 subst hm
 funext j
 by_cases h : k < G.ks.length
 ·rw [if_pos h]
  simp only [dL, zf, List.getD_eq_getElem?_getD, List.getElem?_append_left h]
 ·rw [if_neg h]
  simp only [dL, zf, List.getD_eq_getElem?_getD, List.getElem?_append_right (Nat.le_of_not_lt h)]
theorem AZ {G H : GV} {v : Value} {hv : v.oneCell' = true} {e : Nat} {d : Kd} {xs ys : List (bm d).den} (hm : G.ks.length = xs.length) (k j : Nat) :
 aF (zf G H v hv xs.length) e d (xs ++ ys) none (some (k, j)) = if k < xs.length then aF G e d xs none (some (k, j)) else aF H e d ys none (some (k - xs.length, j)) := by
 simp only [aF, qN hm]
 by_cases h : k < xs.length
 ·rw [if_pos h, List.getElem?_append_left h, if_pos h]
 ·rw [if_neg h, List.getElem?_append_right (Nat.le_of_not_lt h), if_neg h]
  simp
theorem A0 {G H : GV} {v : Value} {hv : v.oneCell' = true} {d : Kd} {xs ys : List (bm d).den} (hm : G.ks.length = xs.length) (k j : Nat) :
 aY (zf G H v hv xs.length) d (xs ++ ys) none (k, j) = if k < xs.length then aY G d xs none (k, j) else aY H d ys none (k - xs.length, j) := by
 simp only [aY, qN hm]
 by_cases h : k < xs.length
 ·rw [if_pos h, List.getElem?_append_left h, if_pos h]
 ·rw [if_neg h, List.getElem?_append_right (Nat.le_of_not_lt h), if_neg h]
  simp
theorem wM (F : Fit g γ S n a) (C : Cx g S w0 D A w) {o o' e : Nat} {d : Kd} {xs ys : List (bm d).den} {v : Value} (ho : S.ob o = .fleet e d xs none) (ho' : S.ob o' = .fleet e d ys none) (hne : o' ≠ o)
 (hK : K (({ S with mods := o' :: o :: S.mods, obs := (S.obs.set o .gone).set o' .gone } : St).add [.fleet e d (xs ++ ys) none]) (.v (.a (.sl S.obs.length))) = some out) (hsl : SlV v (xs.length + ys.length))
 (hf : Fr (eX (g o).v e 1 xs.length (g o).cs).dom w w') (hok : (eX v e 1 (xs.length + ys.length) ((g o).cs ++ (g o').cs)).ok w') (hd : ∀ b, (eX v e 1 (xs.length + ys.length) ((g o).cs ++ (g o').cs)).dom b → (eX (g o).v e 1 xs.length (g o).cs).dom b ∨ w.heap.size ≤ b) :
 Post g γ S n a w0 D A K out v w' := by
 have PG : FleetP (g o) e d xs none := by have := F.ob o; rwa [ho] at this
 have PH : FleetP (g o') e d ys none := by have := F.ob o'; rwa [ho'] at this
 have holt : o < S.obs.length := nJ (by rw [ho]; simp)
 have holt' : o' < S.obs.length := nJ (by rw [ho']; simp)
 obtain ⟨m, hm⟩ : ∃ m, m = S.obs.length := ⟨_, rfl⟩
 obtain ⟨G', hG'⟩ : ∃ G', G' = zf (g o) (g o') v hsl.one xs.length := ⟨_, rfl⟩
 obtain ⟨g', hg'⟩ : ∃ g' : Env, g' = fun i => if i = m then G' else g i := ⟨_, rfl⟩
 have gM : g' m = G' := by simp [hg']
 have gN : ∀ i, i ≠ m → g' i = g i := fun i hi => by simp [hg', hi]
 have gLo : ∀ i, i < S.obs.length → g' i = g i := fun i hi => gN i (by omega)
 obtain ⟨S', hS'⟩ : ∃ S' : St, S' = ({ S with mods := o' :: o :: S.mods, obs := (S.obs.set o .gone).set o' .gone } : St).add [.fleet e d (xs ++ ys) none] := ⟨_, rfl⟩
 rw [← hS'] at hK
 have hlen : S'.obs.length = m + 1 := by rw [hS', hm]; simp [St.add]
 have obM : S'.ob m = .fleet e d (xs ++ ys) none := by
  rw [hS', bO (by simp [hm])]
  simp [hm]
 have obN : ∀ i, i ≠ m → S'.ob i = .gone ∨ (i ≠ o ∧ i ≠ o' ∧ S'.ob i = S.ob i) := fun i hi => by
  rcases Nat.lt_or_ge i m with h | h
  ·rw [hS', aW (by simpa [hm] using h)]
   simp only [St.ob, List.getD_eq_getElem?_getD, List.getElem?_set, List.length_set]
   by_cases h1 : o' = i
   ·subst h1; left; simp [holt']
   ·by_cases h2 : o = i
    ·subst h2; left; simp [h1, holt]
    ·right; exact ⟨Ne.symm h2, Ne.symm h1, by rw [if_neg h1, if_neg h2]⟩
  ·left; exact kF (by rw [hlen]; omega)
 have hpL := fun k j => AZ (G := g o) (H := g o') (v := v) (hv := hsl.one) (e := e) (d := d) (xs := xs) (ys := ys) PG.n k j
 have hpR := fun k j => A0 (G := g o) (H := g o') (v := v) (hv := hsl.one) (d := d) (xs := xs) (ys := ys) PG.n k j
 rw [← hG'] at hpL hpR
 have hp0 : aF G' e d (xs ++ ys) none none = eX v e 1 (xs.length + ys.length) ((g o).cs ++ (g o').cs) := by simp only [aF, hG', zf, List.length_append]
 have eO : an g o (S.ob o) = el (g o) e d xs none ∧ az g o (S.ob o) = fE (g o) d xs none := by rw [ho]; exact ⟨rfl, rfl⟩
 have eO' : an g o' (S.ob o') = el (g o') e d ys none ∧ az g o' (S.ob o') = fE (g o') d ys none := by rw [ho']; exact ⟨rfl, rfl⟩
 have eM : an g' m (S'.ob m) = el G' e d (xs ++ ys) none ∧ az g' m (S'.ob m) = fE G' d (xs ++ ys) none := by rw [obM]; simp only [an, az, gM]; exact ⟨trivial, trivial⟩
 have okO : ∀ q, (aF (g o) e d xs none q).ok w := by have := C.okL o; simp only [eO.1] at this; exact this
 -- the row anew
 obtain ⟨E1, hE1⟩ : ∃ E1 : Ent, E1 = HN (fun q : Option (Nat × Nat) => match q with | none => eX v e 1 (xs.length + ys.length) ((g o).cs ++ (g o').cs) | some kj => aF (g o) e d xs none (some kj)) := ⟨_, rfl⟩
 have C1 : CtxF w0 D A (fun i => if i = o then E1 else an g i (S.ob i)) (fun i => az g i (S.ob i)) w' := by
  refine rM o (E' := E1) C ?_ ?_ ?_ (fun j hj => by simp only [if_neg hj]) (by simp only [if_pos])
  ·exact hf.mono (fun x hx => by simp only [eO.1]; exact ⟨none, hx⟩)
  ·rw [hE1]
   intro q
   cases q with
   | none => exact hok
   | some kj => exact Ent.keep _ (okO (some kj)) hf (fun b hb hb' => PG.apart (some kj) none (by simp) b hb hb')
  ·intro b hb
   rw [hE1] at hb
   obtain ⟨q, hq⟩ := hb
   cases q with
   | none =>
     rcases hd b hq with h | h
     ·exact .inl (by simp only [eO.1]; exact ⟨none, h⟩)
     ·exact .inr h
   | some kj => exact .inl (by simp only [eO.1]; exact ⟨some kj, hq⟩)
 have sO : ∀ b, (∃ q, (aF G' e d (xs ++ ys) none q).dom b) → E1.dom b ∨ (an g o' (S.ob o')).dom b := by
  rintro b ⟨q, hq⟩
  cases q with
  | none => rw [hp0] at hq; left; rw [hE1]; exact ⟨none, hq⟩
  | some kj =>
    obtain ⟨k, j⟩ := kj
    rw [hpL] at hq
    split at hq
    ·left; rw [hE1]; exact ⟨some (k, j), hq⟩
    ·right; rw [eO'.1]; exact ⟨_, hq⟩
 have sep : ∀ b, E1.dom b → ¬ (an g o' (S.ob o')).dom b := fun b h1 h2 => C1.sepL o o' (Ne.symm hne) b (by simp only [if_pos]; exact h1) (by simp only [if_neg hne]; exact h2)
 have entN : ∀ i, i ≠ o → i ≠ o' → i ≠ m → S'.ob i = S.ob i → an g' i (S'.ob i) = an g i (S.ob i) ∧ az g' i (S'.ob i) = az g i (S.ob i) := fun i h1 h2 h3 h4 => by
  rw [h4]
  exact ⟨iW (gN i h3) (fun T ls e x hx => gLo x (F.rb i T ls e x hx)), cQ (gN i h3)⟩
 have C2 : Cx g' S' w0 D A w' := by
  refine xP C1 (fun i => ?_) (fun i => ?_) (fun i b hb => ?_) (fun i i' hii b hb hb' => ?_) (fun i b hb => ?_)
  ·by_cases hi : i = m
   ·subst hi
    simp only [eM.1]
    intro q
    cases q with
    | none => rw [hp0]; exact hok
    | some kj =>
      obtain ⟨k, j⟩ := kj
      rw [hpL]
      split
      ·have := C1.okL o
       simp only [if_pos] at this
       rw [hE1] at this
       exact this (some (k, j))
      ·have := C1.okL o'
       simp only [if_neg hne, eO'.1] at this
       exact this _
   ·rcases obN i hi with h | ⟨h1, h2, h3⟩
    ·simp only [h]; trivial
    ·simp only [(entN i h1 h2 hi h3).1]
     have := C1.okL i
     simp only [if_neg h1] at this
     exact this
  ·by_cases hi : i = m
   ·subst hi
    simp only [eM.2]
    rintro ⟨k, j⟩
    rw [hpR]
    split
    ·have := C1.okR o
     simp only [eO.2] at this
     exact this _
    ·have := C1.okR o'
     simp only [eO'.2] at this
     exact this _
   ·rcases obN i hi with h | ⟨h1, h2, h3⟩
    ·simp only [h]; trivial
    ·simp only [(entN i h1 h2 hi h3).2]; exact C1.okR i
  ·by_cases hi : i = m
   ·subst hi
    simp only [eM.1] at hb
    rcases sO b hb with h | h
    ·exact ⟨o, by simp only [if_pos]; exact h⟩
    ·exact ⟨o', by simp only [if_neg hne]; exact h⟩
   ·rcases obN i hi with h | ⟨h1, h2, h3⟩
    ·simp only [h] at hb; exact hb.elim
    ·simp only [(entN i h1 h2 hi h3).1] at hb
     exact ⟨i, by simp only [if_neg h1]; exact hb⟩
  ·have other : ∀ i, i ≠ m → (an g' i (S'.ob i)).dom b → i ≠ o ∧ i ≠ o' ∧ (an g i (S.ob i)).dom b := fun i hi hb => by
    rcases obN i hi with h | ⟨h1, h2, h3⟩
    ·rw [h] at hb; exact hb.elim
    ·rw [(entN i h1 h2 hi h3).1] at hb; exact ⟨h1, h2, hb⟩
   have key : ∀ i, i ≠ m → (an g' i (S'.ob i)).dom b → (an g' m (S'.ob m)).dom b → False := fun i hi hb hb' => by
    obtain ⟨h1, h2, h3⟩ := other i hi hb
    rw [eM.1] at hb'
    rcases sO b hb' with h | h
    ·exact C1.sepL i o h1 b (by simp only [if_neg h1]; exact h3) (by simp only [if_pos]; exact h)
    ·exact C.sepL i o' h2 b h3 h
   by_cases hi : i = m
   ·subst hi; exact key i' (Ne.symm hii) hb' hb
   ·by_cases hi' : i' = m
    ·subst hi'; exact key i hi hb hb'
    ·obtain ⟨_, _, h3⟩ := other i hi hb
     obtain ⟨_, _, h3'⟩ := other i' hi' hb'
     exact C.sepL i i' hii b h3 h3'
  ·by_cases hi : i = m
   ·subst hi
    simp only [eM.2] at hb
    obtain ⟨⟨k, j⟩, hq⟩ := hb
    rw [hpR] at hq
    split at hq
    ·exact .inl ⟨o, by simp only [eO.2]; exact ⟨_, hq⟩, fun h => by simp only [eM.2] at h; simp only [eO.2]; exact h⟩
    ·exact .inl ⟨o', by simp only [eO'.2]; exact ⟨_, hq⟩, fun h => by simp only [eM.2] at h; simp only [eO'.2]; exact h⟩
   ·rcases obN i hi with h | ⟨h1, h2, h3⟩
    ·simp only [h] at hb; exact hb.elim
    ·simp only [(entN i h1 h2 hi h3).2] at hb ⊢; exact .inl ⟨i, hb, id⟩
 have FP : FleetP G' e d (xs ++ ys) none := by
  refine ⟨by rw [hG']; simp only [zf, List.length_append, PG.n, PH.n], ?_, by rw [hG']; rfl, fun k hk => ?_, by rw [hG', List.length_append]; exact hsl, fun k x hx _ => ?_, ?_⟩
  ·have e1 : G'.cs = (g o).cs ++ (g o').cs := by rw [hG']; rfl
   have eb : ∀ k, gq G' k = if k < xs.length then gq (g o) k else gq (g o') (k - xs.length) := fun k => by rw [hG']; rfl
   rw [e1, PG.cs, PH.cs, List.length_append, List.range_add, List.map_append, List.map_map]
   congr 1
   ·apply List.map_congr_left
    intro k hk
    rw [eb, if_pos (List.mem_range.1 hk)]
   ·apply List.map_congr_left
    intro k hk
    simp only [Function.comp]
    rw [eb, if_neg (by omega), Nat.add_sub_cancel_left]
  ·have eb : gq G' k = if k < xs.length then gq (g o) k else gq (g o') (k - xs.length) := by rw [hG']; rfl
   rw [eb, hG', qN PG.n]
   rw [List.length_append] at hk
   by_cases h : k < xs.length
   ·rw [if_pos h, if_pos h]; exact PG.kb k h
   ·rw [if_neg h, if_neg h]; exact PH.kb _ (by omega)
  ·rw [hG', qN PG.n]
   by_cases h : k < xs.length
   ·rw [List.getElem?_append_left h] at hx
    rw [if_pos h]; exact PG.kid k x hx (by simp)
   ·rw [List.getElem?_append_right (Nat.le_of_not_lt h)] at hx
    rw [if_neg h]; exact PH.kid _ x hx (by simp)
  ·have rowN : ∀ k j b, (eX v e 1 (xs.length + ys.length) ((g o).cs ++ (g o').cs)).dom b → ¬ (aF G' e d (xs ++ ys) none (some (k, j))).dom b := fun k j b hb hb' => by
    rw [hpL] at hb'
    split at hb'
    ·rcases hd b hb with h | h
     ·exact PG.apart none (some (k, j)) (by simp) b h hb'
     ·have := Ent.lt _ w (okO (some (k, j))) b hb'; omega
    ·exact sep b (by rw [hE1]; exact ⟨none, hb⟩) (by rw [eO'.1]; exact ⟨_, hb'⟩)
   intro p q hpq b hb hb'
   cases p with
   | none =>
     cases q with
     | none => exact hpq rfl
     | some kj => rw [hp0] at hb; exact rowN kj.1 kj.2 b hb hb'
   | some kj =>
     cases q with
     | none => rw [hp0] at hb'; exact rowN kj.1 kj.2 b hb' hb
     | some kj' =>
       obtain ⟨k, j⟩ := kj
       obtain ⟨k', j'⟩ := kj'
       rw [hpL] at hb hb'
       split at hb
       ·rename_i hk
        split at hb'
        ·exact PG.apart _ _ hpq b hb hb'
        ·exact sep b (by rw [hE1]; exact ⟨some (k, j), hb⟩) (by rw [eO'.1]; exact ⟨_, hb'⟩)
       ·rename_i hk
        split at hb'
        ·exact sep b (by rw [hE1]; exact ⟨some (k', j'), hb'⟩) (by rw [eO'.1]; exact ⟨_, hb⟩)
        ·rename_i hk'
         refine PH.apart _ _ (fun h => hpq ?_) b hb hb'
         simp only [Option.some.injEq, Prod.mk.injEq] at h ⊢
         exact ⟨by omega, h.2⟩
 have okE : ∀ v : V1, okV S v → okV S' v := fun v hv => by
  cases v with
  | elp o2 sz i off =>
    intro e2 t2 xs2 m2 fu2 he
    by_cases hi : o2 = m
    ·subst hi; rw [obM] at he; cases he
    ·rcases obN o2 hi with h | ⟨_, _, h⟩ <;> rw [h] at he
     ·cases he
     ·exact hv e2 t2 xs2 m2 fu2 he
  | arp b off t n i => exact hv
  | _ => trivial
 refine ⟨g', S', _, hK, ?_, ⟨F.size, F.lo, F.defers, fun t sv h => ?_, fun i => ?_, fun t sv h => ?_, fun t sv h r hr => ?_, fun i T ls h r hr => ?_⟩, C2, trivial, ?_, ?_⟩
 ·simp only [aq, aU, aJ, ← hm, gM, hG']; rfl
 ·have h' : aA S.slots t = some sv := by rw [hS'] at h; exact h
  have := F.sl t sv h'
  rwa [eq (g := g) (g' := g') sv (fun o ho => gLo o (F.rs t sv h' o ho))]
 ·by_cases hi : i = m
  ·subst hi
   rw [obM]
   show FleetP (g' i) e d (xs ++ ys) none
   rw [gM]; exact FP
  ·rcases obN i hi with h | ⟨_, _, h⟩ <;> rw [h]
   ·trivial
   ·exact iN (gN i hi) (F.ob i)
 ·have h' : aA S.slots t = some sv := by rw [hS'] at h; exact h
  have hok := F.ok t sv h'
  cases sv with
  | v x => exact okE x hok
  | tup xs => exact fun x hx => okE x (hok x hx)
 ·have h' : aA S.slots t = some sv := by rw [hS'] at h; exact h
  have := F.rs t sv h' r hr
  rw [hlen]; omega
 ·by_cases hi : i = m
  ·subst hi; rw [obM] at h; cases h
  ·rcases obN i hi with h1 | ⟨_, _, h1⟩ <;> rw [h1] at h
   ·cases h
   ·have := F.rb i T ls h r hr; rw [hlen]; omega
 ·intro r hr
  have : r = S.obs.length := by simpa [aL, bi, aN] using hr
  rw [this, hlen, hm]; omega
 ·refine ⟨by rw [hlen]; omega, fun i hi => by rw [gLo i hi]; exact ⟨rfl, rfl⟩, fun i hi hmo => ?_, fun i hi => ?_, fun t _ => by rw [hS']; rfl, fun i hi e2 t2 xs2 m2 fu2 h => ?_⟩
  ·have h1 : i ≠ m := by omega
   have h2 : i ≠ o ∧ i ≠ o' := by
    rw [hS'] at hmo
    simp only [St.add, List.mem_cons, not_or] at hmo
    exact ⟨hmo.2.1, hmo.1⟩
   refine ⟨?_, gLo i hi⟩
   rw [hS', aW (by simpa using hi)]
   simp only [St.ob, List.getD_eq_getElem?_getD, List.getElem?_set, List.length_set]
   rw [if_neg (Ne.symm h2.2), if_neg (Ne.symm h2.1)]
  ·rw [hS']; exact List.mem_cons_of_mem _ (List.mem_cons_of_mem _ hi)
  ·have h1 : i ≠ m := by omega
   rcases obN i h1 with h2 | ⟨_, _, h2⟩ <;> rw [h2] at h
   ·cases h
   ·exact ⟨_, _, _, _, h, rfl⟩
end
section
variable {P : Program} {g g' : Env} {γ : Ghost} {S S' : St} {n : Nat} {a : Act} {w0 w w' : World} {D A : Nat → Prop} {α : Type} {K : St → SV → Option α} {out : α}
theorem Dd (F : Fit g γ S n a) (C : Cx g S w0 D A w) {e b : Nat} {d : Kd} {x0 : (bm d).den} {v : Value} {put : (bm d).den → List (bm d).den} (hb : b < S.obs.length)
 (hfo : xB (S.add [.fleet e d [x0] (some 0)]) S.obs.length e d put b = some S') (hput : ∀ x, put x = [x]) (hK : K S' (.v (.a (.sl S.obs.length))) = some out) (hsl : SlV v 1) (hf : Fr nob w w')
 (hok : (eX v e 1 1 [.pointer (some ⟨(g b).b, 0, none⟩)]).ok w') (hd : ∀ b', (eX v e 1 1 [.pointer (some ⟨(g b).b, 0, none⟩)]).dom b' → w.heap.size ≤ b') : Post g γ S n a w0 D A K out v w' := by
 obtain ⟨m, hm⟩ : ∃ m, m = S.obs.length := ⟨_, rfl⟩
 rw [← hm] at hfo hK
 obtain ⟨G', hG'⟩ : ∃ G' : GV, G' = ⟨v, hsl.one, (0, fun _ => (g b).b), [.pointer (some ⟨(g b).b, 0, none⟩)], [], [fun _ => dn (g b)]⟩ := ⟨_, rfl⟩
 obtain ⟨g1, hg1⟩ : ∃ g1 : Env, g1 = fun i => if i < S.obs.length then g i else G' := ⟨_, rfl⟩
 have hext : Ext g g1 S.obs.length := fun i hi => by simp [hg1, hi]
 have hnew : g1 S.obs.length = G' := by simp [hg1]
 have p0 : aF G' e d [x0] (some 0) none = eX v e 1 1 [.pointer (some ⟨(g b).b, 0, none⟩)] := by simp only [aF, hG']; rfl
 have pS : ∀ k j, aF G' e d [x0] (some 0) (some (k, j)) = Ent.nil := fun k j => by
  simp only [aF]
  by_cases h : k = 0
  ·subst h; rw [if_pos rfl]
  ·rw [if_neg (by simp only [Option.some.injEq]; exact Ne.symm h)]
   cases k with
   | zero => exact absurd rfl h
   | succ k => simp
 have pR : ∀ q, aY G' d [x0] (some 0) q = Ent.nil := fun ⟨k, j⟩ => by
  simp only [aY]
  by_cases h : k = 0
  ·subst h; rw [if_pos rfl]
  ·rw [if_neg (by simp only [Option.some.injEq]; exact Ne.symm h)]
   cases k with
   | zero => exact absurd rfl h
   | succ k => simp
 have FP : FleetP G' e d [x0] (some 0) := by
  refine ⟨by rw [hG']; rfl, by rw [hG']; rfl, by rw [hG'], fun k hk => ?_, by rw [hG']; exact hsl, fun k x hx hk => ?_, fun p q hpq b' hb' hb2 => ?_⟩
  ·have : k = 0 := by simpa using hk
   subst this
   rw [hG']; rfl
  ·cases k with
   | zero => exact absurd rfl hk
   | succ k => simp at hx
  ·cases p with
   | none => cases q with
     | none => exact hpq rfl
     | some kj => rw [pS] at hb2; exact hb2.elim
   | some kj => rw [pS] at hb'; exact hb'.elim
 have F1 : Fit g1 γ (S.add [.fleet e d [x0] (some 0)]) n a := by
  refine gb F hext (fun j ob hj => ?_) (fun j T' ls' hj => ?_)
  ·match j with
   | 0 =>
     simp only [List.getElem?_cons_zero, Option.some.injEq] at hj
     subst hj
     rw [Nat.add_zero]
     show FleetP (g1 S.obs.length) e d [x0] (some 0)
     rw [hnew]; exact FP
   | j + 1 => simp at hj
  ·match j with
   | 0 => simp at hj
   | j + 1 => simp at hj
 have C1 : Cx g1 (S.add [.fleet e d [x0] (some 0)]) w0 D A w' := by
  refine uA F C hf hext ⟨?_, fun b' hb' => ?_⟩ ⟨?_, fun b' hb' => ?_⟩
  ·simp only [an, hnew]
   intro q
   cases q with
   | none => rw [p0]; exact hok
   | some kj => rw [pS]; trivial
  ·simp only [an, hnew] at hb'
   obtain ⟨q, hq⟩ := hb'
   cases q with
   | none => rw [p0] at hq; exact hd b' hq
   | some kj => rw [pS] at hq; exact hq.elim
  ·simp only [az, hnew]
   intro q
   rw [pR]; trivial
  ·simp only [az, hnew] at hb'
   obtain ⟨q, hq⟩ := hb'
   rw [pR] at hq; exact hq.elim
 have hob : (S.add [.fleet e d [x0] (some 0)]).ob m = .fleet e d [x0] (some 0) := by
  rw [hm, bO (Nat.le_refl _)]; simp
 have hbk : (g1 b).b = gq (g1 m) 0 := by rw [hext b hb, hm, hnew, hG']; rfl
 obtain ⟨g2, F2, C2, K2⟩ := wL F1 C1 hob hbk hfo (fun x => by rw [hput x]; rfl)
 have hml : m < (S.add [.fleet e d [x0] (some 0)]).obs.length := by rw [hm]; simp [St.add]
 refine ⟨g2, S', _, hK, ?_, F2, C2, trivial, fun r hr => ?_, (Kp.add noD hext).trans K2 (fun _ => id) (fun _ => id)⟩
 ·simp only [aq, aU, aJ]
  rw [(K2.vb m hml).1, hm, hnew, hG']
 ·have : r = m := by simpa [aL, bi, aN] using hr
  rw [this]
  exact Nat.lt_of_lt_of_le hml K2.len
end
section
variable {P : Program} {ρ : Operand → Value} {w w' : World}
theorem A2 {n m sz bytes : Nat} {e t : TypeId} {v y z : Value} {xs news : List Value} {s x : Operand} (hc : ∃ ao, v = .slice ao n n ∧ (ao = none → n = 0)) (hv : Rds v n sz xs w)
 (hs : ρ s = v) (hx : ρ x = y) (hy : Rds y m sz news w) (h1 : ∀ u ∈ news, u.oneCell' = true)
 (ht : bp P t = some (e, sz, bytes, some z)) (hz : z.cells.size = sz) (h0 : 0 < sz) (hb : (n + m) * bytes ≤ 140737488355328) (hb0 : 0 < bytes) (hm : m ≠ 0) :
 Eff P ρ (.call { callee := .builtin .append, args := #[s, x], argTypes := #[t, t] }) w
  (fun v' w' => Fr nob w w' ∧ w'.ownsRow w.heap.size e sz v' (n + m) (xs ++ news)) := by
 obtain ⟨ao, rfl, hn0⟩ := hc
 unfold bp at ht
 split at ht
 ·rename_i e' hu
  obtain ⟨i, hi, hh⟩ := Option.map_eq_some_iff.1 ht
  simp only [Prod.mk.injEq] at hh
  obtain ⟨rfl, rfl, rfl, hzero⟩ := hh
  have hlen : n + m ≤ 140737488355328 := Nat.le_trans (Nat.le_mul_of_pos_right _ hb0) hb
  have hv' := hv
  obtain ⟨hl, ao', c', he, _, _, _, h2⟩ := hv
  simp only [Value.slice.injEq] at he
  obtain ⟨rfl, -, rfl⟩ := he
  obtain ⟨hly, ay, cy, rfl, h3, h4, h5, h6⟩ := hy
  cases ay with
  | none => have := h5 rfl; omega
  | some ad =>
    have hnews : ∀ j u, news[j]? = some u → w.cell? (ad.add j) = some u := fun j u hu => by
     obtain ⟨ad', ha, hc⟩ := h6 j u hu; cases ha; exact hc
    have main : ∀ ty, ∃ v' w', (Builtin.append_ #[t, t] ty #[.slice ao n n, .slice (some ad) m cy]).run P w = .ok v' w' ∧ w'.ownsRow w.heap.size e' i.size v' (n + m) (xs ++ news) ∧ w.grownBy w' none := by
     intro ty
     cases ao with
     | none =>
       obtain rfl := hn0 rfl
       have hx0 : xs = [] := List.eq_nil_of_length_eq_zero (by simpa using hl)
       subst hx0
       have hr := run_append_own_at (P := P) w w.heap.size t ty e' i z i.size i.bytes hu hi hzero rfl rfl hz h0 (.slice none 0 0) 0 [] (World.ownsRow_nil w _ _ _) ad m cy news hly hnews
       obtain ⟨v', w', r, r1, r2, _, _⟩ := hr h1 (by simp only [maxLen]; omega) hb (Nat.le_refl _)
       exact ⟨v', w', r, r1, r2⟩
     | some ad0 =>
       exact run_append_arg_grows (P := P) w t ty e' i z i.size i.bytes hu hi hzero rfl rfl hz h0 ad0 n n xs hl (fun j u hu => by obtain ⟨ad', ha, hc⟩ := h2 j u hu; cases ha; exact hc) ad m cy news hly hnews (by omega) (by simp only [maxLen]; omega) hb
    refine xr fun o ho => ?_
    obtain ⟨v', w', hrun, r1, r2⟩ := main o.type
    have hx' : (execOp ρ o).run P w = .ok (.value v') w' := by
     simp [execOp, ho, resolve, invoke, builtin, hs, hx, hrun]
    exact ⟨v', w', hx', (Fr.of_grown r2).mono (fun x hx => by cases hx), r1⟩
 ·cases ht
end
section
variable {P : Program} {g g' g1 : Env} {γ : Ghost} {S S1 : St} {n : Nat} {a : Act} {w0 w w' : World} {D A : Nat → Prop} {α : Type} {K : St → SV → Option α} {out : α}
theorem qO (F : Fit g γ S n a) (C : Cx g S w0 D A w) (v : SV) (hok : okS S v) (hr : ∀ o ∈ aL v, o < S.obs.length) :
 ∃ g', Fit g' γ (dW S v).1 n a ∧ Cx g' (dW S v).1 w0 D A w ∧ Kp g S noD g' (dW S v).1 ∧ aq g' (dW S v).2 = aq g v ∧ okS (dW S v).1 (dW S v).2 ∧ (∀ o ∈ aL (dW S v).2, o < (dW S v).1.obs.length) ∧
  (∀ x, (∀ o ∈ aL x, o < S.obs.length) → aq g' x = aq g x) := by
 unfold dW
 split
 ·rename_i e t
  obtain ⟨g', hg'⟩ : ∃ g' : Env, g' = fun i => if i < S.obs.length then g i else ⟨.slice none 0 0, rfl, (0, fun _ => 0), [], [], []⟩ := ⟨_, rfl⟩
  have hext : Ext g g' S.obs.length := fun i hi => by simp [hg', hi]
  have hnew : g' S.obs.length = ⟨.slice none 0 0, rfl, (0, fun _ => 0), [], [], []⟩ := by simp [hg']
  refine ⟨g', ?_, ?_, Kp.add _ hext, by simp [aq, aU, aJ, hnew], trivial, ?_, fun x hx => eq x (fun o ho => hext o (hx o ho))⟩
  ·refine gb F hext (fun j ob hj => ?_) (fun j T ls hj => ?_)
   ·match j with
    | 0 => simp only [List.getElem?_cons_zero, Option.some.injEq] at hj; subst hj; rw [Nat.add_zero]; exact ⟨by rw [hnew]; exact ⟨rfl, rfl⟩, by rw [hnew]; exact ⟨none, 0, rfl, fun _ => rfl⟩, fun h => by cases h⟩
    | j + 1 => simp at hj
   ·match j with
    | 0 => simp at hj
    | j + 1 => simp at hj
  ·refine uA F C (Fr.refl _ _) hext ⟨?_, fun b hb => ?_⟩ ⟨?_, fun b hb => ?_⟩
   ·simp only [an, hnew]; exact xF _ _ _
   ·simp only [an, hnew] at hb
    have : (Value.slice none 0 0).ownBlock = some b := hb
    simp [Value.ownBlock] at this
   ·simp only [az, hnew]; intro f hf; cases hf
   ·simp only [az, hnew] at hb
    obtain ⟨f, hf, _⟩ := hb
    cases hf
  ·intro o ho
   simp only [aL, bi, aN, List.mem_singleton] at ho
   simp [St.add, ho]
 ·rename_i e d
  obtain ⟨g', hg'⟩ : ∃ g' : Env, g' = fun i => if i < S.obs.length then g i else nilG := ⟨_, rfl⟩
  have hext : Ext g g' S.obs.length := fun i hi => by simp [hg', hi]
  have hnew : g' S.obs.length = nilG := by simp [hg']
  refine ⟨g', ?_, ?_, Kp.add _ hext, by simp [aq, aU, aJ, hnew, nilG], trivial, ?_, fun x hx => eq x (fun o ho => hext o (hx o ho))⟩
  ·refine gb F hext (fun j ob hj => ?_) (fun j T ls hj => ?_)
   ·match j with
    | 0 =>
      simp only [List.getElem?_cons_zero, Option.some.injEq] at hj
      subst hj
      rw [Nat.add_zero]
      show FleetP (g' S.obs.length) e d [] none
      rw [hnew]; exact pN e d
    | j + 1 => simp at hj
   ·match j with
    | 0 => simp at hj
    | j + 1 => simp at hj
  ·obtain ⟨n1, n2, n3, n4⟩ := it e d
   refine uA F C (Fr.refl _ _) hext ⟨?_, fun b hb => ?_⟩ ⟨?_, fun b hb => ?_⟩
   ·simp only [an, hnew]; exact n2 w
   ·simp only [an, hnew] at hb; exact absurd hb (n1 b)
   ·simp only [az, hnew]; exact n4 w
   ·simp only [az, hnew] at hb; exact absurd hb (n3 b)
  ·intro o ho
   simp only [aL, bi, aN, List.mem_singleton] at ho
   simp [St.add, ho]
 ·exact ⟨g, F, C, Kp.refl _ _ _, rfl, hok, hr, fun _ _ => rfl⟩
theorem xR (F : Fit g γ S n a) (C : Cx g S w0 D A w) {t : TypeId} {X Y : Operand} {s x : SV} (hX : opA S X = some s) (hY : opA S Y = some x) (h : uh (ax α) P S t s x K = some out) :
 Eff P a.eval (.call { callee := .builtin .append, args := #[X, Y], argTypes := #[t, t] }) w (Post g γ S n a w0 D A K out) := by
 obtain ⟨e1, e2, e3⟩ := aD F hX
 obtain ⟨f1, f2, f3⟩ := aD F hY
 obtain ⟨t1, t2, t3⟩ := bP (P := P) (g := g) (S := S) t s
 obtain ⟨g1, F1, C1, k1, r1, r2, r3, r4⟩ := qO F C (ci P t s) (t3 e2) (by rw [t2]; exact e3)
 unfold uh at h
 rcases hre : dW S (ci P t s) with ⟨S1, s1⟩
 rw [hre] at F1 C1 k1 r1 r2 r3 h
 simp only at F1 C1 k1 r1 r2 r3 h
 have hXe : a.eval X = aq g1 s1 := by rw [r1, t1]; exact e1
 obtain ⟨u1, u2, _⟩ := bP (P := P) (g := g) (S := S) t x
 have hYe : a.eval Y = aq g1 (ci P t x) := by rw [r4 _ (by rw [u2]; exact f3), u1]; exact f1
 have hlen : S.obs.length ≤ S1.obs.length := k1.len
 split at h
 ·rename_i o e sz by_ z heq
  split at h
  ·rename_i e' u xs m fu ho
   split at h
   ·rename_i hc
    obtain ⟨rfl, rfl, h0, hb0, hz, hmB⟩ := hc
    have holt := nJ (S := S1) (i := o) (by rw [ho]; simp)
    have hXv : a.eval X = (g1 o).v := hXe
    have hobo := F1.ob o
    rw [ho] at hobo
    obtain ⟨hrep, hsl, hfull⟩ := hobo
    -- what is put behind: a row
    have go : ∀ (ys : List u.den) (cs2 : List Value) (fs2 : List Fact) (yv : Value), a.eval Y = yv → Rds yv ys.length u.sz cs2 w → gn (gL u) ys cs2 fs2 → FromR g1 S1 fs2 →
     ((ax α).guard ((xs.length + ys.length) * by_ ≤ 140737488355328) inferInstance
       (if m = .own then K (({ S1 with mods := o :: S1.mods, obs := S1.obs.set o .gone } : St).add [.row e' u (xs ++ ys) .own false]) (.v (.a (.sl S1.obs.length)))
        else if fu = true then K (S1.add [.row e' u (xs ++ ys) m false]) (.v (.a (.sl S1.obs.length))) else (ax α).fail "append to what is read")) = some out →
         Eff P a.eval (.call { callee := .builtin .append, args := #[X, Y], argTypes := #[t, t] }) w (Post g γ S n a w0 D A K out) := by
     intro ys cs2 fs2 yv hyv hrd hrep2 hfs2 hgd
     have hb : (xs.length + ys.length) * by_ ≤ 140737488355328 ∧ (if m = .own then K (({ S1 with mods := o :: S1.mods, obs := S1.obs.set o .gone } : St).add [.row e' u (xs ++ ys) .own false]) (.v (.a (.sl S1.obs.length)))
      else if fu = true then K (S1.add [.row e' u (xs ++ ys) m false]) (.v (.a (.sl S1.obs.length))) else none) = some out := by
      simp only [ax] at hgd
      split at hgd
      ·rename_i hb; exact ⟨hb, hgd⟩
      ·cases hgd
     clear hgd
     obtain ⟨hb, hg⟩ := hb
     have hone : ∀ v ∈ cs2, v.oneCell' = true := yy (fun x c F h => uc u x c F h) ys cs2 fs2 hrep2
     have hrepA := ud xs ys _ _ _ _ hrep hrep2
     have hll : (xs ++ ys).length = xs.length + ys.length := by simp
     split at hg
     ·rename_i hm
      subst hm
      have hrow : (io (g1 o).v e' u.sz xs.length (g1 o).cs).ok w := by have := C1.okL o; simp only [ho, an] at this; exact (dX hmB).1 this
      have Cc : Ctx w (io (g1 o).v e' u.sz xs.length (g1 o).cs).dom nob [io (g1 o).v e' u.sz xs.length (g1 o).cs] [] w := xG hrow
      refine (mc (li := 0) (v := (g1 o).v) (y := yv) Cc rfl hXv hyv hrd hone heq hz h0 hb hb0).mono ?_
      rintro v' w' C'
      refine Post.of k1 (zc F1 C1 ho holt hg hrepA ((FromR.inner ho (by simp)).app hfs2) ?_ (by rw [qG]; simpa using C'.fr) ((dX hmB).2 (by rw [hll]; exact C'.okL 0 _ rfl)) (fun b hb => ?_))
      ·have hok : w'.ownsRow 0 e' u.sz v' (xs.length + ys.length) ((g1 o).cs ++ cs2) := C'.okL 0 _ rfl
       rw [hll]
       rcases hok.2 with ⟨rfl, hn⟩ | ⟨q, cap, cur, rfl, _⟩
       ·exact ⟨none, 0, by rw [hn], fun _ => hn⟩
       ·exact ⟨_, _, rfl, fun h => by cases h⟩
      ·rw [hll] at hb
       exact C'.mine 0 _ rfl b hb
     ·rename_i hm
      split at hg
      ·rename_i hfu
       obtain ⟨ao, hao, hnil⟩ := hfull hfu
       have hrdx := jx C1 ho
       refine (yt (v := (g1 o).v) (y := yv) ⟨ao, hao, hnil⟩ hrdx hXv hyv hrd hone heq hz h0 hb hb0).mono ?_
       rintro v' w' ⟨hf, hr, hd⟩
       refine Post.of k1 (HT F1 C1 ho hm hg hrepA (fun f hf' => ?_) ?_ hf (by rw [hll]; exact hr) (fun b hne hb' => ?_))
       ·rcases List.mem_append.1 hf' with h | h
        ·exact .inl h
        ·exact .inr (hfs2 f h)
       ·obtain ⟨_, ao', c, rfl, h3, h4, h5, _⟩ := hr
        rw [hll]
        exact ⟨ao', c, rfl, fun h => by have := h5 h; omega⟩
       ·rcases hd b hb' with ⟨hn, ha⟩ | h
        ·refine .inl ⟨?_, ha⟩
         rw [hn, List.append_nil] at hne
         exact hne
        ·exact .inr h
      ·cases hg
    split at h
    ·simp [ax] at h
    ·rename_i o' hty
     split at h
     ·simp [ax] at h
     ·rename_i hne
      split at h
      ·rename_i e2 u' ys m' fu' ho'
       split at h
       ·rename_i hmm
        split at h
        ·rename_i zs hcast
         obtain ⟨q, hq⟩ := IC hcast
         subst q
         simp only [cast_eq] at hq
         subst hq
         have hob' := F1.ob o'
         rw [ho'] at hob'
         refine go ys (g1 o').cs (g1 o').fs (g1 o').v (by rw [hYe, hty]; rfl) (jx C1 ho') hob'.1 ?_ h
         rcases hmm with hfl | hmm
         ·rw [((bN u' hfl _ _ _).1 hob'.1).2]; exact FromR.nil
         ·exact FromR.inner ho' (by rcases hmm with rfl | rfl <;> simp)
        ·simp [ax] at h
       ·simp [ax] at h
      ·simp [ax] at h
    ·simp [ax] at h
   ·simp [ax] at h
  ·simp [ax] at h
 ·simp [ax] at h
theorem zg {v : Value} {m sz : Nat} {cs : List Value} (h : Rds v m sz cs w) : (∃ ao, kz v = .slice ao m m ∧ (ao = none → m = 0)) ∧ Rds (kz v) m sz cs w := by
 obtain ⟨h1, ao, c, rfl, h3, h4, h5, h6⟩ := h
 exact ⟨⟨ao, rfl, fun h => by have := h5 h; omega⟩, h1, ao, m, rfl, Nat.le_refl _, Nat.le_trans h3 h4, fun h => by have := h5 h; omega, h6⟩
theorem zh (F : Fit g γ S n a) (C : Cx g S w0 D A w) {t : TypeId} {X Y : Operand} {s x : SV} (hX : opA S X = some s) (hY : opA S Y = some x) (h : xD (ax α) P S t s x K = some out) :
 Eff P a.eval (.call { callee := .builtin .append, args := #[X, Y], argTypes := #[t, t] }) w (Post g γ S n a w0 D A K out) := by
 unfold xD at h
 split at h
 ·rename_i q hq
  obtain ⟨e1, e2, e3⟩ := aD F hX
  obtain ⟨f1, f2, f3⟩ := aD F hY
  obtain ⟨t1, t2, t3⟩ := bP (P := P) (g := g) (S := S) t s
  obtain ⟨g1, F1, C1, k1, r1, r2, r3, r4⟩ := qO F C (ci P t s) (t3 e2) (by rw [t2]; exact e3)
  rcases hre : dW S (ci P t s) with ⟨S1, s1⟩
  rw [hre] at F1 C1 k1 r1 r2 r3 hq
  simp only at F1 C1 k1 r1 r2 r3 hq
  have hXe : a.eval X = aq g1 s1 := by rw [r1, t1]; exact e1
  obtain ⟨u1, u2, _⟩ := bP (P := P) (g := g) (S := S) t x
  have hYe : a.eval Y = aq g1 (ci P t x) := by rw [r4 _ (by rw [u2]; exact f3), u1]; exact f1
  have hg : q.p ∧ K q.S q.v = some out := by
   simp only [ax] at h
   split at h
   ·rename_i hp; exact ⟨hp, h⟩
   ·cases h
  unfold IB at hq
  split at hq
  ·rename_i o c e sz by_ z o' hfv he hty
   split at hq
   ·rename_i e1' d xs e2' d2 ys ho ho'
    split at hq
    ·rename_i hd
     subst hd
     split at hq
     ·rename_i hc
      obtain ⟨rfl, rfl, rfl, hb0, hz, hmB, hne⟩ := hc
      cases hq
      obtain ⟨⟨hb, hnz⟩, hK⟩ := hg
      simp only at hb hnz hK
      have hrx := jG C1 ho
      have hry := jG C1 ho'
      have PH : FleetP (g1 o') e2' d2 ys none := by have := F1.ob o'; rwa [ho'] at this
      have hone : ∀ v ∈ (g1 o').cs, v.oneCell' = true := by
       intro v hv
       rw [PH.cs] at hv
       obtain ⟨k, _, rfl⟩ := List.mem_map.1 hv
       rfl
      have hYv : a.eval Y = (g1 o').v := by rw [hYe, hty]; rfl
      cases c with
      | false =>
        have hXv : a.eval X = (g1 o).v := by
         rw [hXe]
         unfold AL at hfv
         split at hfv <;> simp only [Option.some.injEq, Prod.mk.injEq, reduceCtorEq, Bool.true_eq_false, and_false] at hfv
         obtain ⟨rfl, _⟩ := hfv
         rfl
        have hrow : (io (g1 o).v e2' 1 xs.length (g1 o).cs).ok w := by
         have := C1.okL o
         simp only [ho] at this
         exact (dX hmB).1 (this none)
        have Cc : Ctx w (io (g1 o).v e2' 1 xs.length (g1 o).cs).dom nob [io (g1 o).v e2' 1 xs.length (g1 o).cs] [] w := xG hrow
        refine (mc (li := 0) (v := (g1 o).v) (y := (g1 o').v) Cc rfl hXv hYv hry hone he hz (by omega) hb hb0).mono ?_
        rintro v' w' C'
        have hok : w'.ownsRow 0 e2' 1 v' (xs.length + ys.length) ((g1 o).cs ++ (g1 o').cs) := C'.okL 0 _ rfl
        refine Post.of k1 (wM F1 C1 ho ho' hne hK ?_ (by rw [qG]; simpa using C'.fr) ((dX hmB).2 hok) (fun b hb => C'.mine 0 _ rfl b hb))
        rcases hok.2 with ⟨rfl, hn⟩ | ⟨q, cap, cur, rfl, _⟩
        ·exact ⟨none, 0, by rw [hn], fun _ => hn⟩
        ·exact ⟨_, _, rfl, fun h => by cases h⟩
      | true =>
        have hXv : a.eval X = kz (g1 o).v := by
         rw [hXe]
         unfold AL at hfv
         split at hfv <;> simp only [Option.some.injEq, Prod.mk.injEq, reduceCtorEq, Bool.false_eq_true, and_false] at hfv
         obtain ⟨rfl, _⟩ := hfv
         rfl
        obtain ⟨q1, q2⟩ := zg hrx
        refine (A2 (v := kz (g1 o).v) (y := (g1 o').v) q1 q2 hXv hYv hry hone he hz (by omega) hb hb0 (hnz rfl)).mono ?_
        rintro v' w' ⟨hf, hown⟩
        have hok : w'.ownsRow 0 e2' 1 v' (xs.length + ys.length) ((g1 o).cs ++ (g1 o').cs) := by
         refine ⟨hown.1, ?_⟩
         rcases hown.2 with h | ⟨g, cap, cur, h1, _, h3⟩
         ·exact .inl h
         ·exact .inr ⟨g, cap, cur, h1, Nat.zero_le _, h3⟩
        refine Post.of k1 (wM F1 C1 ho ho' hne hK ?_ (hf.mono (fun x hx => hx.elim)) ((dX hmB).2 hok) (fun b hb => .inr ?_))
        ·rcases hok.2 with ⟨rfl, hn⟩ | ⟨q, cap, cur, rfl, _⟩
         ·exact ⟨none, 0, by rw [hn], fun _ => hn⟩
         ·exact ⟨_, _, rfl, fun h => by cases h⟩
        ·have hb : v'.ownBlock = some b := hb
         rcases hown.2 with ⟨rfl, _⟩ | ⟨q, cap, cur, rfl, h1, _⟩
         ·simp [Value.ownBlock] at hb
         ·simp only [Value.ownBlock, Option.some.injEq] at hb
          omega
     ·cases hq
    ·cases hq
   ·cases hq
  ·cases hq
 ·exact xR F C hX hY h
theorem pA (hob : ∀ i, obP g i (S.ob i)) {e : TypeId} {u : Ty} : ∀ (vs : List (Nat × SV)) (j : Nat) (xs : List u.den), lC S P e u vs j = some xs →
 ∃ cs fs, gn (gL u) xs cs fs ∧ FromR g S fs ∧ xs.length = vs.length ∧ (u.flat = true → fs = []) ∧
  ∀ (base : List Value) (place : Nat → Option (Nat × Nat)), (∀ i, place i = some (i * u.sz, u.sz)) → (j + vs.length) * u.sz ≤ base.length →
   Instr.fill place base.toArray (vs.map fun p => (p.1, aq g p.2)) = some (base.take (j * u.sz) ++ cs ++ base.drop ((j + vs.length) * u.sz)).toArray
 | [], j, xs, h => by
   simp only [lC, Option.some.injEq] at h
   subst h
   exact ⟨[], [], ⟨rfl, rfl⟩, FromR.nil, rfl, fun _ => rfl, fun base place _ _ => by simp [Instr.fill]⟩
 | (i, v) :: vs, j, xs, h => by
   simp only [lC] at h
   split at h
   ·rename_i hij
    subst hij
    split at h
    ·rename_i x hx
     obtain ⟨ys, hys, rfl⟩ := Option.map_eq_some_iff.1 h
     obtain ⟨ls, hls, hpk⟩ := Option.bind_eq_some_iff.1 hx
     obtain ⟨l1, l2, l3⟩ := kH hls
     obtain ⟨pre, fs1, he, hrp, hfr, hfl⟩ := lI hob u ls [] x hpk
     rw [List.append_nil] at he
     subst he
     obtain ⟨cs, fs, h1, h2, h3, h4, h5⟩ := pA hob vs (i + 1) ys hys
     have hc : (aw g ls).length = u.sz := gS u x _ _ hrp
     refine ⟨aw g ls ++ cs, fs1 ++ fs, ⟨_, _, _, _, rfl, rfl, hrp, h1⟩, hfr.app h2, by simp [h3], fun hf => by rw [hfl hf, h4 hf]; rfl, fun base place hp hb => ?_⟩
     simp only [List.length_cons] at hb ⊢
     have hle : i * u.sz + u.sz ≤ base.length := by
      refine Nat.le_trans ?_ hb
      have : (i + 1) * u.sz ≤ (i + (vs.length + 1)) * u.sz := Nat.mul_le_mul_right _ (by omega)
      rwa [Nat.add_mul, Nat.one_mul] at this
     have hfc := oG (cs := base) (us := aw g ls) (j := i) (off := i * u.sz) (v := aq g v) (rest := vs.map fun p => (p.1, aq g p.2)) (place := place) (by rw [hc]; exact hp i) (l1 g) (by rw [hc]; exact hle)
     rw [List.map_cons]
     show Instr.fill place _ ((i, aq g v) :: _) = _
     rw [hfc]
     have hlen : (base.take (i * u.sz) ++ aw g ls ++ base.drop (i * u.sz + (aw g ls).length)).length = base.length := by
      simp only [List.length_append, List.length_take, List.length_drop, hc]; omega
     rw [h5 _ place hp (by rw [hlen]; rw [show i + 1 + vs.length = i + (vs.length + 1) by omega]; exact hb)]
     congr 2
     have e1 : (i + 1) * u.sz = i * u.sz + u.sz := by rw [Nat.add_mul, Nat.one_mul]
     have e2 : i + 1 + vs.length = i + (vs.length + 1) := by omega
     have e3 : (base.take (i * u.sz) ++ aw g ls).length = (i + 1) * u.sz := by
      simp only [List.length_append, List.length_take, hc]; omega
     rw [e2, hc]
     have ha : (base.take (i * u.sz) ++ aw g ls ++ base.drop (i * u.sz + u.sz)).take ((i + 1) * u.sz) = base.take (i * u.sz) ++ aw g ls := by
      rw [← e3]; exact List.take_left ..
     have hb2 : (base.take (i * u.sz) ++ aw g ls ++ base.drop (i * u.sz + u.sz)).drop ((i + (vs.length + 1)) * u.sz) = base.drop ((i + (vs.length + 1)) * u.sz) := by
      have hk : (i + (vs.length + 1)) * u.sz = (base.take (i * u.sz) ++ aw g ls).length + ((i + (vs.length + 1)) * u.sz - (i + 1) * u.sz) := by
       rw [e3]
       have : (i + 1) * u.sz ≤ (i + (vs.length + 1)) * u.sz := Nat.mul_le_mul_right _ (by omega)
       omega
      have hz : (base.take (i * u.sz) ++ aw g ls).drop ((base.take (i * u.sz) ++ aw g ls).length + ((i + (vs.length + 1)) * u.sz - (i + 1) * u.sz)) = [] := List.drop_eq_nil_of_le (Nat.le_add_right _ _)
      rw [hk, List.drop_append, hz, List.nil_append, Nat.add_sub_cancel_left, List.drop_drop]
      congr 1
      rw [e3] at hk ⊢
      have : (i + 1) * u.sz ≤ (i + (vs.length + 1)) * u.sz := Nat.mul_le_mul_right _ (by omega)
      omega
     rw [ha, hb2]
     simp
    ·cases h
   ·cases h
end
section
variable {P : Program} {ρ : Operand → Value} {w0 w : World} {D A : Nat → Prop} {L R : List Ent}
theorem HX {li b off n m sz c : Nat} {T dT sT : TypeId} {cs src : List Value} {d s : Operand} {ad : Addr} (C : Ctx w0 D A L R w) (hL : L[li]? = some (dJ false b T cs)) (hd : ρ d = .slice (some ⟨b, off, none⟩) n n) (hs : ρ s = .slice (some ad) m c) (hy : Rds (.slice (some ad) m c) m sz src w)
 (hmn : m ≤ n) (ho : off + src.length ≤ cs.length) (hone : src.all (·.oneCell') = true) (ht : cg P dT = some sz) :
 Eff P ρ (.call { callee := .builtin .copy, args := #[d, s], argTypes := #[dT, sT] }) w (fun v' w' => v' = .int .i64 ((m : Nat) : Int) ∧ Ctx w0 D A (L.set li (dJ false b T (dq cs off src))) R w') := by
 have hb : w.heap[b]? = some (.cells cs.toArray T (0, 0)) := C.okL li _ hL
 unfold cg at ht
 split at ht
 ·rename_i e' hu
  obtain ⟨i, hi', hsz⟩ := Option.map_eq_some_iff.1 ht
  obtain ⟨hl, ao, c', he, h1, h2, h3, h4⟩ := hy
  cases he
  have hmin : Nat.min m n = m := Nat.min_eq_left hmn
  have hst := run_storeCells_at P b off T src 0 cs.toArray w hb (by simpa using ho) (by simpa using hone)
  simp only [Nat.add_zero, List.toList_toArray] at hst
  refine cn (v := .int .i64 ((m : Nat) : Int)) (w' := w.setRow b (dq cs off src).toArray) ?_ ⟨rfl, ?_⟩
  ·intro o ho'
   have hld : (loadCells ad (m * sz)).run P w = .ok src.toArray w := by
    have := run_loadCells_list (P := P) w ad src (fun j u hu => by obtain ⟨ad', ha, hc⟩ := h4 j u hu; cases ha; exact hc)
    rwa [hl] at this
   have hst' : (storeCells ⟨b, off, none⟩ src).run P w = .ok () (w.setRow b (dq cs off src).toArray) := by
    simpa [dq] using hst
   simp [execOp, ho', resolve, invoke, builtin, hd, hs, Builtin.copy_, run_underlying hu, Builtin.lenOf, Builtin.firstCells, sizeOf, typeInfo, hi', hsz, hmin, hld, hst', goInt]
  ·refine qr C hL (gB w b _) ?_ (fun x h => .inl h)
   show (w.setRow b _).heap[b]? = _
   exact setRow_heap w b _ _ T _ hb
 ·cases ht
end
section
variable {P : Program} {g : Env} {γ : Ghost} {S : St} {n : Nat} {a : Act} {w0 w : World} {D A : Nat → Prop} {α : Type} {out : α} {K : St → SV → Option α}
theorem rY {u : Ty} {n : Nat} (v : Vector u.den n) : (am (.arr n u)).cells v = v.toList.flatMap (am u).cells := by
 show (arL (am u).dflt n v).flatMap (am u).cells = _
 rw [ua]
theorem De {u : Ty} {n m : Nat} (v : Vector u.den n) (y : Vector u.den m) (h : m ≤ n) : (am (.arr n u)).cells (vCp v y) = (am (.arr m u)).cells y ++ ((am (.arr n u)).cells v).drop (m * u.sz) := by
 rw [rY, rY, rY, ← aK u, oC (am u) v.toList m]
 have : (vCp v y).toList = y.toList ++ v.toList.drop m := by
  simp only [vCp, Vector.toList, List.toList_toArray]
  rw [List.take_of_length_le (by simp; omega)]
 rw [this, List.flatMap_append]
theorem zi {cs cy : List Value} {off k N : Nat} (h1 : cy.length = k) (h2 : k ≤ N) : dq cs off (cy ++ ((cs.drop off).take N).drop k) = dq cs off cy ∨ cs.length < off + N := by
 rcases Nat.lt_or_ge cs.length (off + N) with h | h
 ·exact .inr h
 ·left
  have hl : (cy ++ ((cs.drop off).take N).drop k).length = N := by
   simp only [List.length_append, List.length_drop, List.length_take]; omega
  simp only [dq, hl, h1]
  rw [List.append_assoc, List.append_assoc, List.append_assoc, List.drop_take]
  congr 2
  rw [show cs.drop (off + N) = ((cs.drop off).drop k).drop (N - k) by rw [List.drop_drop, List.drop_drop]; congr 1; omega, List.take_append_drop, List.drop_drop]
theorem Df (F : Fit g γ S n a) (C : Cx g S w0 D A w) {t t' : TypeId} {X Y : Operand} {s x : SV} (hX : opA S X = some s) (hY : opA S Y = some x) (h : ER (ax α) P S t s x K = some out) :
 Eff P a.eval (.call { callee := .builtin .copy, args := #[X, Y], argTypes := #[t, t'] }) w (Post g γ S n a w0 D A K out) := by
 obtain ⟨e1, e2, e3⟩ := aD F hX
 obtain ⟨f1, f2, f3⟩ := aD F hY
 unfold ER at h
 split at h
 ·rename_i b off n1 c off2 m1
  split at h
  ·rename_i T ls T2 ls2 hb hb2
   split at h
   ·rename_i n' u v r1 m' u' y r2 hs1 hs2
    split at h
    ·rename_i hc
     obtain ⟨rfl, rfl, hmn, hm63, hsz⟩ := hc
     split at h
     ·rename_i y2 hy2
      obtain ⟨eT, hyy⟩ := dt hy2
      have eu : u' = u := by injection eT
      subst eu
      have hyy : y = y2 := hyy
      subst hyy
      split at h
      ·rename_i ls' hls
       obtain ⟨pre, old, post, q1, q2, q3, q4⟩ := lG hls
       have hblt : b < S.obs.length := e3 b (by simp [aL, bi, aN])
       have hrd := B1 C hb2 hs2 hm63
       have Cc : Ctx w _ nob [dJ false (g b).b T (aw g ls)] [] w := xG (E := dJ false (g b).b T (aw g ls)) (rT C hb)
       obtain ⟨pre2, e', hps⟩ := du _ _ _ hs1
       have hcc := eY g (pre := pre2) (seg := [.fl (.arr n' u') v]) (post := r1) (n := n' * u'.sz) hps (by simp [bU, At.sz, Ty.sz])
       rw [show pre2 ++ ([.fl (.arr n' u') v] ++ r1) = ls from e'.symm] at hcc
       have hcv : ((aw g ls).drop off).take (n' * u'.sz) = (am (.arr n' u')).cells v := by rw [hcc]; simp [aw, ba]
       obtain ⟨c1, c2⟩ := lH g (pre := pre) (old := old) (post := post) (us := [.fl (.arr n' u') (vCp v y)]) q2 q3
       rw [← q1, ← q4] at c1
       rw [← q1] at c2
       have henc : aw g [.fl (.arr n' u') (vCp v y)] = (am (.arr m' u')).cells y ++ (((aw g ls).drop off).take (n' * u'.sz)).drop (m' * u'.sz) := by
        rw [hcv, ← De v y hmn]; simp [aw, ba]
       have hylen : ((am (.arr m' u')).cells y).length = m' * u'.sz := by rw [(am _).len, aK]; rfl
       have hmul : m' * u'.sz ≤ n' * u'.sz := Nat.mul_le_mul_right _ hmn
       have htot : (aw g [At.fl (.arr n' u') (vCp v y)]).length = n' * u'.sz := by
        rw [bu]; simp [bU, At.sz, Ty.sz]
       rw [htot] at c2
       have hsp : dq (aw g ls) off ((am (.arr m' u')).cells y) = aw g ls' := by
        rcases zi (cs := aw g ls) (off := off) (N := n' * u'.sz) hylen hmul with hp | hp
        ·rw [← hp, ← henc, c1]
        ·omega
       refine (HX (li := 0) (dT := t) (sT := t') Cc rfl e1 f1 hrd hmn (by rw [hylen]; omega) (by simp only [List.all_eq_true]; exact fun x hx => (am _).one y x hx) hsz).mono ?_
       rintro v' w' ⟨rfl, C'⟩
       rw [hsp] at C'
       have hbe : an g b (S.ob b) = dJ false (g b).b T (aw g ls) := by rw [hb]; rfl
       have hst := F.ob b
       rw [hb] at hst
       have hst : ls.all gP = true := hst
       have hrb := F.rb b T ls hb
       refine uC (g' := g) F C hblt ⟨rfl, rfl⟩ (fun _ _ => rfl) h (by rw [hbe]; simpa using C'.fr) (C'.okL 0 _ rfl) (fun x hx => by rw [hbe]; exact hx) (by rw [hb]; rfl) ?_ (fun T' ls'' he => ?_) (fun e t xs m fu he => by cases he) rfl trivial (fun o ho => by cases ho)
       ·show ls'.all gP = true
        rw [q1] at hst; rw [q4]
        simp only [List.all_append, Bool.and_eq_true] at hst ⊢
        exact ⟨⟨hst.1, rfl⟩, hst.2.2⟩
       ·cases he
        intro o ho
        rw [q4] at ho
        simp only [List.flatMap_append, List.mem_append] at ho
        rcases ho with (ho | ho) | ho
        ·exact hrb o (by rw [q1]; simp only [List.flatMap_append, List.mem_append]; exact .inl ho)
        ·cases ho
        ·exact hrb o (by rw [q1]; simp only [List.flatMap_append, List.mem_append]; exact .inr (.inr ho))
      ·simp [ax] at h
     ·simp [ax] at h
    ·simp [ax] at h
   ·simp [ax] at h
  ·simp [ax] at h
 ·simp [ax] at h
end
section
variable {P : Program} {g g' g1 : Env} {γ : Ghost} {S S1 : St} {n : Nat} {a : Act} {w0 w w' : World} {D A : Nat → Prop} {α : Type} {K : St → SV → Option α} {out : α} {ρ : Operand → Value}
theorem Frozen.post (Z : Frozen g γ S S1 n a) {v : Value} (h : Post g γ S1 n a w0 D A K out v w') : Post g γ S n a w0 D A K out v w' := Post.of Z.kp h
theorem B9 {w' : World} {v : Value} {e sz m : Nat} {cs : List Value} (h : e < mB) (C : Ctx w nob nob ([] ++ [io v e sz m cs]) [] w') : Ctx w nob nob ([] ++ [eX v e sz m cs]) [] w' := by
 refine ⟨C.fr, ?_, C.okR, ?_, ?_, ?_, C.src⟩
 ·intro i E hE
  match i with
  | 0 => cases hE; exact (dX h).2 (C.okL 0 _ rfl)
  | i + 1 => simp at hE
 ·intro i E hE
  match i with
  | 0 => cases hE; exact C.mine 0 (io v e sz m cs) rfl
  | i + 1 => simp at hE
 ·intro i j E F hij hE hF
  match i, j with
  | 0, 0 => exact absurd rfl hij
  | i + 1, _ => simp at hE
  | 0, j + 1 => simp at hF
 ·intro i j E F hE hF
  simp at hF
theorem Dg (F : Fit g γ S n a) (C : Cx g S w0 D A w) {t : TypeId} {m : Nat} {ps : Array (Nat × Operand)} {vs : List (Nat × SV)} {e sz by_ : Nat} {z : Value} {u : Ty} {xs : List u.den}
 (hv : parts S ps.toList = some vs) (he : bp P t = some (e, sz, by_, some z)) (hc : sz = u.sz ∧ vs.length = m ∧ m * sz ≤ 16777216 ∧ m ≤ 16777216 ∧ (rQ P t m).isSome = true ∧ e < mB) (hl : lC (qE S vs) P e u vs 0 = some xs)
 (hK : K ((qE S vs).add [.row e u xs .own false]) (.v (.a (.sl (qE S vs).obs.length))) = some out) :
 Eff P a.eval (.buildSlice t m ps) w (Post g γ S n a w0 D A K out) := by
 obtain ⟨rfl, rfl, hm, hm2, hz, hmB⟩ := hc
 obtain ⟨q1, q2⟩ := mh F hv
 have Z := qJ vs F
 obtain ⟨cs, fs, h1, h2, h3, h4, h5⟩ := pA (g := g) Z.fit.ob vs 0 xs hl
 have hcl : cs.length = vs.length * u.sz := by rw [yx (fun x c F h => gS u x c F h) xs cs fs h1, h3]
 obtain ⟨base, hbase⟩ := Option.isSome_iff_exists.1 hz
 have hsl : rL P t vs.length ((ps.map fun (i, x) => (i, a.eval x)).toList) = some (e, u.sz, cs) := by
  rw [Array.toList_map, show List.map (fun (x : Nat × Operand) => match x with | (i, x) => (i, a.eval x)) ps.toList = vs.map fun p => (p.1, aq g p.2) from q1]
  unfold bp at he
  split at he
  ·rename_i e' hu
   obtain ⟨i, hi, hh⟩ := Option.map_eq_some_iff.1 he
   simp only [Prod.mk.injEq] at hh
   obtain ⟨rfl, hsz, _, _⟩ := hh
   unfold rQ at hbase
   simp only [hu, hi] at hbase
   obtain ⟨zz, hz1, hz2⟩ := Option.map_eq_some_iff.1 hbase
   unfold rL
   simp only [hu, hi]
   rw [if_neg (by rw [hsz]; omega)]
   simp only [hz1, Option.bind_some]
   have hbl : base.toList.length = vs.length * u.sz := by rw [← hz2]; simp [hsz]
   have := h5 base.toList (fun j => some (j * i.size, i.size)) (fun j => by rw [hsz]) (by rw [hbl, Nat.zero_add]; exact Nat.le_refl _)
   rw [← hz2] at this
   simp only [Nat.zero_add, Nat.zero_mul, List.take_zero, List.nil_append] at this
   rw [Array.toArray_toList] at this
   rw [this]
   simp only [Option.map_some, hsz, Option.some.injEq, Prod.mk.injEq, true_and]
   rw [List.drop_eq_nil_of_le (by simp [hsz])]
   simp
  ·cases he
 have C1 := Z.cx _ _ _ _ C
 refine (uB (P := P) (a := a) Z.fit C1 hK h1 h2 ((qw (za w) hsl hcl (by omega)).mono ?_)).mono (fun v w' h => Z.post h)
 rintro v w' ⟨⟨b, rfl⟩, C'⟩
 exact ⟨⟨_, _, by rw [h3], fun h => by cases h⟩, by rw [h3]; exact B9 hmB C'⟩
theorem Dh (F : Fit g γ S n a) (C : Cx g S w0 D A w) {t : TypeId} {m : Nat} {ps : Array (Nat × Operand)} {e sz by_ b : Nat} {d : Kd} {z : Value} {S' : St}
 (hv : parts S ps.toList = some [(0, .v (.a (.ptr b 0)))]) (he : bp P t = some (e, sz, by_, some z)) (hc : sz = 1 ∧ m = 1 ∧ (rQ P t 1).isSome = true ∧ e < mB)
 (hfo : xB (S.add [.fleet e d [(bm d).dflt] (some 0)]) S.obs.length e d (fun x => [x]) b = some S') (hK : K S' (.v (.a (.sl S.obs.length))) = some out) :
 Eff P a.eval (.buildSlice t m ps) w (Post g γ S n a w0 D A K out) := by
 obtain ⟨rfl, rfl, hz, hmB⟩ := hc
 obtain ⟨q1, q2⟩ := mh F hv
 have hb : b < S.obs.length := (q2 _ (List.mem_singleton.2 rfl)).2 b (by simp [aL, bi, aN])
 obtain ⟨pv, hpv⟩ : ∃ pv : Value, pv = .pointer (some ⟨(g b).b, 0, none⟩) := ⟨_, rfl⟩
 obtain ⟨base, hbase⟩ := Option.isSome_iff_exists.1 hz
 have hsl : rL P t 1 ((ps.map fun (i, x) => (i, a.eval x)).toList) = some (e, 1, [pv]) := by
  rw [Array.toList_map, show List.map (fun (x : Nat × Operand) => match x with | (i, x) => (i, a.eval x)) ps.toList = [(0, pv)] from by rw [hpv]; exact q1]
  unfold bp at he
  split at he
  ·rename_i e' hu
   obtain ⟨i, hi, hh⟩ := Option.map_eq_some_iff.1 he
   simp only [Prod.mk.injEq] at hh
   obtain ⟨rfl, hsz, _, _⟩ := hh
   unfold rQ at hbase
   simp only [hu, hi] at hbase
   obtain ⟨zz, hz1, hz2⟩ := Option.map_eq_some_iff.1 hbase
   unfold rL
   simp only [hu, hi]
   rw [if_neg (by rw [hsz]; omega)]
   simp only [hz1, Option.bind_some]
   have hbl : base.toList.length = 1 := by rw [← hz2]; simp [hsz]
   have := oG (cs := base.toList) (us := [pv]) (j := 0) (off := 0) (v := pv) (rest := []) (place := fun j => some (j * i.size, i.size)) (by simp [hsz]) (by rw [hpv]; rfl) (by rw [hbl]; exact Nat.le_refl _)
   rw [← hz2, Array.toArray_toList] at this
   rw [this]
   simp only [Instr.fill, Option.map_some, hsz, Option.some.injEq, Prod.mk.injEq, true_and]
   rw [List.drop_eq_nil_of_le (by simp [hsz])]
   simp
  ·cases he
 refine (qw (za w) hsl rfl (by omega)).mono ?_
 rintro v w' ⟨⟨b', rfl⟩, C'⟩
 have hok : (eX (.slice (some ⟨b', 0, none⟩) 1 1) e 1 1 [pv]).ok w' := (dX hmB).2 (C'.okL 0 _ rfl)
 rw [hpv] at hok
 exact Dd F C hb hfo (fun _ => rfl) hK ⟨_, _, rfl, fun h => by cases h⟩ C'.fr hok (fun x hx => (C'.mine 0 _ rfl x hx).elim (fun h => h.elim) id)
theorem Di (F : Fit g γ S n a) (C : Cx g S w0 D A w) {t : TypeId} {X Y : Operand} {k k' : IntKind} {m c : Int} {e sz by_ : Nat} {z : Value} {u : Ty}
 (hX : opA S X = some (.v (.a (.fl (.int k) m)))) (hY : opA S Y = some (.v (.a (.fl (.int k') c)))) (he : bp P t = some (e, sz, by_, some z)) (hc : sz = u.sz ∧ u.flat = true ∧ yC P e u = true ∧ e < mB)
 (h : (ax α).guard (0 ≤ m ∧ c = m ∧ m.toNat * by_ ≤ 140737488355328 ∧ m ≤ 9223372036854775807) inferInstance (K (S.add [.row e u (List.replicate m.toNat u.dflt) .own false]) (.v (.a (.sl S.obs.length)))) = some out) :
 Eff P a.eval (.makeSlice t X Y) w (Post g γ S n a w0 D A K out) := by
 obtain ⟨rfl, hfl, hzd, hmB⟩ := hc
 have hg : (0 ≤ m ∧ c = m ∧ m.toNat * by_ ≤ 140737488355328 ∧ m ≤ 9223372036854775807) ∧ K (S.add [.row e u (List.replicate m.toNat u.dflt) .own false]) (.v (.a (.sl S.obs.length))) = some out := by
  simp only [ax] at h
  split at h
  ·rename_i hp; exact ⟨hp, h⟩
  ·cases h
 obtain ⟨⟨h0, rfl, h1, h2⟩, hK⟩ := hg
 have hX' : a.eval X = .int k c := (aD F hX).1
 have hY' : a.eval Y = .int k' c := (aD F hY).1
 have hzc : z.cells.toList = (am u).cells (am u).dflt := by
  rw [cX]
  unfold yC at hzd
  split at hzd
  ·rename_i cs hcs
   have := kG hzd
   rw [← this]
   unfold bp at he
   split at he
   ·rename_i e' hu
    obtain ⟨i, hi, hh⟩ := Option.map_eq_some_iff.1 he
    simp only [Prod.mk.injEq] at hh
    obtain ⟨rfl, _, _, hzz⟩ := hh
    unfold sN at hcs
    rw [hi] at hcs
    simp only [Option.bind_some, hzz, Option.map_some, Option.some.injEq] at hcs
    exact hcs
   ·cases he
  ·cases hzd
 refine uB (fs := []) F C hK ((bN u hfl _ _ _).2 ⟨rfl, rfl⟩) FromR.nil ((Eu (F := am u) (za w) hX' hY' (by rw [aK]; exact he) hzc h0 (by omega) h2).mono ?_)
 intro v w' C'
 have hok := C'.okL 0 _ rfl
 rw [cX, aK] at C'
 refine ⟨?_, B9 hmB C'⟩
 rcases (hok : w'.ownsRow 0 e (am u).sz v _ _).2 with ⟨rfl, hn⟩ | ⟨q, cap, cur, rfl, _⟩
 ·rw [cX] at hn
  exact ⟨none, 0, by rw [hn], fun _ => hn⟩
 ·rw [cX]
  exact ⟨_, _, rfl, fun h => by cases h⟩
theorem Cd {f : FuncId} {x : Operand} {xs : Array Operand} {ts : Array TypeId} {K : Value → World → Prop} {A' fs caps B : List Value} (hA : xs.toList.map ρ = A') (hv : ρ x = .func (.func f) fs.toArray caps.toArray) (hf : tT P f = true) (hB : fs ++ A' ++ caps = B)
 (hc : Fn P f B w K) : Eff P ρ (.call { callee := .value x, args := xs, argTypes := ts }) w K := by
 intro o a next Q' ho he k
 have hr : (execOp ρ o).run P w = .ok (.enter f B.toArray) w := by
  subst hA hB
  simp only [execOp, ho, resolve, hv, Deferred.ofValue, Sem.run_bind, Sem.run_pure, Result.andThen_ok, invoke]
  have e : (fs.toArray ++ xs.map ρ) ++ caps.toArray = (fs ++ xs.toList.map ρ ++ caps).toArray := by
   apply Array.toList_inj.1; simp
  rw [e]
  exact qv hf _ _
 refine ⟨?_, fun ro => ⟨fun _ _ => trivial, ?_⟩⟩
 ·unfold Oper.wp
  rw [he, hr, Oper.upon_enter]
  refine Calls.mono hc ?_
  rintro e w' ⟨v, rfl, hK⟩
  exact k v w' hK
 ·rw [Oper.semAt_eq _ _ _ (by intro c; rw [ho]; simp), he, hr, Oper.uponIn_enter]
  refine ⟨fun _ => by decide, callsIn_wide.2 (Calls.mono hc ?_)⟩
  rintro e w' ⟨v, rfl, hK⟩
  exact k v w' hK
theorem zj (F : Fit g γ S n a) (C : Cx g S w0 D A w) {t : TypeId} {X : Operand} {Lo Hi Mx : Option Operand} {o e : Nat} {u : Ty} {xs : List u.den} {fu : Bool} {lo hi mx : Option SV} {q : Qt}
 (hX : opA S X = some (.v (.a (.sl o)))) (ho : S.ob o = .row e u xs .own fu) (hl : opO (S.setOb o (.row e u xs .rd fu)) Lo = some lo) (hh : opO (S.setOb o (.row e u xs .rd fu)) Hi = some hi) (hm : opO (S.setOb o (.row e u xs .rd fu)) Mx = some mx)
 (hq : EG P (S.setOb o (.row e u xs .rd fu)) t (.v (.a (.sl o))) lo hi mx = some q) (h : (ax α).guard q.p q.dp (K ((S.setOb o (.row e u xs .rd fu)).add q.news) q.v) = some out) :
 Eff P a.eval (.slice t X Lo Hi Mx) w (Post g γ S n a w0 D A K out) := by
 have holt := nJ (S := S) (i := o) (by rw [ho]; simp)
 obtain ⟨f1, f2, f3, f4⟩ := xJ F ho holt
 have hp : q.p ∧ K ((S.setOb o (.row e u xs .rd fu)).add q.news) q.v = some out := by
  simp only [ax] at h
  split at h
  ·rename_i hp; exact ⟨hp, h⟩
  ·cases h
 obtain ⟨e1, e2, e3⟩ := aD F hX
 obtain ⟨g', L⟩ := wC f1 e1 hl hh hm (by simpa [St.setOb] using e3) hq hp.1
 obtain ⟨N', hr⟩ := L.run w0 D A w (f2 _ _ _ _ C)
 have C' := ur f1 L.ext N' (f2 _ _ _ _ C)
 exact cn hr (Post.of f3 ⟨g', _, _, hp.2, rfl, L.fit, C', L.ok, L.rs, Kp.add _ L.ext⟩)
theorem Fl {w : World} {e sz n h : Nat} {v : Value} {cs : List Value} (hw : w.ownsRow 0 e sz v n cs) (hh : h ≤ n) : w.ownsRow 0 e sz (ik v 0 h sz) h (cs.take (h * sz)) ∧ (ik v 0 h sz).ownBlock = v.ownBlock ∧ SlV (ik v 0 h sz) h := by
 have hl : (cs.take (h * sz)).length = h * sz := by rw [List.length_take, hw.1, Nat.min_eq_left (Nat.mul_le_mul_right _ hh)]
 rcases hw.2 with ⟨rfl, rfl⟩ | ⟨q, cap, cur, rfl, h1, h2, h3, h4, h5, h6⟩
 ·obtain rfl : h = 0 := by omega
  exact ⟨⟨hl, .inl ⟨rfl, rfl⟩⟩, rfl, ⟨none, 0, rfl, fun _ => rfl⟩⟩
 ·have e : ik (.slice (some ⟨q, 0, none⟩) n cap) 0 h sz = .slice (some ⟨q, 0, none⟩) h cap := by simp [ik, bG]
  rw [e]
  refine ⟨⟨hl, .inr ⟨q, cap, cur, rfl, h1, h2, by omega, h4, h5, ?_⟩⟩, rfl, ⟨_, _, rfl, fun h => by cases h⟩⟩
  rw [← h6, List.take_take, Nat.min_eq_left (Nat.mul_le_mul_right _ hh)]
theorem A3 (F : Fit g γ S n a) (C : Cx g S w0 D A w) {t : TypeId} {X Y : Operand} {o e : Nat} {u : Ty} {xs : List u.den} {fu : Bool} {hi : Int} {p : Plan}
 (hX : opA S X = some (.v (.a (.sl o)))) (ho : S.ob o = .row e u xs .own fu) (hY : opA S Y = some (.v (.a (.fl (.int .i64) hi)))) (hsz : cg P t = some u.sz) (hmB : e < mB)
 (h : (ax α).guard (0 ≤ hi ∧ hi ≤ (xs.length : Int)) inferInstance (K (({ S.to p with mods := o :: (S.to p).mods, obs := (S.to p).obs.set o .gone } : St).add [.row e u (xs.take hi.toNat) .own false]) (.v (.a (.sl (S.to p).obs.length)))) = some out) :
 Eff P a.eval (.slice t X none (some Y) none) w (Post g γ S n a w0 D A K out) := by
 have holt := nJ (S := S) (i := o) (by rw [ho]; simp)
 have hp : (0 ≤ hi ∧ hi ≤ (xs.length : Int)) ∧ K (({ S.to p with mods := o :: (S.to p).mods, obs := (S.to p).obs.set o .gone } : St).add [.row e u (xs.take hi.toNat) .own false]) (.v (.a (.sl (S.to p).obs.length))) = some out := by
  simp only [ax] at h
  split at h
  ·rename_i hp; exact ⟨hp, h⟩
  ·cases h
 obtain ⟨⟨h0, h1⟩, hK⟩ := hp
 obtain ⟨H, hH⟩ : ∃ H : Nat, H = hi.toNat := ⟨_, rfl⟩
 have hHn : H ≤ xs.length := by omega
 rw [← hH] at hK
 have hob := F.ob o
 rw [ho] at hob
 obtain ⟨hrep, hsl, _⟩ := hob
 have hown : w.ownsRow 0 e u.sz (g o).v xs.length (g o).cs := by have := C.okL o; simp only [ho, an] at this; exact (dX hmB).1 this
 obtain ⟨o1, o2, o3⟩ := Fl (h := H) hown hHn
 obtain ⟨F1, F2, ef, k1, k2⟩ := jL (fun x c F h => gS u x c F h) H xs _ _ hrep
 have hXe : a.eval X = (g o).v := (aD F hX).1
 have hYe : a.eval Y = .int .i64 hi := (aD F hY).1
 have hr : cV P a.eval (.slice t X none (some Y) none) w (ik (g o).v 0 H u.sz) w :=
  nq (dV (tY hown)) hXe hsz (by rw [Option.map_some, hYe, hH]; exact Er .i64 hi h0 h1) rfl
 have hlen : (xs.take H).length = H := by rw [List.length_take]; omega
 refine cn hr (Post.of (nH (Kp.refl g S noD) p) (zc (S := S.to p) (fF F p) (show Cx g (S.to p) w0 D A w from C) (cs := (g o).cs.take (H * u.sz)) (fs := F1) (show (S.to p).ob o = .row e u xs .own fu from ho) holt hK k1 ?_ ?_ (Fr.refl _ _) ?_ ?_))
 ·intro f hf
  exact FromR.inner (S := S) ho (by simp) f (by rw [ef]; exact List.mem_append_left _ hf)
 ·rw [hlen]; exact o3
 ·rw [hlen]; exact (dX hmB).2 o1
 ·rw [hlen]
  intro b hb
  exact .inl (by
   have : (ik (g o).v 0 H u.sz).ownBlock = some b := hb
   rw [o2] at this
   exact this)
def dg (P : Program) (X : (R : Type) → Alg R → St → Nat → List SV → (St → SV → R) → R) : Prop :=
 ∀ {α : Type} {K : St → SV → Option α} {out : α} {g : Env} {γ : Ghost} {S : St} {n : Nat} {a : Act} {w0 w : World} {D A : Nat → Prop} {f : Nat} {xs : List SV}, X _ (ax α) S f xs K = some out →
  Fit g γ S n a → Cx g S w0 D A w → (∀ x ∈ xs, okS S x ∧ ∀ o ∈ aL x, o < S.obs.length) → Fn P f (xs.map (aq g)) w (Post g γ S n a w0 D A K out)
theorem qP (f : Nat) (xs : List SV) : (cP P f xs).map (aq g) = xs.map (aq g) ∧ ((∀ x ∈ xs, okS S x ∧ ∀ o ∈ aL x, o < S.obs.length) → ∀ x ∈ cP P f xs, okS S x ∧ ∀ o ∈ aL x, o < S.obs.length) := by
 unfold cP
 split
 ·rename_i fn hf
  constructor
  ·apply List.ext_getElem
   ·simp
   ·intro i h1 h2
    simp only [List.getElem_map, List.getElem_zipIdx]
    split
    ·exact (bP (P := P) (g := g) (S := S) _ _).1
    ·rfl
  ·intro h x hx
   obtain ⟨p, hp, rfl⟩ := List.mem_map.1 hx
   have hm : p.1 ∈ xs := by
    have := List.mem_zipIdx_iff_getElem?.1 hp
    exact List.mem_of_getElem? this
   have := h p.1 hm
   simp only
   split
   ·obtain ⟨_, t2, t3⟩ := bP (P := P) (g := vL) (S := S) ‹TypeId› p.1
    exact ⟨t3 this.1, by rw [t2]; exact this.2⟩
   ·exact this
 ·exact ⟨rfl, id⟩
theorem Ce (F : Fit g γ S n a) : ∀ {xs : List Operand} {vs : List SV}, ue S xs = some vs → ∀ v ∈ vs, okS S v
 | [], vs, h => by simp [ue] at h; subst h; simp
 | x :: xs, vs, h => by
   simp only [ue, List.mapM_cons, Option.bind_eq_bind, Option.bind_eq_some_iff, Option.pure_def, Option.some.injEq] at h
   obtain ⟨v, hv, vs', h', rfl⟩ := h
   intro y hy
   rcases List.mem_cons.1 hy with rfl | hy
   ·exact (aD F hv).2.1
   ·exact Ce F (vs := vs') h' y hy
theorem Dj (F : Fit g γ S n a) (C : Cx g S w0 D A w) {s d e : TypeId} {X : Operand} {b : ByteArray} (hX : opA S X = some (.v (.a (.fl .str b)))) (hd : P.underlying d = some (.slice e)) (hb : nr P d s = true)
 (h : (ax α).guard (b.size ≤ 9223372036854775807) inferInstance (K (S.add [.row (mB + e) (.int .u8) (cj b) .own false]) (.v (.a (.sl S.obs.length)))) = some out) : Eff P a.eval (.convert s d X) w (Post g γ S n a w0 D A K out) := by
 have hg : b.size ≤ 9223372036854775807 ∧ K (S.add [.row (mB + e) (.int .u8) (cj b) .own false]) (.v (.a (.sl S.obs.length))) = some out := by
  simp only [ax] at h
  split at h
  ·rename_i hp; exact ⟨hp, h⟩
  ·cases h
 obtain ⟨hsz, hK⟩ := hg
 have hX' : a.eval X = .string b := (aD F hX).1
 unfold nr at hb
 rw [hd] at hb
 split at hb
 ·rename_i e' h1 h2
  cases h1
  split at hb
  ·rename_i h3
   have hr := run_bytes_of_string (P := P) w s d e b h2 hd h3
   have hlen : (cj b).length = b.size := by simp [cj]
   obtain ⟨cap, hcap⟩ : ∃ cap, cap = grownCap w b.size 0 e := ⟨_, rfl⟩
   rw [← hcap] at hr
   have hge : b.size ≤ cap := by rw [hcap]; exact grownCap_ge w b.size 0 e
   have hle : cap ≤ 9223372036854775807 := by rw [hcap]; exact grownCap_le_maxLen w b.size 0 e hsz
   obtain ⟨W, hW⟩ : ∃ W, W = w.drew.alloc (.cells (bytesRow b cap) e ((bytesRow b cap).size, (bytesRow b cap).size + 1)) := ⟨_, rfl⟩
   rw [← hW] at hr
   have hrun : cV P a.eval (.convert s d X) w (.slice (some ⟨w.heap.size, 0, none⟩) b.size cap) W := fun o ho => by
    simp only [execOp, ho, hX', Sem.run_bind, hr, Result.andThen_ok, Sem.run_pure]
   have hFr : Fr nob w W := by rw [hW]; exact (Fr.drawn w (w.drawn + 1)).then (Fr.alloc _ _)
   have hcs : ((cj b).flatMap (am (.int .u8)).cells) = b.data.toList.map fun c => Value.int .u8 c.toNat := by
    simp only [cj, List.flatMap_map]
    show b.data.toList.flatMap (fun c => [Value.int .u8 (c.toNat : Int)]) = _
    induction b.data.toList with
    | nil => rfl
    | cons c l ih => simp only [List.flatMap_cons, List.map_cons, ih]; rfl
   have hheap : W.heap[w.heap.size]? = some (.cells (bytesRow b cap) e ((bytesRow b cap).size, (bytesRow b cap).size + 1)) := by
    rw [hW]
    show (w.heap.push (.cells (bytesRow b cap) e ((bytesRow b cap).size, (bytesRow b cap).size + 1)))[w.heap.size]? = _
    simp
   have hrsz : (bytesRow b cap).size = cap := by
    unfold bytesRow
    simp only [Array.size_append, Array.size_map, Array.size_replicate]
    show b.data.size + (cap - b.size) = cap
    have : b.data.size = b.size := rfl
    omega
   have hsee : OwnR W (mB + e) (Ty.sz (.int .u8)) (.slice (some ⟨w.heap.size, 0, none⟩) b.size cap) (cj b).length ((cj b).flatMap (am (.int .u8)).cells) := by
    unfold OwnR
    rw [if_neg (by omega), hlen]
    refine ⟨by rw [gR, aK, hlen], .inr ⟨_, cap, _, _, rfl, by rw [Nat.add_sub_cancel_left]; exact hheap, Nat.le_refl _, hge, by simpa [maxLen] using hle, by rw [hrsz]; exact (Nat.mul_one _).symm, ?_⟩⟩
    rw [hcs]
    unfold bytesRow
    show (_ : List Value).take (b.size * 1) = _
    rw [Nat.mul_one, Array.toList_append, List.take_left' (by rw [Array.length_toList, Array.size_map]; rfl), Array.toList_map]
   refine uB (P := P) (a := a) (e := mB + e) (u := .int .u8) F C hK ((bN (.int .u8) rfl _ _ _).2 ⟨rfl, rfl⟩) FromR.nil (cn hrun ⟨⟨_, _, by rw [hlen], fun h => by cases h⟩, tx (za w) hFr hsee (fun b' hb' => ?_)⟩)
   have hb' : (Value.slice (some ⟨w.heap.size, 0, none⟩) b.size cap).ownBlock = some b' := hb'
   simp only [Value.ownBlock, Option.some.injEq] at hb'
   omega
  ·cases hb
 ·cases hb
theorem Dk {Γ : List Con} {inl : List Nat} {H : Inl} {k : Nat} (hc : dg P (fun R A S f xs K => nE A P Γ k S f xs K)) (hi : dg P (fun R A S f xs K => H f (cP P f xs) R A S K))
 (F : Fit g γ S n a) (C : Cx g S w0 D A w) {ty : TypeId} {op : Op} (h : Ka (ax α) P Γ inl H k S ty op K = some out) : Eff P a.eval op w (Post g γ S n a w0 D A K out) := by
 unfold Ka at h
 split at h
 ·split at h
  ·exact AS F C ‹_› h
  ·simp [ax] at h
 ·split at h
  ·rename_i ls hls
   obtain ⟨v, hv, hl⟩ := Option.bind_eq_some_iff.1 hls
   split at h
   ·exact E9 F C hv hl h
   ·simp [ax] at h
  ·simp [ax] at h
 ·split at h
  ·exact AT F C ‹_› ‹_› h
  ·simp [ax] at h
 ·split at h
  ·rename_i e sz by_ z vs he hv
   split at h
   ·simp only at h
    split at h
    ·rename_i hcc
     split at h
     ·exact Dg F C hv he hcc ‹_› h
     ·simp [ax] at h
    ·simp [ax] at h
   ·split at h
    ·split at h
     ·rename_i hcc
      split at h
      ·exact Dh F C hv he hcc ‹_› h
      ·simp [ax] at h
     ·simp [ax] at h
    ·simp [ax] at h
  ·simp [ax] at h
 ·split at h
  ·rename_i kk m kk' c e sz by_ z hX hY he
   split at h
   ·split at h
    ·exact Di F C hX hY he ‹_› h
    ·simp [ax] at h
   ·simp [ax] at h
  ·simp [ax] at h
 ·split at h
  ·split at h
   ·split at h
    ·exact Dj F C ‹_› ‹_› ‹_› h
    ·simp [ax] at h
   ·simp [ax] at h
  ·simp [ax] at h
 ·split at h
  ·rename_i o hX
   split at h
   ·rename_i e u xs fu ho
    split at h
    ·rename_i S2 y hpl
     split at h
     ·rename_i hi sz hY hsz
      split at h
      ·rename_i hs
       obtain ⟨hs, hmB⟩ := hs
       subst hs
       unfold St.cutPl at hpl
       split at hpl
       ·cases hpl
        exact A3 F C hX ho hY hsz hmB h
       ·cases hpl
      ·simp [ax] at h
     ·simp [ax] at h
    ·simp only at h
     split at h
     ·rename_i l hh m hl hhh hm
      split at h
      ·exact zj F C hX ho hl hhh hm ‹_› h
      ·simp [ax] at h
     ·simp [ax] at h
   ·simp [ax] at h
  ·simp [ax] at h
  ·simp [ax] at h
 ·split at h
  ·rename_i s x t t' hx ht
   obtain rfl := bI hx
   obtain rfl := bI ht
   split at h
   ·split at h
    ·rename_i hs hy htt
     subst htt
     exact zh F C ‹_› ‹_› h
    ·simp [ax] at h
   ·simp [ax] at h
  ·simp [ax] at h
 ·split at h
  ·rename_i s x t t' hx ht
   obtain rfl := bI hx
   obtain rfl := bI ht
   split at h
   ·exact Df F C ‹_› ‹_› h
   ·simp [ax] at h
  ·simp [ax] at h
 ·rename_i x xs ts
  split at h
  ·rename_i f fs cs vs hx hxs
   split at h
   ·rename_i hen
    obtain ⟨e1, e2, e3⟩ := aD F hx
    obtain ⟨a1, a2⟩ := jH F hxs
    have hargs : ∀ y ∈ (fs.map (fun a => SV.v (.a a)) ++ vs ++ cs.map (fun a => SV.v (.a a))), okS S y ∧ ∀ o ∈ aL y, o < S.obs.length := by
     intro y hy
     simp only [List.mem_append, List.mem_map] at hy
     rcases hy with (⟨z, hz, rfl⟩ | hy) | ⟨z, hz, rfl⟩
     ·exact ⟨trivial, fun o ho => e3 o (by simp only [aL, bi, List.mem_append, List.mem_flatMap]; exact .inl ⟨z, hz, ho⟩)⟩
     ·exact ⟨Ce F hxs y hy, fun o ho => a2 o (List.mem_flatMap.2 ⟨y, hy, ho⟩)⟩
     ·exact ⟨trivial, fun o ho => e3 o (by simp only [aL, bi, List.mem_append, List.mem_flatMap]; exact .inr ⟨z, hz, ho⟩)⟩
    have hB : fs.map (aJ g) ++ vs.map (aq g) ++ cs.map (aJ g) = (fs.map (fun a => SV.v (.a a)) ++ vs ++ cs.map (fun a => SV.v (.a a))).map (aq g) := by
     simp [List.map_append, List.map_map]
     constructor <;> (intro y _; rfl)
    split at h
    ·exact Cd a1 e1 hen hB (hi h F C hargs)
    ·exact Cd a1 e1 hen hB (hc h F C hargs)
   ·simp [ax] at h
  ·simp [ax] at h
 all_goals simp [ax] at h
end
def pQ (os : List Oper) : Nat → Prop := fun t => ∃ o ∈ os, o.dst = some t
section
variable {P : Program} {g g' g1 : Env} {γ : Ghost} {S S1 : St} {n : Nat} {a : Act} {w0 w w' : World} {D A : Nat → Prop} {α : Type} {out : α} {ρ : Operand → Value}
variable {Γ : List Con} {inl : List Nat} {H : Inl} {k : Nat}
theorem wN {K : St → SV → Option α} (hc : dg P (fun R A S f xs K => nE A P Γ k S f xs K)) (hi : dg P (fun R A S f xs K => H f (cP P f xs) R A S K))
 (F : Fit g γ S n a) (C : Cx g S w0 D A w) {ty : TypeId} {op : Op} (h : AM (ax α) P Γ inl H k S ty op K = some out) : Eff P a.eval op w (Post g γ S n a w0 D A K out) := by
 unfold AM at h
 split at h
 ·exact C9 F C ‹_› h
 ·exact Dk hc hi F C h
theorem Cf (F : Fit g γ S n a) {d : Nat} {sv sv' : SV} (h : aA S.slots d = some sv) (he : aq g sv' = aq g sv) (h1 : okS S sv') (h2 : ∀ o ∈ aL sv', o < S.obs.length) : Fit g γ (S.put (some d) sv') n a := by
 refine ⟨F.size, F.lo, F.defers, fun t s hs => ?_, F.ob, fun t s hs => ?_, fun t s hs => ?_, F.rb⟩
 ·simp only [St.put, gG] at hs
  split at hs
  ·rename_i e; cases e; cases hs
   rw [he]; exact F.sl d sv h
  ·exact F.sl t s hs
 ·simp only [St.put, gG] at hs
  split at hs
  ·cases hs; exact (show okS S _ from h1)
  ·exact F.ok t s hs
 ·simp only [St.put, gG] at hs
  split at hs
  ·cases hs; exact h2
  ·exact F.rs t s hs
theorem ew (F : Fit g γ S n a) {ops : Array Oper} {o : Oper} {r : Bool ⊕ (Nat × Bool × Bool)} (hd : ∀ o ∈ ops.toList, ∀ d, o.dst = some d → d < n) (h : nF ops.toList S o.guard = some r) :
 match r with
 | .inl b => Region.wanted o (yielded ops a.tmps) = b
 | .inr (d, b, want) => aA S.slots d = some (.v (.a (.fl .bool b))) ∧ pQ ops.toList d ∧ ∀ b', nF ops.toList (S.put (some d) (.lit b')) o.guard = some (.inl (b' == want)) := by
 unfold nF at h
 split at h
 ·rename_i hg
  cases h
  simp [Region.wanted, hg]
 ·rename_i gg want hg
  split at h
  ·rename_i d hgd
   have hdn : d < n ∧ pQ ops.toList d := by
    obtain ⟨o', ho', hod⟩ := Option.bind_eq_some_iff.1 hgd
    exact ⟨hd o' (List.mem_of_getElem? ho') d hod, o', List.mem_of_getElem? ho', hod⟩
   have hgd' : (ops[gg]?).bind (·.dst) = some d := by simpa using hgd
   have hsl := fun sv hs => F.sl d sv hs
   split at h
   ·rename_i b hl
    cases h
    have := hsl _ hl
    rw [if_pos (Nat.lt_of_lt_of_le hdn.1 F.lo)] at this
    simp only [aq, aU, aJ] at this
    simp only [Region.wanted, hg, yielded, hgd', Option.bind_some, this]
    cases b <;> cases want <;> rfl
   ·rename_i b hl
    cases h
    refine ⟨hl, hdn.2, fun b' => ?_⟩
    simp only [nF, hg, hgd, St.put, gG, if_true, SV.lit]
   ·rename_i hl
    cases h
    have := hsl _ hl
    rw [if_pos (Nat.lt_of_lt_of_le hdn.1 F.lo)] at this
    simp only [aq, aU, aJ, undef] at this
    simp only [Region.wanted, hg, yielded, hgd', Option.bind_some, this]
    cases want <;> rfl
   ·cases h
  ·cases h
theorem ml {ro : Option Nat} {ops : Array Oper} {Q : Exit → Act → World → Prop} (hc : dg P (fun R A S f xs K => nE A P Γ k S f xs K)) (hi : dg P (fun R A S f xs K => H f (cP P f xs) R A S K))
 {K : St → Option α} {S0 : St} {g0 : Env} (hd : ∀ o ∈ ops.toList, ∀ d, o.dst = some d → d < n)
 (hK : ∀ g' S' a' w', K S' = some out → Fit g' γ S' n a' → Cx g' S' w0 D A w' → Kp g0 S0 (pQ ops.toList) g' S' → Q .normal a' w') :
 ∀ (os : List Oper) {S : St} {g : Env} {a : Act} {w : World}, (∀ o ∈ os, o ∈ ops.toList) → mf (ax α) P Γ inl H k ops.toList os S K = some out → Fit g γ S n a → Cx g S w0 D A w → Kp g0 S0 (pQ ops.toList) g S → wpListIn (FR ro) 3 P ops Q os a w
 | [], S, g, a, w, hm, h, F, C, Z => hK g S a w h F C Z
 | o :: os, S, g, a, w, hm, h, F, C, Z => by
   have hom := hm o (List.mem_cons_self ..)
   have hm' : ∀ o ∈ os, o ∈ ops.toList := fun x hx => hm x (List.mem_cons_of_mem _ hx)
   have yes : ∀ {S : St}, Fit g γ S n a → Cx g S w0 D A w → Kp g0 S0 (pQ ops.toList) g S → Region.wanted o (yielded ops a.tmps) = true →
    AM (ax α) P Γ inl H k S o.type o.op (fun S' v => mf (ax α) P Γ inl H k ops.toList os (S'.put o.dst v) K) = some out → wpListIn (FR ro) 3 P ops Q (o :: os) a w := by
    intro S F C Z hw hdo
    unfold wpListIn
    rw [if_pos hw]
    refine (wN hc hi F C hdo o a _ _ rfl rfl ?_).2 ro
    rintro v w' ⟨g', S', sv, h1, rfl, h3, h4, h5, h6, h7⟩
    refine ml hc hi hd hK os hm' h1 (kI h3 (hd o hom) h5 h6) h4 ?_
    exact (Z.trans h7 (fun _ => id) (fun _ h => h.elim)).trans (nI _ _ _ _) (fun _ => id) (fun t ht => ⟨o, hom, ht⟩)
   have no : ∀ {S : St}, Fit g γ S n a → Cx g S w0 D A w → Kp g0 S0 (pQ ops.toList) g S → Region.wanted o (yielded ops a.tmps) = false →
    mf (ax α) P Γ inl H k ops.toList os (S.put o.dst ES) K = some out → wpListIn (FR ro) 3 P ops Q (o :: os) a w := by
    intro S F C Z hw hdo
    unfold wpListIn
    rw [if_neg (by rw [hw]; simp)]
    refine ⟨fun _ _ => trivial, ?_⟩
    refine ml hc hi hd hK os hm' hdo (kI F (hd o hom) trivial (fun o ho => by cases ho)) C ?_
    exact Z.trans (nI _ _ _ _) (fun _ => id) (fun t ht => ⟨o, hom, ht⟩)
   simp only [mf] at h
   split at h
   ·rename_i hw
    exact yes F C Z (ew F hd hw) h
   ·rename_i hw
    exact no F C Z (ew F hd hw) h
   ·rename_i d b want hw
    obtain ⟨hl, hds, hre⟩ := ew F hd hw
    have hlen : okS S (.lit b) := trivial
    have Fb : Fit g γ (S.put (some d) (.lit b)) n a := Cf F hl rfl trivial (fun o ho => by cases ho)
    have Cb : Cx g (S.put (some d) (.lit b)) w0 D A w := C
    have Zb : Kp g0 S0 (pQ ops.toList) g (S.put (some d) (.lit b)) := Z.trans (nI _ _ _ _) (fun _ => id) (fun t ht => by cases ht; exact hds)
    have hwb := ew Fb hd (hre b)
    cases want with
    | true =>
      simp only [if_true, ax, ai] at h
      cases b with
      | true => exact yes (S := (S.put (some d) (.lit true)).kid 0) (fF Fb _) Cb (nH Zb _) hwb h
      | false => exact no (S := (S.put (some d) (.lit false)).kid 1) (fF Fb _) Cb (nH Zb _) hwb h
    | false =>
      simp only [Bool.false_eq_true, if_false, ax, ai] at h
      cases b with
      | true => exact no (S := (S.put (some d) (.lit true)).kid 0) (fF Fb _) Cb (nH Zb _) hwb h
      | false => exact yes (S := (S.put (some d) (.lit false)).kid 1) (fF Fb _) Cb (nH Zb _) hwb h
   ·simp [ax] at h
end
end Go.Proofs.YtlepjakmadlkjaaGreatDoor
