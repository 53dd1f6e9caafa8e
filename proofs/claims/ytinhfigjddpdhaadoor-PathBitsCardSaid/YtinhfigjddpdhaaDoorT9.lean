/- Texts of the proof, put together: part 9. No condition. -/
import Derived.Test.YtinhfigjddpdhaaDoorT8
import Derived.LaidMore
import Derived.Lib.LaidTab
import Derived.Stop.Joined
/- A law's start where variables of the package are laid; the end. No condition. -/
set_option linter.unusedVariables false
set_option linter.unusedSimpArgs false
namespace Go.Proofs.YtinhfigjddpdhaaDoor
open Go Go.WideShapes Go.ChangeShapes
def isK (k : IntKind) : Value → Bool
  | .int k' _ => k' == k
  | _ => false
/-- No number of this kind stands in it. -/
def noK (k : IntKind) : Ty → Bool
  | .int k' => !(k' == k)
  | .arr _ t => noK k t
  | .pair a b => noK k a && noK k b
  | .sl _ t => noK k t
  | _ => true
theorem flat_clean (k : IntKind) : ∀ (u : Ty) (x : u.den), noK k u = true → ∀ c ∈ (flatT u).cells x, isK k c = false
  | .int k', x, h, c, hc => by
    have : c = .int k' x := by simpa [flatT, FK] using hc
    subst this
    simpa [noK, isK] using h
  | .bool, x, h, c, hc => by
    have : c = .bool x := by simpa [flatT, FB] using hc
    subst this; rfl
  | .str, x, h, c, hc => by
    have : c = .string x := by simpa [flatT, FS] using hc
    subst this; rfl
  | .unit, x, h, c, hc => by simp [flatT, FU] at hc
  | .arr n t, x, h, c, hc => by
    simp only [flatT, FA] at hc
    obtain ⟨y, _, hy⟩ := List.mem_flatMap.1 hc
    exact flat_clean k t y h c hy
  | .pair a b, x, h, c, hc => by
    simp only [noK, Bool.and_eq_true] at h
    simp only [flatT, FP] at hc
    rcases List.mem_append.1 hc with hc | hc
    · exact flat_clean k a x.1 h.1 c hc
    · exact flat_clean k b x.2 h.2 c hc
  | .sl _ t, x, h, c, hc => by
    have : c = .nilFunc := by simpa [flatT, FL] using hc
    subst this; rfl
theorem repL_clean {k : IntKind} {α : Type} {R : α → List Value → List Fact → Prop} (h : ∀ x cs F, R x cs F → (∀ c ∈ cs, isK k c = false) ∧ ∀ f ∈ F, ∀ c ∈ f.cs, isK k c = false) :
    ∀ (xs : List α) (cs : List Value) (F : List Fact), RepL R xs cs F → (∀ c ∈ cs, isK k c = false) ∧ ∀ f ∈ F, ∀ c ∈ f.cs, isK k c = false
  | [], cs, F, ⟨h1, h2⟩ => by subst h1 h2; exact ⟨fun c hc => (by cases hc), fun f hf => (by cases hf)⟩
  | x :: xs, cs, F, ⟨c1, c2, F1, F2, h1, h2, h3, h4⟩ => by
    subst h1 h2
    obtain ⟨a1, a2⟩ := h x c1 F1 h3
    obtain ⟨b1, b2⟩ := repL_clean h xs c2 F2 h4
    exact ⟨fun c hc => (List.mem_append.1 hc).elim (a1 c) (b1 c), fun f hf => (List.mem_append.1 hf).elim (a2 f) (b2 f)⟩
theorem rep_clean (k : IntKind) : ∀ (u : Ty) (x : u.den) (cs : List Value) (F : List Fact), noK k u = true → RepP u x cs F → (∀ c ∈ cs, isK k c = false) ∧ ∀ f ∈ F, ∀ c ∈ f.cs, isK k c = false
  | .sl e t, x, cs, F, h, ⟨v, css, F', h1, ⟨ao, c, h2, _⟩, h3, h4⟩ => by
    obtain ⟨a1, a2⟩ := repL_clean (k := k) (R := RepP t) (fun x cs F hr => rep_clean k t x cs F h hr) x css F' h4
    subst h1 h3 h2
    refine ⟨fun c' hc => ?_, fun f hf => ?_⟩
    · simp only [List.mem_singleton] at hc; subst hc; rfl
    · rcases List.mem_cons.1 hf with rfl | hf
      · exact a1
      · exact a2 f hf
  | .pair a b, x, cs, F, h, ⟨c1, c2, F1, F2, h1, h2, h3, h4⟩ => by
    simp only [noK, Bool.and_eq_true] at h
    obtain ⟨a1, a2⟩ := rep_clean k a x.1 c1 F1 h.1 h3
    obtain ⟨b1, b2⟩ := rep_clean k b x.2 c2 F2 h.2 h4
    subst h1 h2
    exact ⟨fun c hc => (List.mem_append.1 hc).elim (a1 c) (b1 c), fun f hf => (List.mem_append.1 hf).elim (a2 f) (b2 f)⟩
  | .int k', x, cs, F, h, hr => by
    obtain ⟨h1, h2⟩ : cs = (flatT (.int k')).cells x ∧ F = [] := hr
    subst h1 h2; exact ⟨flat_clean k _ x h, fun f hf => (by cases hf)⟩
  | .bool, x, cs, F, h, hr => by
    obtain ⟨h1, h2⟩ : cs = (flatT .bool).cells x ∧ F = [] := hr
    subst h1 h2; exact ⟨flat_clean k _ x h, fun f hf => (by cases hf)⟩
  | .str, x, cs, F, h, hr => by
    obtain ⟨h1, h2⟩ : cs = (flatT .str).cells x ∧ F = [] := hr
    subst h1 h2; exact ⟨flat_clean k _ x h, fun f hf => (by cases hf)⟩
  | .unit, x, cs, F, h, hr => by
    obtain ⟨h1, h2⟩ : cs = (flatT .unit).cells x ∧ F = [] := hr
    subst h1 h2; exact ⟨flat_clean k _ x h, fun f hf => (by cases hf)⟩
  | .arr n t, x, cs, F, h, hr => by
    obtain ⟨h1, h2⟩ : cs = (flatT (.arr n t)).cells x ∧ F = [] := hr
    subst h1 h2; exact ⟨flat_clean k _ x h, fun f hf => (by cases hf)⟩
/-- A variable of the package: numbers, so many; where they lie. -/
structure Glob where
  b : Nat
  T : TypeId
  n : Nat
  k : IntKind
  x : Vector Int n
def Glob.at (gl : Glob) : At := .fl (.arr gl.n (.int gl.k)) gl.x
def Glob.cs (gl : Glob) : List Value := (flatT (.arr gl.n (.int gl.k))).cells gl.x
def Glob.ok (gl : Glob) (w : World) : Prop := w.heap[gl.b]? = some (.cells gl.cs.toArray gl.T (0, 0))
theorem Glob.kind (gl : Glob) : ∀ c ∈ gl.cs, isK gl.k c = true := by
  intro c hc
  simp only [Glob.cs, flatT, FA] at hc
  obtain ⟨y, _, hy⟩ := List.mem_flatMap.1 hc
  have : c = .int gl.k y := by simpa [FK] using hy
  subst this
  simp [isK]
theorem glob_apart {gl : Glob} {w : World} (h : gl.ok w) {v : Value} {n sz : Nat} {cs : List Value} (hr : Rds v n sz cs w) (hc : ∀ c ∈ cs, isK gl.k c = false) (hne : cs ≠ []) : addrOf v ≠ some gl.b := by
  obtain ⟨_, ao, c, rfl, _, _, _, hcell⟩ := hr
  obtain ⟨u, us, rfl⟩ := List.exists_cons_of_ne_nil hne
  obtain ⟨ad, rfl, hu⟩ := hcell 0 u rfl
  intro e
  simp only [addrOf, Option.some.injEq] at e
  have hblk : (ad.add 0).block = gl.b := by rw [add_block]; exact e
  unfold World.cell? at hu
  unfold Glob.ok at h
  rw [hblk, h] at hu
  simp only at hu
  split at hu
  · cases hu
  · have hm : u ∈ gl.cs := by
      rw [List.getElem?_toArray] at hu
      exact List.mem_of_getElem? hu
    have h1 := gl.kind u hm
    rw [hc u (List.mem_cons_self ..)] at h1
    cases h1
def globGo : List Glob → List (Nat × SV) × List Ob → List (Nat × SV) × List Ob
  | [], s => s
  | gl :: gs, s => globGo gs (s.1 ++ [(rG + gl.b, .v (.a (.ptr s.2.length 0)))], s.2 ++ [.box gl.T [gl.at]])
def startG (ds : List Dyn) (gs : List Glob) : St := ⟨(globGo gs (startGo ds 0 ([], []))).1, (globGo gs (startGo ds 0 ([], []))).2, [], .nil⟩
theorem globGo_eq : ∀ (gs : List Glob) (s : List (Nat × SV) × List Ob), globGo gs s = (s.1 ++ gs.zipIdx.map (fun p => (rG + p.1.b, .v (.a (.ptr (s.2.length + p.2) 0)))), s.2 ++ gs.map fun gl => .box gl.T [gl.at])
  | [], s => by simp [globGo]
  | gl :: gs, s => by
    rw [globGo, globGo_eq gs]
    simp only [List.length_append, List.length_singleton, List.append_assoc, List.cons_append, List.nil_append, List.map_cons, List.zipIdx_cons, Prod.mk.injEq, Nat.add_zero]
    refine ⟨?_, trivial⟩
    congr 2
    rw [Nat.zero_add, List.zipIdx_succ]
    simp only [List.map_map]
    apply List.map_congr_left
    intro p _
    simp only [Function.comp_apply, Prod.mk.injEq, SV.v.injEq, V1.a.injEq, At.ptr.injEq, and_true, true_and]
    omega
theorem start_goQ {w : World} {ds : List Dyn} {vs : List Value} (h : Args w ds vs) : ∃ g, Started w g vs (startGo ds 0 ([], [])) := by
  obtain ⟨g, hs⟩ := start_go ds vs 0 ([], []) [] env0 h ⟨rfl, rfl, (fun p hp => by cases hp), (fun p hp => by cases hp), (fun i ob hi => by simp at hi)⟩ rfl
  exact ⟨g, by simpa using hs⟩
theorem start_len : ∀ (ds : List Dyn) (i : Nat) (s : List (Nat × SV) × List Ob), (startGo ds i s).1.length = s.1.length + ds.length
  | [], i, s => by simp [startGo]
  | d :: ds, i, s => by rw [startGo, start_len ds]; simp; omega
/-- What a law's arguments are told of is of their own types. -/
theorem started_clean {k : IntKind} : ∀ (ds : List Dyn) (i : Nat) (s : List (Nat × SV) × List Ob), (∀ d ∈ ds, noK k d.1 = true) → (∀ ob ∈ s.2, ∃ e u xs, ob = .row e u xs .lent false ∧ noK k u = true) →
    ∀ ob ∈ (startGo ds i s).2, ∃ e u xs, ob = .row e u xs .lent false ∧ noK k u = true
  | [], i, s, _, h => h
  | d :: ds, i, s, hd, h => by
    refine started_clean ds (i + 1) _ (fun d' hd' => hd d' (List.mem_cons_of_mem _ hd')) (fun ob hob => ?_)
    rcases List.mem_append.1 hob with hob | hob
    · exact h ob hob
    · have hk := hd d (List.mem_cons_self ..)
      revert hob
      generalize s.2.length = n
      obtain ⟨u, x⟩ := d
      have key : ∀ (u : Ty) (x : u.den) (n : Nat), noK k u = true → ob ∈ (unpk .lent u x n).2 → ∃ e t xs, ob = .row e t xs .lent false ∧ noK k t = true := by
        intro u
        induction u with
        | pair a b iha ihb =>
          intro x n hk hob
          simp only [noK, Bool.and_eq_true] at hk
          simp only [unpk] at hob
          rcases List.mem_append.1 hob with hob | hob
          · exact iha _ _ hk.1 hob
          · exact ihb _ _ hk.2 hob
        | sl e t _ =>
          intro x n hk hob
          simp only [unpk, List.mem_singleton] at hob
          exact ⟨e, t, x, hob, hk⟩
        | int k' => intro x n hk hob; simp [unpk] at hob
        | bool => intro x n hk hob; simp [unpk] at hob
        | str => intro x n hk hob; simp [unpk] at hob
        | unit => intro x n hk hob; simp [unpk] at hob
        | arr m t _ => intro x n hk hob; simp [unpk] at hob
      exact key u x n hk
def envG (g0 : Env) (n : Nat) (gs : List Glob) : Env := fun i => if i < n then g0 i else match gs[i - n]? with
  | some gl => ⟨.nilFunc, rfl, gl.b, [], []⟩
  | none => g0 i
theorem start_okG {w : World} {ds : List Dyn} {vs : List Value} {gs : List Glob} (h : Args w ds vs) (hg : ∀ gl ∈ gs, gl.ok w) (hn : (gs.map (·.b)).Nodup) (hk : ∀ gl ∈ gs, ∀ d ∈ ds, noK gl.k d.1 = true) :
    ∃ g, ((startG ds gs).slots.take ds.length).map (fun p => encS g p.2) = vs ∧ (startG ds gs).slots.map (·.1) = List.range ds.length ++ (gs.map (·.b)).map (rG + ·) ∧ (∀ p ∈ (startG ds gs).slots.drop ds.length, encS g p.2 = .pointer (some ⟨p.1 - rG, 0, none⟩)) ∧
      Cal g (startG ds gs) ∧ Cx g (startG ds gs) w (fun b => b ∈ gs.map (·.b)) (fun _ => True) w ∧
      (∀ b ∈ gs.map (·.b), ∃ i gl, i < (startG ds gs).obs.length ∧ gl ∈ gs ∧ gl.b = b ∧ (startG ds gs).ob i = .box gl.T [gl.at] ∧ (g i).b = b) := by
  obtain ⟨g0, hs⟩ := start_goQ h
  obtain ⟨s, hse⟩ : ∃ s, s = startGo ds 0 ([], []) := ⟨_, rfl⟩
  rw [← hse] at hs
  have hl1 : s.1.length = ds.length := by rw [hse, start_len]; simp
  have eS : startG ds gs = ⟨s.1 ++ gs.zipIdx.map (fun p => (rG + p.1.b, .v (.a (.ptr (s.2.length + p.2) 0)))), s.2 ++ gs.map (fun gl => .box gl.T [gl.at]), [], .nil⟩ := by
    unfold startG; rw [← hse, globGo_eq]
  rw [eS]
  obtain ⟨g, hge⟩ : ∃ g : Env, g = envG g0 s.2.length gs := ⟨_, rfl⟩
  have glt : ∀ i, i < s.2.length → g i = g0 i := fun i hi => by rw [hge]; simp [envG, hi]
  have gge : ∀ j gl, gs[j]? = some gl → (g (s.2.length + j)).b = gl.b := fun j gl hj => by
    rw [hge]; unfold envG; rw [if_neg (by omega), Nat.add_sub_cancel_left, hj]
  have obs : ∀ i, (⟨s.1 ++ gs.zipIdx.map (fun p => (rG + p.1.b, .v (.a (.ptr (s.2.length + p.2) 0)))), s.2 ++ gs.map (fun gl => .box gl.T [gl.at]), [], .nil⟩ : St).ob i =
      if i < s.2.length then s.2.getD i .gone else ((gs[i - s.2.length]?).map fun gl => Ob.box gl.T [gl.at]).getD .gone := by
    intro i
    simp only [St.ob, List.getD_eq_getElem?_getD]
    split
    · rename_i hi; rw [List.getElem?_append_left hi]
    · rename_i hi; rw [List.getElem?_append_right (by omega), List.getElem?_map]
  have low : ∀ i, i < s.2.length → ∃ e u xs, s.2.getD i .gone = .row e u xs .lent false ∧ obP g i (.row e u xs .lent false) ∧ ∀ f ∈ (⟨(g i).v, xs.length, u.sz, (g i).cs⟩ :: (g i).fs : List Fact), Rds f.v f.n f.sz f.cs w := by
    intro i hi
    obtain ⟨ob, hob⟩ : ∃ ob, s.2[i]? = some ob := ⟨s.2[i], List.getElem?_eq_getElem hi⟩
    obtain ⟨h1, e, u, xs, rfl, h2⟩ := hs.ob i ob hob
    refine ⟨e, u, xs, by rw [List.getD_eq_getElem?_getD, hob]; rfl, obP_ext (glt i hi) h1, ?_⟩
    rw [glt i hi]; exact h2
  have boxes : ∀ i ob, ¬ i < s.2.length → ((gs[i - s.2.length]?).map fun gl => Ob.box gl.T [gl.at]).getD .gone = ob → ob = .gone ∨ ∃ gl, gs[i - s.2.length]? = some gl ∧ ob = .box gl.T [gl.at] := by
    intro i ob _ h
    cases hgl : gs[i - s.2.length]? with
    | none => rw [hgl] at h; exact .inl h.symm
    | some gl => rw [hgl] at h; exact .inr ⟨gl, rfl, h.symm⟩
  have entB : ∀ i gl, ¬ i < s.2.length → gs[i - s.2.length]? = some gl → entL g i (.box gl.T [gl.at]) = boxE false gl.b gl.T gl.cs := by
    intro i gl hi hgl
    have hb := gge (i - s.2.length) gl hgl
    rw [show s.2.length + (i - s.2.length) = i by omega] at hb
    simp only [entL, boxT, hb, encL, List.flatMap_cons, List.flatMap_nil, List.append_nil]
    rfl
  refine ⟨g, ?_, ?_, ?_, ⟨fun i => ?_, fun p hp => ?_, fun p hp o ho => ?_, fun i T ls hi => ?_⟩, ⟨Fr.refl _ _, fun i => ?_, fun i => ?_, fun i b hb => ?_, fun i j hij b hb hb2 => ?_, fun i j b hb hb2 => ?_, fun i _ b _ => .inl trivial⟩, ?_⟩
  · simp only
    rw [List.take_left' hl1, ← hs.enc]
    apply List.map_congr_left
    intro p hp
    exact encS_ext _ (fun o ho => glt o (hs.rs p hp o ho))
  · simp only [List.map_append, hs.keys, hl1, List.map_map]
    congr 1
    apply List.ext_getElem?
    intro i
    simp only [List.getElem?_map, List.getElem?_zipIdx]
    cases gs[i]? <;> rfl
  · simp only
    rw [List.drop_left' hl1]
    intro p hp
    obtain ⟨⟨gl, j⟩, hq, rfl⟩ := List.mem_map.1 hp
    have hj := List.mem_zipIdx_iff_getElem?.1 hq
    have := gge j gl hj
    have e : rG + gl.b - rG = gl.b := by generalize rG = r; omega
    simp only [encS, encV, val1, this, e]
  · rw [obs]
    split
    · rename_i hi
      obtain ⟨e, u, xs, h1, h2, _⟩ := low i hi
      rw [h1]; exact h2
    · rename_i hi
      rcases boxes i _ hi rfl with h | ⟨gl, _, h⟩
      · rw [h]; trivial
      · rw [h]; rfl
  · rcases List.mem_append.1 hp with hp | hp
    · exact hs.ok p hp
    · obtain ⟨⟨gl, j⟩, hq, rfl⟩ := List.mem_map.1 hp
      rfl
  · simp only [List.length_append, List.length_map]
    rcases List.mem_append.1 hp with hp | hp
    · have := hs.rs p hp o ho; omega
    · obtain ⟨⟨gl, j⟩, hq, rfl⟩ := List.mem_map.1 hp
      have hj := List.mem_zipIdx_iff_getElem?.1 hq
      have hlt := (List.getElem?_eq_some_iff.1 hj).1
      simp only [refS, refV, refA, List.mem_singleton] at ho
      subst ho
      simp only at hlt ⊢
      omega
  · rw [obs] at hi
    split at hi
    · rename_i hlt
      obtain ⟨e, u, xs, h1, _⟩ := low i hlt
      rw [h1] at hi; cases hi
    · rename_i hlt
      rcases boxes i _ hlt hi with h | ⟨gl, _, h⟩
      · cases h
      · simp only [Ob.box.injEq] at h
        obtain ⟨rfl, rfl⟩ := h
        intro o ho
        simp [refA, Glob.at] at ho
  · simp only [obs]
    split
    · rename_i hi
      obtain ⟨e, u, xs, h1, _⟩ := low i hi
      rw [h1]; trivial
    · rename_i hi
      rcases boxes i _ hi rfl with h | ⟨gl, hgl, h⟩
      · rw [h]; trivial
      · rw [h, entB i gl hi hgl]
        exact hg gl (List.mem_of_getElem? hgl)
  · simp only [obs]
    split
    · rename_i hi
      obtain ⟨e, u, xs, h1, _, h2⟩ := low i hi
      rw [h1]; exact h2
    · rename_i hi
      rcases boxes i _ hi rfl with h | ⟨gl, hgl, h⟩
      · rw [h]; trivial
      · rw [h]; trivial
  · simp only [obs] at hb
    split at hb
    · rename_i hi
      obtain ⟨e, u, xs, h1, _⟩ := low i hi
      rw [h1] at hb; exact hb.elim
    · rename_i hi
      rcases boxes i _ hi rfl with h | ⟨gl, hgl, h⟩
      · rw [h] at hb; exact hb.elim
      · rw [h, entB i gl hi hgl] at hb
        have hb : b = gl.b := hb
        exact .inl (by rw [hb]; exact List.mem_map.2 ⟨gl, List.mem_of_getElem? hgl, rfl⟩)
  · have dom : ∀ i, (entL g i ((⟨s.1 ++ gs.zipIdx.map (fun p => (rG + p.1.b, .v (.a (.ptr (s.2.length + p.2) 0)))), s.2 ++ gs.map (fun gl => .box gl.T [gl.at]), [], .nil⟩ : St).ob i)).dom b → ¬ i < s.2.length ∧ (gs[i - s.2.length]?).map (·.b) = some b := by
      intro i hb
      rw [obs] at hb
      split at hb
      · rename_i hi
        obtain ⟨e, u, xs, h1, _⟩ := low i hi
        rw [h1] at hb; exact hb.elim
      · rename_i hi
        rcases boxes i _ hi rfl with h | ⟨gl, hgl, h⟩
        · rw [h] at hb; exact hb.elim
        · rw [h, entB i gl hi hgl] at hb
          have hb : b = gl.b := hb
          exact ⟨hi, by rw [hgl, hb]; rfl⟩
    obtain ⟨h1, h2⟩ := dom i hb
    obtain ⟨h3, h4⟩ := dom j hb2
    rw [← List.getElem?_map] at h2 h4
    have hlt : i - s.2.length < (gs.map (·.b)).length := (List.getElem?_eq_some_iff.1 h2).1
    have := (List.getElem?_inj hlt hn).1 (h2.trans h4.symm)
    omega
  · simp only [obs] at hb hb2
    split at hb
    · rename_i hi
      obtain ⟨e, u, xs, h1, _⟩ := low i hi
      rw [h1] at hb; exact hb.elim
    · rename_i hi
      rcases boxes i _ hi rfl with h | ⟨gl, hgl, h⟩
      · rw [h] at hb; exact hb.elim
      · rw [h, entB i gl hi hgl] at hb
        have hb : b = gl.b := hb
        have hgm := List.mem_of_getElem? hgl
        split at hb2
        · rename_i hj
          obtain ⟨e, u, xs, h1, hobp, h2⟩ := low j hj
          rw [h1] at hb2
          obtain ⟨f, hf, hne, had⟩ := hb2
          have hin : Ob.row e u xs .lent false ∈ s.2 := by
            rw [← h1, List.getD_eq_getElem?_getD, List.getElem?_eq_getElem hj]
            exact List.getElem_mem hj
          have hku : noK gl.k u = true := by
            have := started_clean (k := gl.k) ds 0 ([], []) (hk gl hgm) (fun ob hob => (by cases hob)) (.row e u xs .lent false) (by rw [← hse]; exact hin)
            obtain ⟨e', u', xs', h5, h6⟩ := this
            cases h5
            exact h6
          have hrep : RepL (RepP u) xs (g j).cs (g j).fs := hobp.1
          obtain ⟨c1, c2⟩ := repL_clean (k := gl.k) (R := RepP u) (fun x cs F hr => rep_clean gl.k u x cs F hku hr) _ _ _ hrep
          have hcl : ∀ c ∈ f.cs, isK gl.k c = false := by
            rcases List.mem_cons.1 hf with rfl | hf'
            · exact c1
            · exact c2 f hf'
          exact glob_apart (hg gl hgm) (h2 f hf) hcl hne (by rw [had, hb])
        · rename_i hj
          rcases boxes j _ hj rfl with h5 | ⟨gl', _, h5⟩
          · rw [h5] at hb2; exact hb2.elim
          · rw [h5] at hb2; exact hb2.elim
  · intro b hb
    obtain ⟨gl, hgm, rfl⟩ := List.mem_map.1 hb
    obtain ⟨j, hj⟩ := List.getElem?_of_mem hgm
    have hlt := (List.getElem?_eq_some_iff.1 hj).1
    refine ⟨s.2.length + j, gl, by simp [List.length_append]; omega, hgm, rfl, ?_, gge j gl hj⟩
    rw [obs, if_neg (by omega), show s.2.length + j - s.2.length = j by omega, hj]
    rfl
theorem law_doneG {P : Program} {w : World} {f : Nat} {c : Con} {ds : List Dyn} {vs : List Value} {gs : List Glob} {k : Nat} {x : HL c.pat.codes} (hc : ConOk P c) (hfn : c.fn = f) (h : Args w ds vs) (hg : ∀ gl ∈ gs, gl.ok w) (hn : (gs.map (·.b)).Nodup) (hk : ∀ gl ∈ gs, ∀ d ∈ ds, noK gl.k d.1 = true)
    (hsh : ∀ b ∈ gs.map (·.b), b < shift) {y : DenL (c.out.map NSh.codes)}
    (hy : c.f k x = some y) (hp : patSt c.pat x = some (startG ds gs)) (hout : c.out = [⟨[(rB, .v (.a (.fl .bool)))], [], []⟩]) (hel : ∀ (R : Type) (q : Nat → List Dyn → R), elimL (c.out.map NSh.codes) y q = q 0 [⟨.bool, true⟩]) :
    Calls P f vs.toArray w (fun e w' => ∃ v, e = .returned v ∧ v = .bool true ∧ Fr nob w w') := by
  obtain ⟨g, h1, h2, h2b, h3, h4, h5⟩ := start_okG h hg hn hk
  have key := hc k x y (startG ds gs) ds.length (gs.map (·.b)) hy hp h2 hsh g w _ (fun _ => True) h3 h4 h2b
  rw [h1, hfn] at key
  refine Calls.mono key ?_
  rintro e w' ⟨v, rfl, i, es, s, N, r, g', q1, q2, q3, q4, q5, q6, q7, q8, q9, q10⟩
  have e0 := q1 (Nat × List Dyn) (fun i ds => (i, ds))
  rw [hel] at e0
  simp only [Prod.mk.injEq] at e0
  obtain ⟨rfl, rfl⟩ := e0
  rw [hout] at q2
  simp only [List.getElem?_cons_zero, Option.some.injEq] at q2
  subst q2
  have q3' : fiN ⟨[(rB, .v (.a (.fl .bool)))], [], []⟩ [⟨.bool, true⟩] = some N := q3
  have hN : fiN ⟨[(rB, .v (.a (.fl .bool)))], [], []⟩ [⟨.bool, true⟩] = some ⟨[(rB, .v (.a (.fl .bool true)))], [], []⟩ := by rfl
  rw [hN] at q3'
  cases q3'
  simp only [Go.Proofs.YtinhfigjddpdhaaDoor.results, Option.some.injEq] at q4
  subst q4
  refine ⟨_, rfl, q5, ?_⟩
  have fr := q9.fr
  refine ⟨fr.os, fr.tape, fr.output, fr.size, fun b hb _ => ?_⟩
  by_cases hbg : b ∈ gs.map (·.b)
  · obtain ⟨i, gl, hi, hgm, hglb, hob, hgb⟩ := h5 b hbg
    obtain ⟨k1, k2⟩ := q10.same i hi (fun hx => by cases hx)
    have hok := q9.okL i
    have k1' : (afterS (startG ds gs) ⟨[(rB, .v (.a (.fl .bool true)))], [], []⟩).ob i = .box gl.T [gl.at] := (k1.trans hob)
    simp only [k1', entL, boxT, k2, hgb] at hok
    have hok : w'.heap[b]? = some (.cells (encL g' [gl.at]).toArray gl.T (0, 0)) := hok
    have hen : encL g' [gl.at] = gl.cs := by simp [encL, encA, Glob.at, Glob.cs]
    rw [hok, hen, ← hglb]
    exact (hg gl hgm).symm
  · exact fr.block b hb hbg
theorem allK {gs : List Glob} {ds : List Dyn} (h : ((gs.map (·.k)).all fun k => (ds.map (·.1)).all (noK k)) = true) : ∀ gl ∈ gs, ∀ d ∈ ds, noK gl.k d.1 = true := by
  intro gl hgl d hd
  have h1 := List.all_eq_true.1 h gl.k (List.mem_map.2 ⟨gl, hgl, rfl⟩)
  exact List.all_eq_true.1 h1 d.1 (List.mem_map.2 ⟨d, hd, rfl⟩)
/-- A laid variable, where it lies. -/
theorem glob_ok {P : Program} {W : World} {gl : Glob} {name : String} (hsh : W.ShapedOpen P) (hg : P.globalNamed name = some gl.b) (hz : (((begin P (fun _ _ => 0) default).world.heap[gl.b]?).bind Obj.row?).map (·.2) = some gl.T)
    (hlt : gl.b < P.globals.size) (htab : Lib.TabIs P W name gl.k gl.x.toList) : gl.ok W := by
  obtain ⟨⟨zero, T⟩, h1, h2⟩ := Option.map_eq_some_iff.1 hz
  simp only at h2
  subst h2
  obtain ⟨cs, h3, _⟩ := hsh.1 gl.b zero _ hlt h1
  unfold Lib.TabIs at htab
  have hvar : W.var? P name = some cs := by
    unfold World.var?
    rw [hg]
    simp only [Option.bind_some, h3]
  rw [hvar] at htab
  have hcs : cs = gl.cs.toArray := by
    rw [Option.some.inj htab]
    congr 1
    simp only [Glob.cs, flatT, FA, arL_eq, FK]
    induction gl.x.toList with
    | nil => rfl
    | cons a l ih => simp [ih]
  unfold Glob.ok
  rw [h3, hcs]
section
variable {H : Type} {enc : TypeId × Value → H}
theorem returns_shaped {a : Assume} {C : Checked} {os : Os} {f : FuncId} {fn : Func} {s : ChangeSpec} {conds : List PathCond} {apart fresh handsOn again : Bool} {X : World → Array Value → Prop}
    (hX : ∀ (w w' : World) (args : Array Value), w.heap = w'.heap → X w args → X w' args)
    (own : ownKnob C.prog.godebug = none) (started : os.Started) (noInit : C.prog.inits.idxOf? f = none) (hfn : C.prog.funcs[f]? = some fn)
    (witness : ∃ (w : World) (tape : Tape) (i : Input), w.os = os ∧ (w.forCall tape i).Shaped C.prog ∧ i.vars = [] ∧ Input.okWide C.prog (w.forCall tape i) .any w.heap.size f i ∧
      ((s.pre enc C.prog fn conds apart (w.forCall tape i).memory i.args ∧ X (w.forCall tape i).memory i.args) ∧ sizedMet enc C.prog fn (OpenSpec.ofChange s) apart (w.forCall tape i).memory i.args) ∧ a.holds C.prog (lone (Frame.enter C.prog f i.args .normal) [] (w.forCall tape i)))
    (contract : ∀ (W : World) (base : Nat) (args : Array Value) (ds gs : List (DataW H)) (before : List MemPlace),
      (∀ (j : Nat) t v, fn.params[j]? = some t → args[j]? = some v → Value.okWide C.prog W .any base t v) →
      DataW.Whole enc C.prog fn.params.toList s.vars apart W args.toList ds gs before → X W args → W.ShapedOpen C.prog →
      Calls C.prog f args W fun e W' => ∃ v, e = .returned v ∧ s.post enc C.prog fn apart fresh handsOn again W args v W') :
    ReturnsInHanded a C os f .any (fun w args => (s.pre enc C.prog fn conds apart w args ∧ X w args) ∧ sizedMet enc C.prog fn (OpenSpec.ofChange s) apart w args) (s.post enc C.prog fn apart fresh handsOn again) := by
  refine returnsInHanded_of_calls own started noInit witness ?_
  intro w tape i _ hshape _ hok hpre hholds
  obtain ⟨_, _, _, fn', hfn', _, _, _, _, hval⟩ := hok
  have e : fn' = fn := Option.some.inj (hfn'.symm.trans hfn)
  subst e
  obtain ⟨⟨⟨ds, gs, before, hw, hc⟩, hx⟩, hz⟩ := hpre
  have hw' := DataW.Whole.of_heap (w' := w.forCall tape i) (by rfl) hw
  refine (contract (w.forCall tape i) w.heap.size i.args ds gs before hval hw' (hX _ _ _ (by rfl) hx) hshape).mono fun e W' ⟨v, he, hp⟩ => ?_
  subst he
  exact ChangeSpec.post_blind hp
end
end Go.Proofs.YtinhfigjddpdhaaDoor
/- The variables of the package that are laid. No condition. -/
namespace Go.Proofs.YtinhfigjddpdhaaDoor
open Go
def vgl_sha_keys : Vector Int 64 := ⟨#[1116352408, 1899447441, 3049323471, 3921009573, 961987163, 1508970993, 2453635748, 2870763221, 3624381080, 310598401, 607225278, 1426881987, 1925078388, 2162078206, 2614888103, 3248222580, 3835390401, 4022224774, 264347078, 604807628, 770255983, 1249150122, 1555081692, 1996064986, 2554220882, 2821834349, 2952996808, 3210313671, 3336571891, 3584528711, 113926993, 338241895, 666307205, 773529912, 1294757372, 1396182291, 1695183700, 1986661051, 2177026350, 2456956037, 2730485921, 2820302411, 3259730800, 3345764771, 3516065817, 3600352804, 4094571909, 275423344, 430227734, 506948616, 659060556, 883997877, 958139571, 1322822218, 1537002063, 1747873779, 1955562222, 2024104815, 2227730452, 2361852424, 2428436474, 2756734187, 3204031479, 3329325298], rfl⟩
def gl_sha_keys : Glob := ⟨0, 74, 64, .u32, vgl_sha_keys⟩
end Go.Proofs.YtinhfigjddpdhaaDoor
/- Plain facts about what walks compute with. No condition. -/
set_option linter.unusedVariables false
set_option linter.unusedSimpArgs false
namespace Go.Proofs.YtinhfigjddpdhaaDoor
open Go
theorem wk_i64 {x : Int} (h1 : -9223372036854775808 ≤ x) (h2 : x ≤ 9223372036854775807) : WK .i64 x = x := wrap_i64 h1 h2
theorem wk_u64 {x : Int} (h1 : 0 ≤ x) (h2 : x ≤ 18446744073709551615) : WK .u64 x = x := by
  simp only [WK, IntKind.wrap, IntKind.bits, IntKind.signed]; simp; omega
theorem wk_u8 {x : Int} (h1 : 0 ≤ x) (h2 : x ≤ 255) : WK .u8 x = x := by
  simp only [WK, IntKind.wrap, IntKind.bits, IntKind.signed]; simp; omega
theorem wk_u8_mod (x : Int) : WK .u8 x = x % 256 := by
  simp only [WK, IntKind.wrap, IntKind.bits, IntKind.signed]; simp
theorem wk_u32_mod (x : Int) : WK .u32 x = x % 4294967296 := by
  simp only [WK, IntKind.wrap, IntKind.bits, IntKind.signed]; simp
theorem wk_u64_mod (x : Int) : WK .u64 x = x % 18446744073709551616 := by
  simp only [WK, IntKind.wrap, IntKind.bits, IntKind.signed]; simp
@[simp] theorem condO_true {α : Type} (x y : Option α) : condO true x y = x := rfl
@[simp] theorem condO_false {α : Type} (x y : Option α) : condO false x y = y := rfl
theorem condO_ite {α : Type} (b : Bool) (x y : Option α) : condO b x y = if b = true then x else y := by cases b <;> rfl
theorem condO_eq {α : Type} {b : Bool} {x y z : Option α} (h1 : b = true → x = z) (h2 : b = false → y = z) : condO b x y = z := by cases b <;> simp_all
@[simp] theorem caseS_inl {α β R : Type} (a : α) (f : α → R) (g : β → R) : caseS (.inl a) f g = f a := rfl
@[simp] theorem caseS_inr {α β R : Type} (b : β) (f : α → R) (g : β → R) : caseS (.inr b) f g = g b := rfl
theorem condO_app {α β : Type} (f : α → β) {b : Bool} {x y z : α} (h : condO b (some x) (some y) = some z) : condO b (some (f x)) (some (f y)) = some (f z) := by
  cases b <;> simp only [condO_true, condO_false, Option.some.injEq] at h ⊢ <;> rw [h]
theorem bind_of {α β : Type} {o : Option α} {f : α → Option β} {a : α} {r : Option β} (h : o = some a) (hf : f a = r) : o.bind f = r := by rw [h]; exact hf
/-! ### numbers told -/
theorem ieq_f {a b : Int} (h : a ≠ b) : ieq a b = false := by simpa using h
theorem ieq_t {a b : Int} (h : a = b) : ieq a b = true := by simpa using h
theorem ine_f {a b : Int} (h : a = b) : ine a b = false := by simpa using h
theorem ine_t {a b : Int} (h : a ≠ b) : ine a b = true := by simpa using h
theorem ilt_t {a b : Int} (h : a < b) : ilt a b = true := by simpa using h
theorem ilt_f {a b : Int} (h : b ≤ a) : ilt a b = false := by simpa using h
theorem ile_t {a b : Int} (h : a ≤ b) : ile a b = true := by simpa using h
theorem ile_f {a b : Int} (h : b < a) : ile a b = false := by simpa using h
theorem igt_t {a b : Int} (h : b < a) : igt a b = true := by simpa using h
theorem igt_f {a b : Int} (h : a ≤ b) : igt a b = false := by simpa using h
theorem ige_t {a b : Int} (h : b ≤ a) : ige a b = true := by simpa using h
theorem ige_f {a b : Int} (h : a < b) : ige a b = false := by simpa using h
/-! ### texts -/
theorem sEq_iff {a b : ByteArray} : sEq a b = true ↔ a = b := by
  unfold sEq
  constructor
  · intro h
    have h : a.data.toList = b.data.toList := by simpa using h
    exact Go.WideShapes.bytes_inj h
  · rintro rfl; simp
theorem sEq_self (a : ByteArray) : sEq a a = true := sEq_iff.2 rfl
theorem sEq_dec (a b : ByteArray) : sEq a b = decide (a.data.toList = b.data.toList) := by
  unfold sEq
  rw [Bool.eq_iff_iff]
  simp
theorem bytes_ext {a b : ByteArray} (h : a.data.toList = b.data.toList) : a = b := Go.WideShapes.bytes_inj h
@[simp] theorem size_strOfNums (l : List Int) : (strOfNums l).size = l.length := by simp [strOfNums, ByteArray.size]
@[simp] theorem size_app (a b : ByteArray) : (a ++ b).size = a.size + b.size := by simp
@[simp] theorem data_app (a b : ByteArray) : (a ++ b).data.toList = a.data.toList ++ b.data.toList := by simp
/-! ### lists -/
theorem at_get {t : Ty} {l : List t.den} {i : Int} (h0 : 0 ≤ i) (h1 : i < l.length) : at_ t l i = l[i.toNat]'(by omega) := by
  unfold at_
  rw [List.getD_eq_getElem?_getD, List.getElem?_eq_getElem (by omega)]
  rfl
theorem at_nat {t : Ty} {l : List t.den} {n : Nat} (h : n < l.length) : at_ t l (n : Int) = l[n] := by
  rw [at_get (by omega) (by omega)]
  congr 1
/-! ### loops -/
/-- A loop, by a measure and an invariant. -/
theorem loopK_inv {H E : Type} {step : H → Option (H ⊕ E)} (I : Nat → H → Prop) (Q : E → Prop)
    (hs : ∀ n h, I n h → (∃ h' m, step h = some (.inl h') ∧ m < n ∧ I m h') ∨ (∃ e, step h = some (.inr e) ∧ Q e)) : ∀ (n : Nat) (h : H), I n h → ∀ k, n < k → ∃ e, loopK k step h = some e ∧ Q e := by
  intro n
  induction n using Nat.strongRecOn with
  | _ n ih =>
    intro h hI k hk
    cases k with
    | zero => omega
    | succ k =>
      rcases hs n h hI with ⟨h', m, h1, h2, h3⟩ | ⟨e, h1, h2⟩
      · obtain ⟨e, he, hq⟩ := ih m h2 h' h3 k (by omega)
        exact ⟨e, by simp only [loopK, h1, Option.bind_some, caseS_inl]; exact he, hq⟩
      · exact ⟨e, by simp only [loopK, h1, Option.bind_some, caseS_inr], h2⟩
/-- A loop whose rounds are known. -/
theorem loopK_run {H E : Type} {step : H → Option (H ⊕ E)} (p : Nat → H) : ∀ (n : Nat) (e : E) (k : Nat), (∀ i < n, step (p i) = some (.inl (p (i + 1)))) → step (p n) = some (.inr e) → n < k → loopK k step (p 0) = some e := by
  intro n
  induction n generalizing p with
  | zero =>
    intro e k _ h2 hk
    cases k with
    | zero => omega
    | succ k => simp only [loopK, h2, Option.bind_some, caseS_inr]
  | succ n ih =>
    intro e k h1 h2 hk
    cases k with
    | zero => omega
    | succ k =>
      simp only [loopK, h1 0 (by omega), Option.bind_some, caseS_inl]
      exact ih (fun i => p (i + 1)) e k (fun i hi => h1 (i + 1) (by omega)) h2 (by omega)
/-- What a round may end with: another round with less to do, or the way out. -/
inductive Goes {H E : Type} (I : Nat → H → Prop) (Q : E → Prop) (n : Nat) : Option (H ⊕ E) → Prop
  | on {h' : H} (m : Nat) (lt : m < n) (i : I m h') : Goes I Q n (some (.inl h'))
  | out {e : E} (q : Q e) : Goes I Q n (some (.inr e))
theorem Goes.bind {H E S : Type} {I : Nat → H → Prop} {Q : E → Prop} {n : Nat} {o : Option S} {f : S → Option (H ⊕ E)} (P : S → Prop) (h : ∃ s, o = some s ∧ P s) (hf : ∀ s, P s → Goes I Q n (f s)) : Goes I Q n (o.bind f) := by
  obtain ⟨s, rfl, hp⟩ := h
  exact hf s hp
theorem loop_bind {H E R : Type} {step : H → Option (H ⊕ E)} {f : E → Option R} {r : Option R} {h0 : H} {k : Nat} (I : Nat → H → Prop) (Q : E → Prop) (n : Nat) (hk : n < k) (h : I n h0)
    (hs : ∀ n h, I n h → Goes I Q n (step h)) (hf : ∀ e, Q e → f e = r) : (loopK k step h0).bind f = r := by
  obtain ⟨e, he, hq⟩ := loopK_inv (step := step) I Q (fun n h hi => by
    have g := hs n h hi
    generalize step h = o at g ⊢
    cases g with
    | on m lt i => exact .inl ⟨_, m, rfl, lt, i⟩
    | out q => exact .inr ⟨_, rfl, q⟩) n h0 h k hk
  rw [he]
  exact hf e hq
theorem and_bound (x : Int) (m : Nat) (h : m < 4611686018427387904) : 0 ≤ andK .i64 x m ∧ andK .i64 x m ≤ m := by
  have e : (BitVec.ofInt IntKind.i64.bits x &&& BitVec.ofInt IntKind.i64.bits (m : Int)).toNat ≤ m := by
    rw [BitVec.toNat_and]
    refine Nat.le_trans Nat.and_le_right ?_
    rw [BitVec.toNat_ofInt]
    simp only [IntKind.bits]
    omega
  have w : andK .i64 x m = ((BitVec.ofInt IntKind.i64.bits x &&& BitVec.ofInt IntKind.i64.bits (m : Int)).toNat : Int) := wrap_i64 (by omega) (by omega)
  rw [w]
  omega
theorem iterL_congr {α H E : Type} {f g : H → α → Option (H ⊕ E)} : ∀ (l : List α) (h : H), (∀ h, ∀ a ∈ l, f h a = g h a) → iterL l f h = iterL l g h
  | [], h, _ => rfl
  | a :: l, h, hfg => by
    simp only [iterL]
    rw [hfg h a (List.mem_cons_self ..)]
    cases g h a with
    | none => rfl
    | some y => cases y with
      | inl h' => exact iterL_congr l h' (fun h b hb => hfg h b (List.mem_cons_of_mem _ hb))
      | inr e => rfl
theorem iterL_map {α β H E : Type} (q : β → α) (f : H → α → Option (H ⊕ E)) : ∀ (l : List β) (h : H), iterL (l.map q) f h = iterL l (fun h b => f h (q b)) h
  | [], h => rfl
  | b :: l, h => by
    simp only [List.map_cons, iterL]
    cases f h (q b) with
    | none => rfl
    | some y => cases y with
      | inl h' => exact iterL_map q f l h'
      | inr e => rfl
theorem foldL_map {α β H : Type} (q : β → α) (f : H → α → Option H) : ∀ (l : List β) (h : H), foldL (l.map q) f h = foldL l (fun h b => f h (q b)) h
  | [], h => rfl
  | b :: l, h => by
    simp only [List.map_cons, foldL]
    cases f h (q b) with
    | none => rfl
    | some y => exact foldL_map q f l y
theorem backL_snd {α : Type} (l : List α) : (backL l).map (·.2) = l.reverse := by
  simp [backL, List.map_reverse, List.map_map, Function.comp_def]
/-- Rounds that look at the elements alone. -/
theorem iterL_back {α H E : Type} (l : List α) (f : H → α → Option (H ⊕ E)) (h : H) : iterL (backL l) (fun h p => f h p.2) h = iterL l.reverse f h := by
  rw [← backL_snd, iterL_map]
theorem foldL_back {α H : Type} (l : List α) (f : H → α → Option H) (h : H) : foldL (backL l) (fun h p => f h p.2) h = foldL l.reverse f h := by
  rw [← backL_snd, foldL_map]
theorem foldL_pure {α H : Type} (f : H → α → H) : ∀ (l : List α) (h : H), foldL l (fun h a => some (f h a)) h = some (l.foldl f h)
  | [], h => rfl
  | a :: l, h => by simp only [foldL, Option.bind_some, List.foldl_cons]; exact foldL_pure f l (f h a)
end Go.Proofs.YtinhfigjddpdhaaDoor
/- Paths in trees: what the program's and the document's functions of numbers compute. No condition. -/
set_option linter.unusedVariables false
set_option linter.unusedSimpArgs false
namespace Go.Proofs.YtinhfigjddpdhaaDoor
open Go
/-- The greatest power of two below a number. -/
def sp (n : Nat) : Nat := 2 ^ Nat.log2 (n - 1)
theorem log2_le40 {n : Nat} (h0 : 2 ≤ n) (h : n ≤ 1099511627776) : Nat.log2 (n - 1) < 40 := by
  have h1 := Nat.log2_self_le (n := n - 1) (by omega)
  apply Nat.lt_of_not_le
  intro h2
  have := Nat.pow_le_pow_right (n := 2) (by omega) h2
  omega
theorem sp_spec {n : Nat} (h : 2 ≤ n) : sp n < n ∧ n ≤ 2 * sp n ∧ 1 ≤ sp n := by
  have h1 := Nat.log2_self_le (n := n - 1) (by omega)
  have h2 := Nat.lt_log2_self (n := n - 1)
  have h3 : 1 ≤ 2 ^ Nat.log2 (n - 1) := Nat.one_le_two_pow
  rw [Nat.pow_succ] at h2
  unfold sp
  omega
theorem sp_le {n d : Nat} (h : 2 ≤ n) (hd : n ≤ 2 ^ (d + 1)) : sp n ≤ 2 ^ d := by
  have h1 := (sp_spec h).1
  unfold sp at h1 ⊢
  apply Nat.pow_le_pow_right (by omega)
  apply Nat.le_of_lt_succ
  exact (Nat.pow_lt_pow_iff_right (a := 2) (by omega)).1 (Nat.lt_of_lt_of_le h1 hd)
theorem bitLen_log2 : ∀ x : Nat, x ≠ 0 → x < 2 ^ 64 → Lib.bitLen x = Nat.log2 x + 1 := by
  intro x
  induction x using Nat.strongRecOn with
  | _ x ih =>
    intro h0 h
    rw [Lib.bitLen_half x h0 h, Nat.log2_def]
    by_cases h2 : 2 ≤ x
    · rw [if_pos h2, ih (x / 2) (by omega) (by omega) (by omega)]
      omega
    · have : x = 1 := by omega
      subst this
      decide
theorem len_code (k : Nat) {n : Nat} (h0 : 2 ≤ n) (h : n ≤ 1099511627776) : bits_Len64 k (WK .u64 (WK .i64 ((n : Int) - 1))) = some ((Nat.log2 (n - 1) + 1 : Nat) : Int) := by
  rw [wk_i64 (by omega) (by omega), wk_u64 (by omega) (by omega)]
  show L_math_bits_Len64 k _ = _
  unfold L_math_bits_Len64
  rw [guardO_pos ⟨by omega, by omega⟩]
  have e : ((n : Int) - 1).toNat = n - 1 := by omega
  rw [e, bitLen_log2 (n - 1) (by omega) (by omega)]
theorem shl_pow (j : Nat) (h : j ≤ 62) : shlK .i64 1 (j : Int) = ((2 ^ j : Nat) : Int) := by
  unfold shlK
  have e : min (j : Int).toNat IntKind.i64.bits = j := by
    have : IntKind.i64.bits = 64 := rfl
    omega
  rw [e, Int.one_mul]
  have h1 : (2 : Nat) ^ j ≤ 2 ^ 62 := Nat.pow_le_pow_right (by omega) h
  have h2 : ((2 : Int) ^ j) = ((2 ^ j : Nat) : Int) := by simp
  rw [h2]
  have h3 : (2 : Nat) ^ 62 = 4611686018427387904 := by decide
  rw [h3] at h1
  generalize 2 ^ j = p at h1 ⊢
  exact wk_i64 (by omega) (by omega)
theorem sp_code {n : Nat} (h0 : 2 ≤ n) (h : n ≤ 1099511627776) : WK .i64 (((Nat.log2 (n - 1) + 1 : Nat) : Int) - 1) = ((Nat.log2 (n - 1) : Nat) : Int) ∧ shlK .i64 1 ((Nat.log2 (n - 1) : Nat) : Int) = ((sp n : Nat) : Int) := by
  have := log2_le40 h0 h
  refine ⟨?_, shl_pow _ (by omega)⟩
  rw [wk_i64 (by omega) (by omega)]
  omega
/-- The steps down from all n to the place m; w: to the part that ends behind m. -/
def stp (w : Bool) : Nat → Nat → Nat → List (Bool × Nat × Nat)
  | 0, _, _ => []
  | d + 1, m, n => if n < 2 ∨ (w = true ∧ m = n) then [] else if m < sp n ∨ (w = true ∧ m = sp n) then (false, sp n, m) :: stp w d m (sp n) else (true, n - sp n, m - sp n) :: stp w d (m - sp n) (n - sp n)
theorem stp_len (w : Bool) : ∀ d m n, (stp w d m n).length ≤ d
  | 0, _, _ => by simp [stp]
  | d + 1, m, n => by
    have h1 := stp_len w d m (sp n)
    have h2 := stp_len w d (m - sp n) (n - sp n)
    simp only [stp]
    split
    · simp
    · split <;> simp <;> omega
abbrev cst3 (p : Bool × Nat × Nat) : Bool × Int × Int := (p.1, (p.2.1 : Int), (p.2.2 : Int))
/-- Is it a place that there is? -/
def plc (w : Bool) (m n : Nat) : Prop := if w = true then 1 ≤ m ∧ m ≤ n else m < n
theorem stp_nil {w : Bool} {m n : Nat} (h : n < 2 ∨ (w = true ∧ m = n)) (d : Nat) : stp w d m n = [] := by
  cases d with
  | zero => rfl
  | succ d => simp only [stp, if_pos h]
theorem pow_le_two {n d : Nat} (h : 2 ≤ n) (hd : n ≤ 2 ^ d) : ∃ d', d = d' + 1 := by
  cases d with
  | zero => simp at hd; omega
  | succ d => exact ⟨d, rfl⟩
theorem plc_left {w : Bool} {m n : Nat} (hp : plc w m n) (b : m < sp n ∨ (w = true ∧ m = sp n)) : plc w m (sp n) := by
  unfold plc at *
  cases w
  · simp at b hp ⊢; exact b
  · simp at b hp ⊢; omega
theorem plc_right {w : Bool} {m n : Nat} (h2 : 2 ≤ n) (hp : plc w m n) (b : ¬ (m < sp n ∨ (w = true ∧ m = sp n))) : plc w (m - sp n) (n - sp n) := by
  have := sp_spec h2
  unfold plc at *
  cases w
  · simp at b hp ⊢; omega
  · simp at b hp ⊢; omega
theorem down_ok {w : Bool} {m n : Nat} (hp : plc w m n) (hn : n ≤ 1099511627776) : path_down 1000 ((m : Int), (n : Int), w) = some ((stp w 40 m n).map cst3) := by
  obtain ⟨L, hL⟩ : ∃ L, L = (stp w 40 m n).map cst3 := ⟨_, rfl⟩
  rw [← hL]
  unfold path_down
  refine loop_bind (fun d h => ∃ (m n : Nat) (out : List (Bool × Int × Int)), h = ((m : Int), (n : Int), out) ∧ n ≤ 2 ^ d ∧ n ≤ 1099511627776 ∧ plc w m n ∧ out.length + d ≤ 40 ∧ out ++ (stp w d m n).map cst3 = L) (fun e => e.2.2 = L) 40 (by omega) ⟨m, n, [], rfl, hn, hn, hp, by simp, by simp [hL]⟩ ?_ (fun e he => by rw [he])
  clear hL hp hn
  rintro d _ ⟨m, n, out, rfl, h1, h2, h3, h4, h5⟩
  dsimp only
  by_cases a : n < 2 ∨ (w = true ∧ m = n)
  · have e1 : (condO (ilt (n : Int) 2) (some (.inl ())) (condO w (condO (ieq (m : Int) (n : Int)) (some (.inl ())) (some (.inr (())))) (some (.inr (())))) : Option ((Unit) ⊕ (Unit))) = some (.inl ()) := by
      by_cases a1 : n < 2
      · rw [ilt_t (by omega), condO_true]
      · obtain ⟨rfl, rfl⟩ := a.resolve_left a1
        rw [ilt_f (by omega), condO_false, condO_true, ieq_t rfl, condO_true]
    rw [e1]
    simp only [Option.bind_some, caseS_inl]
    refine .out ?_
    rw [stp_nil a] at h5
    simpa using h5
  · have a1 : 2 ≤ n := by omega
    have e1 : (condO (ilt (n : Int) 2) (some (.inl ())) (condO w (condO (ieq (m : Int) (n : Int)) (some (.inl ())) (some (.inr (())))) (some (.inr (())))) : Option ((Unit) ⊕ (Unit))) = some (.inr ()) := by
      rw [ilt_f (by omega), condO_false]
      cases w
      · rfl
      · rw [condO_true, ieq_f (by simp at a; omega), condO_false]
    rw [e1]
    obtain ⟨d, rfl⟩ := pow_le_two a1 h1
    obtain ⟨s1, s2, s3⟩ := sp_spec a1
    have s4 := sp_le a1 h1
    simp only [Option.bind_some, caseS_inr, ilt_f (show (2 : Int) ≤ (n : Int) by omega), condO_false, len_code 1000 a1 h2, (sp_code a1 h2).1, (sp_code a1 h2).2]
    rw [guardO_pos (show nn ((Nat.log2 (n - 1) : Nat) : Int) by unfold nn; omega)]
    simp only [stp, if_neg a] at h5
    have ap : ∀ x : Bool × Int × Int, appOk out [x] 24 := fun x => by unfold appOk; simp; omega
    have r1 : WK .i64 ((m : Int) - (sp n : Nat)) = (m : Int) - (sp n : Nat) := wk_i64 (by unfold plc at h3; cases w <;> simp at h3 <;> omega) (by unfold plc at h3; cases w <;> simp at h3 <;> omega)
    have r2 : WK .i64 ((n : Int) - (sp n : Nat)) = ((n - sp n : Nat) : Int) := by rw [wk_i64 (by omega) (by omega)]; omega
    by_cases b : m < sp n ∨ (w = true ∧ m = sp n)
    · rw [if_pos b] at h5
      have key : Goes (fun d h => ∃ (m n : Nat) (out : List (Bool × Int × Int)), h = ((m : Int), (n : Int), out) ∧ n ≤ 2 ^ d ∧ n ≤ 1099511627776 ∧ plc w m n ∧ out.length + d ≤ 40 ∧ out ++ (stp w d m n).map cst3 = L) (fun e : Int × Int × List (Bool × Int × Int) => e.2.2 = L) (d + 1) (some (.inl ((m : Int), (sp n : Int), out ++ [(false, (sp n : Int), (m : Int))]))) :=
        .on d (by omega) ⟨m, sp n, _, rfl, s4, by omega, plc_left h3 b, by simp; omega, by simpa [cst3] using h5⟩
      by_cases b1 : m < sp n
      · rw [ilt_t (by omega), condO_true, guardO_pos (ap _)]
        exact key
      · obtain ⟨rfl, b2⟩ := b.resolve_left b1
        rw [ilt_f (by omega), condO_false, condO_true, ieq_t (by omega), condO_true, guardO_pos (ap _)]
        exact key
    · rw [if_neg b] at h5
      have hm : sp n ≤ m := by omega
      have r1' : WK .i64 ((m : Int) - (sp n : Nat)) = ((m - sp n : Nat) : Int) := by rw [r1]; omega
      have key : Goes (fun d h => ∃ (m n : Nat) (out : List (Bool × Int × Int)), h = ((m : Int), (n : Int), out) ∧ n ≤ 2 ^ d ∧ n ≤ 1099511627776 ∧ plc w m n ∧ out.length + d ≤ 40 ∧ out ++ (stp w d m n).map cst3 = L) (fun e : Int × Int × List (Bool × Int × Int) => e.2.2 = L) (d + 1) (some (.inl (((m - sp n : Nat) : Int), ((n - sp n : Nat) : Int), out ++ [(true, ((n - sp n : Nat) : Int), ((m - sp n : Nat) : Int))]))) :=
        .on d (by omega) ⟨m - sp n, n - sp n, _, rfl, by omega, by omega, plc_right a1 h3 b, by simp; omega, by simpa [cst3] using h5⟩
      rw [ilt_f (by omega), condO_false, r1', r2]
      cases w
      · rw [condO_false, guardO_pos (ap _)]
        exact key
      · rw [condO_true, ieq_f (by simp at b; omega), condO_false, guardO_pos (ap _)]
        exact key
theorem split_ok {n : Nat} (h : n ≤ 1099511627776) : ref09_Split 1000 (n : Int) = some (if n < 2 then 0 else ((sp n : Nat) : Int)) := by
  unfold ref09_Split
  by_cases a : n < 2
  · rw [ilt_t (by omega), condO_true, if_pos a]
  · rw [ilt_f (by omega), condO_false, if_neg a]
    have a1 : 2 ≤ n := by omega
    have hl := log2_le40 a1 h
    refine loop_bind (fun d h => ∃ i, h = ((2 ^ i : Nat) : Int) ∧ i + d = Nat.log2 (n - 1)) (fun e => e = ((sp n : Nat) : Int)) (Nat.log2 (n - 1)) (by omega) ⟨0, by simp, by simp⟩ ?_ (fun e he => by rw [he])
    rintro d _ ⟨i, rfl, hi⟩
    have g1 := Nat.log2_self_le (n := n - 1) (by omega)
    have g2 := Nat.lt_log2_self (n := n - 1)
    have e1 : WK .i64 ((n : Int) - 1) = ((n - 1 : Nat) : Int) := by rw [wk_i64 (by omega) (by omega)]; omega
    have e2 : Int.tdiv ((n - 1 : Nat) : Int) 2 = (((n - 1) / 2 : Nat) : Int) := rfl
    have hp : 2 ^ i ≤ 2 ^ Nat.log2 (n - 1) := Nat.pow_le_pow_right (by omega) (by omega)
    rw [guardO_pos (by decide), e1, e2, wk_i64 (x := (((n - 1) / 2 : Nat) : Int)) (by omega) (by omega)]
    cases d with
    | zero =>
      have : i = Nat.log2 (n - 1) := by omega
      subst this
      rw [Nat.pow_succ] at g2
      rw [ile_f (by omega), condO_false]
      exact .out rfl
    | succ d =>
      have hq : 2 ^ (i + 1) ≤ 2 ^ Nat.log2 (n - 1) := Nat.pow_le_pow_right (by omega) (by omega)
      rw [Nat.pow_succ] at hq
      rw [ile_t (by omega), condO_true]
      have e3 : WK .i64 (2 * ((2 ^ i : Nat) : Int)) = ((2 ^ (i + 1) : Nat) : Int) := by
        rw [wk_i64 (by omega) (by omega), Nat.pow_succ]; omega
      rw [e3]
      exact .on d (by omega) ⟨i + 1, rfl, by omega⟩
end Go.Proofs.YtinhfigjddpdhaaDoor
/- Paths in trees: lengths and sides. No condition. -/
set_option linter.unusedVariables false
set_option linter.unusedSimpArgs false
namespace Go.Proofs.YtinhfigjddpdhaaDoor
open Go
theorem fold_app {α β : Type} (f : α → β) (y : Nat) : ∀ (l : List α) (h : List β), (h.length + l.length) * y ≤ 140737488355328 → foldL l (fun h a => guardO (appOk h [f a] y) (some (h ++ [f a]))) h = some (h ++ l.map f)
  | [], h, _ => by simp [foldL]
  | a :: l, h, hb => by
    have e : appOk h [f a] y := by
      unfold appOk
      refine Nat.le_trans (Nat.mul_le_mul_right _ ?_) hb
      simp
    simp only [foldL]
    rw [guardO_pos e, Option.bind_some, fold_app f y l (h ++ [f a]) (by simpa [Nat.add_assoc, Nat.add_comm 1] using hb)]
    simp
theorem loop_bindE {H E R : Type} {step : H → Option (H ⊕ E)} {f : E → Option R} {P : R → Prop} {h0 : H} {k : Nat} (I : Nat → H → Prop) (Q : E → Prop) (n : Nat) (hk : n < k) (h : I n h0)
    (hs : ∀ n h, I n h → Goes I Q n (step h)) (hf : ∀ e, Q e → ∃ r, f e = some r ∧ P r) : ∃ r, (loopK k step h0).bind f = some r ∧ P r := by
  obtain ⟨e, he, hq⟩ := loopK_inv (step := step) I Q (fun n h hi => by
    have g := hs n h hi
    generalize step h = o at g ⊢
    cases g with
    | on m lt i => exact .inl ⟨_, m, rfl, lt, i⟩
    | out q => exact .inr ⟨_, rfl, q⟩) n h0 h k hk
  obtain ⟨r, h1, h2⟩ := hf e hq
  exact ⟨r, by rw [he]; exact h1, h2⟩
theorem long_ok {m n : Nat} (hp : m < n) (hn : n ≤ 1099511627776) : path_Long 1000 ((m : Int), (n : Int)) = some ((stp false 40 m n).length : Int) := by
  unfold path_Long
  simp only [ilt_f (show (0 : Int) ≤ (m : Int) by omega), ige_f (show (m : Int) < (n : Int) by omega), igt_f (show (n : Int) ≤ 1099511627776 by omega), condO_false, down_ok (w := false) (show plc false m n by simpa [plc] using hp) hn, Option.bind_some, llen, List.length_map]
theorem turns_ok {m n : Nat} (hp : m < n) (hn : n ≤ 1099511627776) : path_Turns 1000 ((m : Int), (n : Int)) = some ((stp false 40 m n).map (·.1)).reverse := by
  unfold path_Turns
  simp only [long_ok hp hn, Option.bind_some, ilt_f (show (0 : Int) ≤ ((stp false 40 m n).length : Int) by omega), condO_false, down_ok (w := false) (show plc false m n by simpa [plc] using hp) hn]
  have hl := stp_len false 40 m n
  refine bind_of ((foldL_back _ (fun (h : List Bool) (q : Bool × Int × Int) => guardO (appOk h [q.1] 1) (some (h ++ [q.1]))) _).trans (fold_app (fun q : Bool × Int × Int => q.1) 1 _ _ (by simp; omega))) ?_
  simp [List.map_reverse, cst3, Function.comp_def]
theorem rturns_ok {m n : Nat} (hp : m < n) (hn : n ≤ 1099511627776) : ref10_Turns 1000 ((m : Int), (n : Int)) = some ((stp false 40 m n).map (·.1)).reverse := by
  obtain ⟨L, hL⟩ : ∃ L, L = (stp false 40 m n).map (·.1) := ⟨_, rfl⟩
  have hl : L.length ≤ 40 := by rw [hL, List.length_map]; exact stp_len ..
  rw [← hL]
  unfold ref10_Turns
  dsimp only
  rw [ilt_f (show (0 : Int) ≤ (m : Int) by omega), ige_f (show (m : Int) < (n : Int) by omega), igt_f (show (n : Int) ≤ 1099511627776 by omega), condO_false, condO_false, condO_false]
  refine loop_bind (fun d h => ∃ (m n : Nat) (out : List Bool), h = ((m : Int), (n : Int), out) ∧ n ≤ 2 ^ d ∧ n ≤ 1099511627776 ∧ m < n ∧ out.length + d ≤ 40 ∧ out ++ (stp false d m n).map (·.1) = L) (fun e => e = L) 40 (by omega) ⟨m, n, [], rfl, hn, hn, hp, by simp, by simp [hL]⟩ ?_ ?_
  · clear hL hp hn
    rintro d _ ⟨m, n, out, rfl, h1, h2, h3, h4, h5⟩
    dsimp only
    by_cases a : n < 2
    · rw [igt_f (by omega), condO_false]
      refine .out ?_
      rw [stp_nil (.inl a)] at h5
      simpa using h5
    · have a1 : 2 ≤ n := by omega
      obtain ⟨d, rfl⟩ := pow_le_two a1 h1
      obtain ⟨s1, s2, s3⟩ := sp_spec a1
      have s4 := sp_le a1 h1
      rw [igt_t (by omega), condO_true, split_ok h2, if_neg a, Option.bind_some]
      have a2 : ¬ (n < 2 ∨ (false = true ∧ m = n)) := by simp; omega
      simp only [stp, if_neg a2] at h5
      have ap : ∀ x : Bool, appOk out [x] 1 := fun x => by unfold appOk; simp; omega
      by_cases b : m < sp n
      · rw [if_pos (Or.inl b)] at h5
        rw [ilt_t (by omega), condO_true, guardO_pos (ap _)]
        exact .on d (by omega) ⟨m, sp n, _, rfl, s4, by omega, b, by simp; omega, by simpa using h5⟩
      · rw [if_neg (show ¬ (m < sp n ∨ (false = true ∧ m = sp n)) by simp; omega)] at h5
        have r1 : WK .i64 ((m : Int) - (sp n : Nat)) = ((m - sp n : Nat) : Int) := by rw [wk_i64 (by omega) (by omega)]; omega
        have r2 : WK .i64 ((n : Int) - (sp n : Nat)) = ((n - sp n : Nat) : Int) := by rw [wk_i64 (by omega) (by omega)]; omega
        rw [ilt_f (by omega), condO_false, guardO_pos (ap _), r1, r2]
        exact .on d (by omega) ⟨m - sp n, n - sp n, _, rfl, by omega, by omega, by omega, by simp; omega, by simpa using h5⟩
  · intro e he
    subst he
    refine bind_of (?_ : loopK _ _ _ = some e.reverse) rfl
    rw [show ((WK .i64 (llen e - 1)), ([] : List Bool)) = (fun i : Nat => (((e.length : Int) - 1 - (i : Int)), e.reverse.take i)) 0 from by rw [wk_i64 (by unfold llen; omega) (by unfold llen; omega)]; simp]
    refine loopK_run (fun i : Nat => (((e.length : Int) - 1 - (i : Int)), e.reverse.take i)) e.length e.reverse 1000 (fun i hi => ?_) ?_ (by omega)
    · dsimp only
      have e1 : (e.length : Int) - 1 - (i : Int) = ((e.length - 1 - i : Nat) : Int) := by omega
      have e2 : WK .i64 ((e.length : Int) - 1 - (i : Int) - 1) = (e.length : Int) - 1 - ((i + 1 : Nat) : Int) := by rw [wk_i64 (by omega) (by omega)]; omega
      have ap : ∀ x : Bool, appOk (e.reverse.take i) [x] 1 := fun x => by unfold appOk; simp; omega
      rw [ige_t (by omega), condO_true, guardO_pos ⟨by omega, by unfold llen; omega⟩, guardO_pos (ap _), e2]
      have e3 : at_ .bool e ((e.length : Int) - 1 - (i : Int)) = e.reverse[i]'(by simpa using hi) := by
        rw [e1, at_nat (t := .bool) (by omega), List.getElem_reverse]
      rw [e3, List.take_add_one, List.getElem?_eq_getElem (by simpa using hi)]
      rfl
    · dsimp only
      rw [ige_f (by omega), condO_false, List.take_of_length_le (by simp)]
theorem turns_bad {a b : Int} (h : ¬ (0 ≤ a ∧ a < b ∧ b ≤ 1099511627776)) : path_Long 1000 (a, b) = some (-1) ∧ path_Turns 1000 (a, b) = some [] ∧ ref10_Turns 1000 (a, b) = some [] ∧ ref10_Long 1000 (a, b) = some (-1) := by
  have h1 : path_Long 1000 (a, b) = some (-1) := by
    unfold path_Long
    dsimp only
    by_cases h0 : a < 0
    · rw [ilt_t h0, condO_true]
    · rw [ilt_f (by omega), condO_false]
      by_cases h1 : b ≤ a
      · rw [ige_t h1, condO_true]
      · rw [ige_f (by omega), condO_false, igt_t (by omega), condO_true]
  refine ⟨h1, ?_, ?_, ?_⟩
  · unfold path_Turns
    simp only [h1, Option.bind_some, ilt_t (show (-1 : Int) < 0 by decide), condO_true]
  · unfold ref10_Turns
    dsimp only
    by_cases h0 : a < 0
    · rw [ilt_t h0, condO_true]
    · rw [ilt_f (by omega), condO_false]
      by_cases h1 : b ≤ a
      · rw [ige_t h1, condO_true]
      · rw [ige_f (by omega), condO_false, igt_t (by omega), condO_true]
  · unfold ref10_Long
    dsimp only
    by_cases h0 : a < 0
    · rw [ilt_t h0, condO_true]
    · rw [ilt_f (by omega), condO_false]
      by_cases h1 : b ≤ a
      · rw [ige_t h1, condO_true]
      · rw [ige_f (by omega), condO_false, igt_t (by omega), condO_true]
theorem rlong_ok' {m n : Nat} (hp : m < n) (hn : n ≤ 1099511627776) : ref10_Long 1000 ((m : Int), (n : Int)) = some ((stp false 40 m n).length : Int) := by
  unfold ref10_Long
  simp only [ilt_f (show (0 : Int) ≤ (m : Int) by omega), ige_f (show (m : Int) < (n : Int) by omega), igt_f (show (n : Int) ≤ 1099511627776 by omega), condO_false, rturns_ok hp hn, Option.bind_some, llen, List.length_reverse, List.length_map]
/-- Lengths and sides, for every two numbers. -/
theorem turns_same (a b : Int) : ∃ (L : List Bool) (r : Int), L.length ≤ 40 ∧ path_Turns 1000 (a, b) = some L ∧ ref10_Turns 1000 (a, b) = some L ∧ path_Long 1000 (a, b) = some r ∧ ref10_Long 1000 (a, b) = some r := by
  by_cases h : 0 ≤ a ∧ a < b ∧ b ≤ 1099511627776
  · obtain ⟨m, rfl⟩ : ∃ m : Nat, a = m := ⟨a.toNat, by omega⟩
    obtain ⟨n, rfl⟩ : ∃ n : Nat, b = n := ⟨b.toNat, by omega⟩
    have hp : m < n := by omega
    have hn : n ≤ 1099511627776 := by omega
    exact ⟨_, _, by simpa using stp_len false 40 m n, turns_ok hp hn, rturns_ok hp hn, long_ok hp hn, rlong_ok' hp hn⟩
  · obtain ⟨h1, h2, h3, h4⟩ := turns_bad h
    exact ⟨[], -1, by simp, h2, h3, h1, h4⟩
/-- Did a step go behind what was known? -/
theorem index_ok (l : List (Bool × Int × Int)) (hl : l.length ≤ 900) : ∃ r, slices_IndexFunc 1000 l = some r ∧ ige r 0 = l.any (·.1) := by
  unfold slices_IndexFunc
  refine loop_bindE (fun d h => ∃ i : Nat, h = (i : Int) ∧ i + d = l.length ∧ ∀ j (hj : j < l.length), j < i → (l[j]).1 = false) (fun e => match e with | .inl i => 0 ≤ i ∧ l.any (·.1) = true | .inr _ => l.any (·.1) = false) l.length (by omega) ⟨0, rfl, by omega, fun j _ h => by omega⟩ ?_ ?_
  · rintro d _ ⟨i, rfl, hi, hf⟩
    by_cases a : i < l.length
    · have e1 : at_ (.pair .bool (.pair (.int .i64) (.int .i64))) l (i : Int) = l[i] := at_nat (t := .pair .bool (.pair (.int .i64) (.int .i64))) a
      rw [ilt_t (show (i : Int) < llen l by unfold llen; omega), condO_true, guardO_pos ⟨by omega, by unfold llen; omega⟩]
      by_cases b : (l[i]).1 = true
      · have e2 : (at_ T4 l (i : Int)).1 = true := (congrArg (·.1) e1).trans b
        rw [e2, condO_true]
        exact .out ⟨by omega, List.any_eq_true.2 ⟨l[i], List.getElem_mem a, b⟩⟩
      · have b' : (l[i]).1 = false := by simpa using b
        have e2 : (at_ T4 l (i : Int)).1 = false := (congrArg (·.1) e1).trans b'
        rw [e2, condO_false, wk_i64 (by omega) (by omega)]
        exact .on (d - 1) (by omega) ⟨i + 1, by omega, by omega, fun j hj hlt => by
          rcases Nat.lt_or_ge j i with h | h
          · exact hf j hj h
          · obtain rfl : j = i := by omega
            exact b'⟩
    · rw [ilt_f (show llen l ≤ (i : Int) by unfold llen; omega), condO_false]
      refine .out ?_
      show l.any (·.1) = false
      rw [List.any_eq_false]
      intro x hx
      obtain ⟨j, hj, rfl⟩ := List.mem_iff_getElem.1 hx
      have := hf j hj (by omega)
      rw [this]
      decide
  · rintro (i | u) h
    · exact ⟨i, rfl, by rw [h.2]; exact ige_t h.1⟩
    · exact ⟨-1, rfl, by rw [show l.any (·.1) = false from h]; rfl⟩
theorem stp_left {w : Bool} {d m n : Nat} (a : ¬ (n < 2 ∨ (w = true ∧ m = n))) (b : m < sp n ∨ (w = true ∧ m = sp n)) : stp w (d + 1) m n = (false, sp n, m) :: stp w d m (sp n) := by
  rw [stp, if_neg a, if_pos b]
theorem stp_right {w : Bool} {d m n : Nat} (a : ¬ (n < 2 ∨ (w = true ∧ m = n))) (b : ¬ (m < sp n ∨ (w = true ∧ m = sp n))) : stp w (d + 1) m n = (true, n - sp n, m - sp n) :: stp w d (m - sp n) (n - sp n) := by
  rw [stp, if_neg a, if_neg b]
/-- How many links there are. -/
def lnk (m n : Nat) : Int := ((stp true 40 m n).length : Int) + if (stp true 40 m n).any (·.1) = true then 1 else 0
theorem links_ok {m n : Nat} (h0 : 1 ≤ m) (hp : m ≤ n) (hn : n ≤ 1099511627776) : path_LinksLong 1000 ((m : Int), (n : Int)) = some (lnk m n) := by
  unfold path_LinksLong
  have hl := stp_len true 40 m n
  obtain ⟨r, hr, hr2⟩ := index_ok ((stp true 40 m n).map cst3) (by simp; omega)
  have ha : ((stp true 40 m n).map cst3).any (·.1) = (stp true 40 m n).any (·.1) := by
    rw [List.any_map]; rfl
  rw [ha] at hr2
  simp only [ilt_f (show (1 : Int) ≤ (m : Int) by omega), igt_f (show (m : Int) ≤ (n : Int) by omega), igt_f (show (n : Int) ≤ 1099511627776 by omega), condO_false, down_ok (w := true) (show plc true m n from by simp [plc]; omega) hn, Option.bind_some, hr, hr2, llen, List.length_map]
  unfold lnk
  cases hb : (stp true 40 m n).any (·.1)
  · simp
  · rw [wk_i64 (by omega) (by omega)]; simp
theorem rlinks_ok {m n : Nat} (h0 : 1 ≤ m) (hp : m ≤ n) (hn : n ≤ 1099511627776) : ref10_LinksLong 1000 ((m : Int), (n : Int)) = some (lnk m n) := by
  obtain ⟨S, hS⟩ : ∃ S, S = stp true 40 m n := ⟨_, rfl⟩
  have hl : S.length ≤ 40 := by rw [hS]; exact stp_len ..
  unfold ref10_LinksLong lnk
  dsimp only
  rw [ilt_f (show (1 : Int) ≤ (m : Int) by omega), igt_f (show (m : Int) ≤ (n : Int) by omega), igt_f (show (n : Int) ≤ 1099511627776 by omega), condO_false, condO_false, condO_false, ← hS]
  refine loop_bind (fun d h => ∃ (m n c : Nat) (w : Bool), h = ((m : Int), (n : Int), (c : Int), w) ∧ n ≤ 2 ^ d ∧ n ≤ 1099511627776 ∧ 1 ≤ m ∧ m ≤ n ∧ c + (stp true d m n).length = S.length ∧ (w && !((stp true d m n).any (·.1))) = !(S.any (·.1))) (fun e => e = ((S.length : Int), !(S.any (·.1)))) 40 (by omega) ⟨m, n, 0, true, rfl, hn, hn, h0, hp, by simp [hS], by simp [hS]⟩ ?_ ?_
  · clear hS hp hn h0
    rintro d _ ⟨m, n, c, w, rfl, h1, h2, h3, h4, h5, h6⟩
    dsimp only
    by_cases a : m = n
    · subst a
      rw [ine_f rfl, condO_false]
      rw [stp_nil (.inr ⟨rfl, rfl⟩)] at h5 h6
      refine .out ?_
      have h5' : c = S.length := by simpa using h5
      rw [h5']
      congr 1
      simpa using h6
    · have a1 : 2 ≤ n := by omega
      obtain ⟨d, rfl⟩ := pow_le_two a1 h1
      obtain ⟨s1, s2, s3⟩ := sp_spec a1
      have s4 := sp_le a1 h1
      rw [ine_t (by omega), condO_true, split_ok h2, if_neg (by omega), Option.bind_some]
      have a2 : ¬ (n < 2 ∨ (true = true ∧ m = n)) := by simp; omega
      have ec : WK .i64 ((c : Int) + 1) = ((c + 1 : Nat) : Int) := by
        have : c ≤ S.length := by omega
        rw [wk_i64 (by omega) (by omega)]; omega
      by_cases b : m ≤ sp n
      · rw [stp_left a2 (show m < sp n ∨ (true = true ∧ m = sp n) by simp; omega)] at h5 h6
        rw [ile_t (by omega), condO_true, ec]
        exact .on d (by omega) ⟨m, sp n, c + 1, w, rfl, s4, by omega, h3, b, by simp at h5; omega, by simpa using h6⟩
      · rw [stp_right a2 (show ¬ (m < sp n ∨ (true = true ∧ m = sp n)) by simp; omega)] at h5 h6
        have r1 : WK .i64 ((m : Int) - (sp n : Nat)) = ((m - sp n : Nat) : Int) := by rw [wk_i64 (by omega) (by omega)]; omega
        have r2 : WK .i64 ((n : Int) - (sp n : Nat)) = ((n - sp n : Nat) : Int) := by rw [wk_i64 (by omega) (by omega)]; omega
        rw [ile_f (by omega), condO_false, ec, r1, r2]
        exact .on d (by omega) ⟨m - sp n, n - sp n, c + 1, false, rfl, by omega, by omega, by omega, by omega, by simp at h5; omega, by simpa using h6⟩
  · rintro e rfl
    dsimp only
    cases hb : S.any (·.1)
    · simp
    · simp only [Bool.not_true, Bool.not_false, condO_true, Option.bind_some, if_true]
      rw [wk_i64 (by omega) (by omega)]
theorem links_same (a b : Int) : ∃ r, path_LinksLong 1000 (a, b) = some r ∧ ref10_LinksLong 1000 (a, b) = some r := by
  by_cases h : 1 ≤ a ∧ a ≤ b ∧ b ≤ 1099511627776
  · obtain ⟨m, rfl⟩ : ∃ m : Nat, a = m := ⟨a.toNat, by omega⟩
    obtain ⟨n, rfl⟩ : ∃ n : Nat, b = n := ⟨b.toNat, by omega⟩
    exact ⟨_, links_ok (by omega) (by omega) (by omega), rlinks_ok (by omega) (by omega) (by omega)⟩
  · refine ⟨-1, ?_, ?_⟩
    · unfold path_LinksLong
      dsimp only
      by_cases h0 : a < 1
      · rw [ilt_t h0, condO_true]
      · rw [ilt_f (by omega), condO_false]
        by_cases h1 : b < a
        · rw [igt_t h1, condO_true]
        · rw [igt_f (by omega), condO_false, igt_t (by omega), condO_true]
    · unfold ref10_LinksLong
      dsimp only
      by_cases h0 : a < 1
      · rw [ilt_t h0, condO_true]
      · rw [ilt_f (by omega), condO_false]
        by_cases h1 : b < a
        · rw [igt_t h1, condO_true]
        · rw [igt_f (by omega), condO_false, igt_t (by omega), condO_true]
/-- A loop that compares a list with itself. -/
theorem awake_ok : law10_awake 1000 vgl_sha_keys = some true := by kernel_rfl
end Go.Proofs.YtinhfigjddpdhaaDoor
/- The plain law of PathBits. No condition. -/
set_option linter.unusedVariables false
set_option linter.unusedSimpArgs false
namespace Go.Proofs.YtinhfigjddpdhaaDoor
open Go
def PathBitsPure : Prop := ∀ (z0 : Ty.den (.int .i64)) (z1 : Ty.den (.int .i64)), wfT (.int .i64) z0 → wfT (.int .i64) z1 → ∃ k, law10_PathBits k (z0, z1, vgl_sha_keys) = some true
theorem stp_pow : ∀ (d j m : Nat), j ≤ d → m < 2 ^ j → ((stp false d m (2 ^ j)).map (·.1)).reverse = (List.range j).map (fun i => m.testBit i)
  | d, 0, m, _, hm => by
    rw [stp_nil (.inl (by simp))]
    rfl
  | 0, j + 1, m, h, _ => by omega
  | d + 1, j + 1, m, h, hm => by
    have h1 : 1 ≤ 2 ^ j := Nat.one_le_two_pow
    have e2 : 2 ^ (j + 1) = 2 * 2 ^ j := by rw [Nat.pow_succ, Nat.mul_comm]
    have es : sp (2 ^ (j + 1)) = 2 ^ j := by
      obtain ⟨a1, a2, a3⟩ := sp_spec (n := 2 ^ (j + 1)) (by omega)
      have a4 := sp_le (n := 2 ^ (j + 1)) (d := j) (by omega) (Nat.le_refl _)
      omega
    have a : ¬ (2 ^ (j + 1) < 2 ∨ (false = true ∧ m = 2 ^ (j + 1))) := by simp; omega
    have key : ∀ (b : Bool) (m' : Nat), m' < 2 ^ j → m = m' + (if b = true then 2 ^ j else 0) →
        ((((b, 2 ^ j, m') :: stp false d m' (2 ^ j)) : List (Bool × Nat × Nat)).map (·.1)).reverse = (List.range (j + 1)).map (fun i => m.testBit i) := by
      intro b m' hm' he
      rw [List.map_cons, List.reverse_cons, stp_pow d j m' (by omega) hm', List.range_succ, List.map_append]
      congr 1
      · apply List.map_congr_left
        intro i hi
        have hi := List.mem_range.1 hi
        rw [he]
        cases b
        · simp
        · simp only [if_true]
          rw [Nat.add_comm, Nat.testBit_two_pow_add_gt hi]
      · simp only [List.map_cons, List.map_nil, List.cons.injEq, and_true]
        rw [he]
        cases b
        · simp only [Bool.false_eq_true, if_false, Nat.add_zero]
          exact (Nat.testBit_lt_two_pow hm').symm
        · simp only [if_true]
          rw [Nat.add_comm, Nat.testBit_two_pow_add_eq, Nat.testBit_lt_two_pow hm']
          rfl
    by_cases b : m < 2 ^ j
    · rw [stp_left a (.inl (by rw [es]; exact b)), es]
      exact key false m b (by simp)
    · rw [stp_right a (by rw [es]; simp; omega), es, show 2 ^ (j + 1) - 2 ^ j = 2 ^ j by omega]
      exact key true (m - 2 ^ j) (by omega) (by simp; omega)
theorem and_one (x : Nat) (h : x < 4611686018427387904) : andK .i64 (x : Int) 1 = ((x % 2 : Nat) : Int) := by
  unfold andK
  have e : (BitVec.ofInt IntKind.i64.bits (x : Int) &&& BitVec.ofInt IntKind.i64.bits 1).toNat = x % 2 := by
    rw [BitVec.toNat_and, BitVec.toNat_ofInt, BitVec.toNat_ofInt]
    simp only [IntKind.bits]
    rw [show ((x : Int) % (2 ^ 64 : Nat)).toNat = x by omega, show ((1 : Int) % (2 ^ 64 : Nat)).toNat = 1 by decide]
    exact Nat.and_one_is_mod x
  rw [e]
  exact wk_i64 (by omega) (by omega)
theorem shr_nat (x i : Nat) (h : i ≤ 64) : shrK .i64 (x : Int) (i : Int) = ((x / 2 ^ i : Nat) : Int) := by
  unfold shrK
  have e : min (i : Int).toNat IntKind.i64.bits = i := by
    have : IntKind.i64.bits = 64 := rfl
    omega
  rw [e]
  have h2 : ((2 : Int) ^ i) = ((2 ^ i : Nat) : Int) := by simp
  rw [h2]
  exact Int.fdiv_eq_ediv_of_nonneg _ (Int.natCast_nonneg _)
theorem pathBits_law : PathBitsPure := by
  intro a b _ _
  refine ⟨1000, ?_⟩
  obtain ⟨j, hj, hj2⟩ : ∃ j : Nat, j ≤ 30 ∧ (condO (ilt (Int.tmod a 31) 0) (some ((WK .i64 (0 - (Int.tmod a 31))))) (some ((Int.tmod a 31))) : Option (Int)) = some (j : Int) := by
    have h1 : Int.tmod a 31 < 31 := Int.tmod_lt_of_pos a (by decide)
    have h2 : -31 < Int.tmod a 31 := by
      have := Int.lt_tmod_of_pos a (b := 31) (by decide)
      omega
    by_cases h : Int.tmod a 31 < 0
    · refine ⟨(0 - Int.tmod a 31).toNat, by omega, ?_⟩
      rw [ilt_t h, condO_true, wk_i64 (by omega) (by omega)]
      congr 1; omega
    · refine ⟨(Int.tmod a 31).toNat, by omega, ?_⟩
      rw [ilt_f (by omega), condO_false]
      congr 1; omega
  have hp : (2 : Nat) ^ j ≤ 2 ^ 30 := Nat.pow_le_pow_right (by omega) hj
  have h30 : (2 : Nat) ^ 30 = 1073741824 := by decide
  rw [h30] at hp
  have h1 : 1 ≤ 2 ^ j := Nat.one_le_two_pow
  have e1 : WK .u64 (j : Int) = (j : Int) := wk_u64 (by omega) (by omega)
  have e2 : shlK .i64 1 (j : Int) = ((2 ^ j : Nat) : Int) := shl_pow j (by omega)
  obtain ⟨n, hn⟩ : ∃ n, n = 2 ^ j := ⟨_, rfl⟩
  rw [← hn] at hp h1 e2
  have e3 : WK .i64 ((n : Int) - 1) = ((n - 1 : Nat) : Int) := by rw [wk_i64 (by omega) (by omega)]; omega
  obtain ⟨m, hm1, hm2⟩ : ∃ m : Nat, m < n ∧ andK .i64 b ((n - 1 : Nat) : Int) = (m : Int) := by
    obtain ⟨q1, q2⟩ := and_bound b (n - 1) (by omega)
    exact ⟨(andK .i64 b ((n - 1 : Nat) : Int)).toNat, by omega, by omega⟩
  have hL := stp_pow 40 j m (by omega) (by rw [← hn]; exact hm1)
  rw [← hn] at hL
  have ht := turns_ok hm1 (by omega : n ≤ 1099511627776)
  have hlg := long_ok hm1 (by omega : n ≤ 1099511627776)
  rw [hL] at ht
  have hlen : (stp false 40 m n).length = j := by
    have := congrArg List.length hL
    simpa using this
  rw [hlen] at hlg
  unfold law10_PathBits
  simp only [awake_ok, Option.bind_some]
  rw [guardO_pos (by decide), hj2, Option.bind_some, guardO_pos (show nn (WK .u64 (j : Int)) by rw [e1]; unfold nn; omega)]
  simp only [e1, e2, e3, hm2, ht, hlg, Option.bind_some, llen, List.length_map, List.length_range, ine_f (rfl : (j : Int) = (j : Int)), condO_false]
  refine bind_of (a := (Sum.inr () : Bool ⊕ Unit)) ?_ rfl
  refine loopK_run (fun i : Nat => (i : Int)) j _ 1000 (fun i hi => ?_) ?_ (by omega)
  · have hi' : (i : Int) < (j : Int) := by omega
    have p1 : 2 ^ i ≥ 1 := Nat.one_le_two_pow
    have q1 : WK .u64 (i : Int) = (i : Int) := wk_u64 (by omega) (by omega)
    have q2 : at_ .bool ((List.range j).map fun i => m.testBit i) (i : Int) = m.testBit i := by
      rw [at_nat (t := .bool) (by simpa using hi)]
      simp
    have q3 : ieq (andK .i64 (shrK .i64 (m : Int) (i : Int)) 1) 1 = m.testBit i := by
      have hle : m / 2 ^ i ≤ m := Nat.div_le_self ..
      rw [shr_nat m i (by omega), and_one _ (by omega), Nat.testBit_eq_decide_div_mod_eq]
      have : m / 2 ^ i % 2 = 0 ∨ m / 2 ^ i % 2 = 1 := by omega
      rcases this with h | h <;> rw [h] <;> decide
    rw [ilt_t hi', condO_true, guardO_pos ⟨by omega, hi'⟩, q1, guardO_pos (show nn (i : Int) by unfold nn; omega), q2, q3, wk_i64 (by omega) (by omega)]
    cases m.testBit i <;> rfl
  · rw [ilt_f (by omega), condO_false]
end Go.Proofs.YtinhfigjddpdhaaDoor
