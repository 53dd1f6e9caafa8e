/- Texts of the proof, put together: part 7. No condition. -/
import Derived.Test.YtindlajlkghneaaDoorT6
import Derived.Shelf.Strings.Builder1
import Derived.Shelf.Strings.Builder2
import Derived.Shelf.Strings.OnBuilder
import Derived.Shelf.Strings.BuilderF
import Derived.Shelf.Strings.BuilderK
import Derived.Shelf.Strings.Builder2Cap
import Derived.Shelf.Strconv.Itoa0
import Derived.Shelf.Strings.Prefix
import Derived.Shelf.Bits.Mul64
import Derived.Shelf.Strings.Repeat
import Derived.Shelf.Strings.BuilderCap
import Derived.Test.YtindlajlkghneaaDoorProg
/- Contracts of the library's functions: a row made anew, a row turned in place, a value told of rows. No condition. -/
set_option linter.unusedVariables false
set_option linter.unusedSimpArgs false
namespace Go.Proofs.YtindlajlkghneaaDoor
open Go
/-- Whatever in; a number, a text or an array out; memory as it was. -/
theorem con_libV {P : Program} {f : Nat} {pat : NSh} {t : Ty} {F : Nat → HL pat.codes → Option t.den} (hk : ∀ t ∈ pat.slots.map (·.1), t < rG)
    (h : ∀ k x y S g w, F k x = some y → patSt pat x = some S → Cal g S → (∀ i, (entL g i (S.ob i)).ok w) → (∀ i, (entR g i (S.ob i)).ok w) → Fn P f (S.slots.map fun p => encS g p.2) w (fun v w' => v = val1 env0 (.fl t y) ∧ Fr nob w w')) :
    ConOk P ⟨f, pat, [⟨[(rB, .v (.a (.fl t)))], [], []⟩], F⟩ := by
  refine con_plain hk ?_
  intro k x y S hrun hpat hkeys g w D A CAL C
  have hy : F k x = some y := hrun
  refine Calls.mono (h k x y S g w hy hpat CAL C.okL C.okR) ?_
  rintro e w' ⟨v, rfl, rfl, hfr⟩
  have hN : fiN ⟨[(rB, .v (.a (.fl t)))], [], []⟩ [⟨t, y⟩] = some ⟨[(rB, .v (.a (.fl t y)))], [], []⟩ := by
    have key : ∀ z : t.den, fiN ⟨[(rB, .v (.a (.fl t)))], [], []⟩ [⟨t, z⟩] = some ⟨[(rB, .v (.a (.fl t z)))], [], []⟩ := fun z => by
      have hc : castT (a := t) (b := t) z = some z := castT_self z
      simp only [fiN, fiList, fiP, fiS, fiV, fiA, hc, Option.map_some]
    exact key y
  refine ⟨_, rfl, 0, [⟨t, y⟩], _, _, .v (.a (.fl t y)), g, fun R q => rfl, rfl, hN, rfl, ?_, rfl, (fun o ho => by cases ho), ⟨fun i => ?_, fun p hp => ?_, fun p hp o ho => ?_, fun i T ls hi => ?_⟩, ?_, ?_⟩
  · cases t <;> rfl
  · have : (afterS S ⟨[(rB, .v (.a (.fl t y)))], [], []⟩).ob i = S.ob i := by simp [afterS, St.ob]
    rw [this]; exact CAL.ob i
  · simp only [afterS, List.mem_singleton] at hp; subst hp; rfl
  · simp only [afterS, List.mem_singleton] at hp; subst hp; cases ho
  · have : (afterS S ⟨[(rB, .v (.a (.fl t y)))], [], []⟩).ob i = S.ob i := by simp [afterS, St.ob]
    rw [this] at hi
    have := CAL.rb i T ls hi
    simpa [afterS] using this
  · have e : (fun i => entL g i ((afterS S ⟨[(rB, .v (.a (.fl t y)))], [], []⟩).ob i)) = fun i => entL g i (S.ob i) := by
      funext i; congr 1; simp [afterS, St.ob]
    have e' : (fun i => entR g i ((afterS S ⟨[(rB, .v (.a (.fl t y)))], [], []⟩).ob i)) = fun i => entR g i (S.ob i) := by
      funext i; congr 1; simp [afterS, St.ob]
    have := cf_still C hfr
    unfold Cx
    rw [e, e']
    exact this
  · refine ⟨by simp [afterS], fun i hi => ⟨rfl, rfl⟩, fun i hi hm => ⟨by simp [afterS, St.ob], rfl⟩, (fun i hi => by cases hi), fun t ht => absurd trivial ht, fun i hi e t xs m fu he => ⟨e, xs, m, fu, ?_, rfl⟩⟩
    rw [← he]; simp [afterS, St.ob]
theorem own_slice {w : World} {e sz n : Nat} {r : Value} {xs : List Value} (h : w.ownsRow 0 e sz r n xs) : ∃ ao cap, r = .slice ao n cap ∧ (ao = none → n = 0) := by
  rcases h.2 with ⟨rfl, rfl⟩ | ⟨q, cap, cur, rfl, _⟩
  · exact ⟨none, 0, rfl, fun _ => rfl⟩
  · exact ⟨_, cap, rfl, fun h => by cases h⟩
theorem fi_row {e : Nat} {u : Ty} {m : Md} (z : (Ty.sl e u).den) : fiO (.row e u m) [⟨.sl e u, z⟩] = some (.row e u z m false, []) := by
  have hc : castT (a := .sl e u) (b := .sl e u) z = some z := castT_self (t := .sl e u) z
  simp only [fiO, hc, Option.map_some]
/-- Whatever in; a row made anew out. -/
theorem con_libRow {P : Program} {f : Nat} {pat : NSh} {e : Nat} {u : Ty} {F : Nat → HL pat.codes → Option (List u.den)} (np : Nat) (hk : ∀ t ∈ pat.slots.map (·.1), t < rG)
    (hnp : ∀ x S, patSt pat x = some S → S.obs.length = np) (hfl : u.flat = true)
    (h : ∀ k x y S g w, F k x = some y → patSt pat x = some S → Cal g S → (∀ i, (entL g i (S.ob i)).ok w) → (∀ i, (entR g i (S.ob i)).ok w) → Fn P f (S.slots.map fun p => encS g p.2) w
      (fun r w' => Fr nob w w' ∧ w'.ownsRow 0 e u.sz r y.length (y.flatMap (flatT u).cells) ∧ ∀ b, r.ownBlock = some b → w.heap.size ≤ b)) :
    ConOk P ⟨f, pat, [⟨[(rB, .v (.a (.sl np)))], [], [.row e u .own]⟩], F⟩ := by
  refine con_plain hk ?_
  intro k x y0 S hrun hpat hkeys g w D A CAL C
  obtain ⟨y, rfl⟩ : ∃ y : List u.den, y = y0 := ⟨y0, rfl⟩
  have hy : F k x = some y := hrun
  have hlen := hnp x S hpat
  refine Calls.mono (h k x y S g w hy hpat CAL C.okL C.okR) ?_
  rintro _ w' ⟨r, rfl, hfr, hown, hnew⟩
  obtain ⟨ao, cap, rfl, hao⟩ := own_slice hown
  obtain ⟨g', hg'⟩ : ∃ g' : Env, g' = fun i => if i = np then ⟨.slice ao y.length cap, rfl, 0, y.flatMap (flatT u).cells, []⟩ else g i := ⟨_, rfl⟩
  have g0 : ∀ i, i ≠ np → g' i = g i := fun i hi => by rw [hg']; simp [hi]
  have g1 : g' np = ⟨.slice ao y.length cap, rfl, 0, y.flatMap (flatT u).cells, []⟩ := by rw [hg']; simp
  have hN : fiN ⟨[(rB, .v (.a (.sl np)))], [], [.row e u .own]⟩ [⟨.sl e u, y⟩] = some ⟨[(rB, .v (.a (.sl np)))], [], [.row e u y .own false]⟩ := by
    simp only [fiN, fiList, fiP, fiS, fiV, fiA, fi_row, Option.map_some]
  have ob1 : (afterS S ⟨[(rB, .v (.a (.sl np)))], [], [.row e u y .own false]⟩).ob np = .row e u y .own false := by
    simp [afterS, St.ob, ← hlen]
  have ob0 : ∀ i, i ≠ np → (afterS S ⟨[(rB, .v (.a (.sl np)))], [], [.row e u y .own false]⟩).ob i = S.ob i := by
    intro i hi
    simp only [afterS, St.ob, List.foldl_nil, List.getD_eq_getElem?_getD]
    rcases Nat.lt_trichotomy i S.obs.length with h | h | h
    · rw [List.getElem?_append_left h]
    · exact (hi (h.trans hlen)).elim
    · rw [List.getElem?_eq_none (by simp; omega), List.getElem?_eq_none (by omega)]
  have sob : S.ob np = .gone := by simp [St.ob, ← hlen]
  have ltn : ∀ i ob, S.ob i = ob → ob ≠ .gone → i < np := by
    intro i ob h1 h2
    rcases Nat.lt_or_ge i np with h | h
    · exact h
    · exact (h2 (by rw [← h1]; simp [St.ob, List.getD_eq_getElem?_getD, List.getElem?_eq_none (show S.obs.length ≤ i by omega)])).elim
  have hrefs : ∀ T ls i, S.ob i = .box T ls → ∀ z ∈ ls.flatMap refA, g' z = g z := fun T ls i hi z hz => g0 z (by have := CAL.rb i T ls hi z hz; omega)
  refine ⟨_, rfl, 0, [⟨.sl e u, y⟩], _, ⟨[(rB, .v (.a (.sl np)))], [], [.row e u y .own false]⟩, .v (.a (.sl np)), g', fun R q => rfl, rfl, hN, rfl, ?_, rfl, ?_, ⟨fun i => ?_, fun p hp => ?_, fun p hp o ho => ?_, fun i T ls hi => ?_⟩, ?_, ?_⟩
  · simp only [encS, encV, val1, g1]
  · intro o ho
    simp only [refS, refV, refA, List.mem_singleton] at ho
    subst ho
    simp [afterS, hlen]
  · by_cases hi : i = np
    · subst hi
      rw [ob1]
      simp only [obP, g1]
      exact ⟨(RepL_flat u hfl _ _ _).2 ⟨rfl, rfl⟩, ⟨ao, cap, rfl, hao⟩, fun h => by cases h⟩
    · rw [ob0 i hi]; exact obP_ext (g0 i hi) (CAL.ob i)
  · simp only [afterS, List.mem_singleton] at hp; subst hp; rfl
  · simp only [afterS, List.mem_singleton] at hp; subst hp
    simp only [refS, refV, refA, List.mem_singleton] at ho
    subst ho
    simp [afterS, hlen]
  · by_cases h : i = np
    · subst h; rw [ob1] at hi; cases hi
    · rw [ob0 i h] at hi
      intro o ho
      have := CAL.rb i T ls hi o ho
      simp only [afterS, List.foldl_nil, List.length_append]
      omega
  · have eL : ∀ i, i ≠ np → entL g' i (S.ob i) = entL g i (S.ob i) := fun i hi => entL_ext (g0 i hi) (fun T ls h => hrefs T ls i h)
    have C2 : CtxF w D A (fun i => entL g' i ((afterS S ⟨[(rB, .v (.a (.sl np)))], [], [.row e u y .own false]⟩).ob i)) (fun i => entR g i (S.ob i)) w' := by
      refine cf_set np (E' := rowE (.slice ao y.length cap) e u.sz y.length (y.flatMap (flatT u).cells)) C (hfr.mono (fun x h => h.elim)) hown (fun b hb => .inr (hnew b hb)) (fun i hi => ?_) ?_
      · simp only [ob0 i hi, eL i hi]
      · simp only [ob1, entL, g1]
    refine cf_remap C2 id (fun i => .inr (Sub1.refl _ _)) (fun i j hij _ _ => hij) (fun i => ?_)
    by_cases hi : i = np
    · subst hi
      refine .inl ?_
      simp only [ob1, entR, g1]
      exact ⟨fun b hb => (by obtain ⟨f, hf, _⟩ := hb; cases hf), fun f hf => (by cases hf)⟩
    · refine .inr (.inl ⟨i, ?_, ?_⟩)
      · simp only [ob0 i hi]
        rw [entR_ext (g0 i hi)]
        exact Sub1.refl _ _
      · simp only [ob0 i hi]
        rw [entR_ext (g0 i hi)]
        exact id
  · refine ⟨by simp [afterS], fun i hi => ?_, fun i hi hm => ?_, (fun i hi => by cases hi), fun t ht => absurd trivial ht, fun i hi e' t xs m fu he => ?_⟩
    · have : i ≠ np := by simp only at hi; omega
      rw [g0 i this]; exact ⟨rfl, rfl⟩
    · have : i ≠ np := by simp only at hi; omega
      exact ⟨ob0 i this, g0 i this⟩
    · have hne : i ≠ np := by simp only at hi; omega
      have he : (afterS S ⟨[(rB, .v (.a (.sl np)))], [], [.row e u y .own false]⟩).ob i = .row e' t xs m fu := he
      rw [ob0 i hne] at he
      exact ⟨_, _, _, _, he, rfl⟩
/-- One row of the caller's own, turned in place. -/
theorem con_libMod {P : Program} {f : Nat} {e : Nat} {u : Ty} {F : Nat → List u.den → Option (List u.den)} (hfl : u.flat = true)
    (h : ∀ k x y v w, F k x = some y → w.ownsRow 0 e u.sz v x.length (x.flatMap (flatT u).cells) → y.length = x.length ∧ Fn P f [v] w (fun r w' => r = .tuple #[] ∧ Fr (fun b => v.ownBlock = some b) w w' ∧ w'.ownsRow 0 e u.sz v y.length (y.flatMap (flatT u).cells))) :
    ConOk P ⟨f, ⟨[(0, .v (.a (.sl 0)))], [], [.row e u .own]⟩, [⟨[], [(0, .row e u .own)], []⟩], F⟩ := by
  refine con_plain (by intro t ht; simp only [List.map_cons, List.map_nil, List.mem_singleton] at ht; subst ht; decide) ?_
  intro k x0 y0 S hrun hpat hkeys g w D A CAL C
  obtain ⟨x, rfl⟩ : ∃ x : List u.den, x = x0 := ⟨x0, rfl⟩
  obtain ⟨y, rfl⟩ : ∃ y : List u.den, y = y0 := ⟨y0, rfl⟩
  have hy : F k x = some y := hrun
  obtain rfl : S = ⟨[(0, .v (.a (.sl 0)))], [.row e u x .own false], [], .nil⟩ := by
    have : fiN ⟨[(0, .v (.a (.sl 0)))], [], [.row e u .own]⟩ [⟨.sl e u, x⟩] = some ⟨[(0, .v (.a (.sl 0)))], [], [.row e u x .own false]⟩ := by
      simp only [fiN, fiList, fiP, fiS, fiV, fiA, fi_row, Option.map_some]
    have h2 : patSt ⟨[(0, .v (.a (.sl 0)))], [], [.row e u .own]⟩ x = some ⟨[(0, .v (.a (.sl 0)))], [.row e u x .own false], [], .nil⟩ := by
      have h3 : patSt ⟨[(0, .v (.a (.sl 0)))], [], [.row e u .own]⟩ x = (fiN ⟨[(0, .v (.a (.sl 0)))], [], [.row e u .own]⟩ [⟨.sl e u, x⟩]).map fun N => fillB ⟨[], [], [], .nil⟩ 0 N := rfl
      rw [h3, this]; rfl
    exact Option.some.inj (hpat.symm.trans h2)
  have hobP : RepL (RepP u) x (g 0).cs (g 0).fs ∧ SlV (g 0).v x.length ∧ (false = true → _) := CAL.ob 0
  obtain ⟨hrep, hslv, _⟩ := hobP
  obtain ⟨hcs, hfs⟩ := (RepL_flat u hfl _ _ _).1 hrep
  have hown0 : w.ownsRow 0 e u.sz (g 0).v x.length (x.flatMap (flatT u).cells) := by
    have : (rowE (g 0).v e u.sz x.length (g 0).cs).ok w := C.okL 0
    rw [hcs] at this; exact this
  obtain ⟨hyl, hfn⟩ := h k x y (g 0).v w hy hown0
  refine Calls.mono hfn ?_
  rintro _ w' ⟨r, rfl, rfl, hfr, hown⟩
  obtain ⟨g', hg'⟩ : ∃ g' : Env, g' = fun i => if i = 0 then ⟨(g 0).v, (g 0).one, (g 0).b, y.flatMap (flatT u).cells, []⟩ else g i := ⟨_, rfl⟩
  have g0 : ∀ i, i ≠ 0 → g' i = g i := fun i hi => by rw [hg']; simp [hi]
  have g1 : g' 0 = ⟨(g 0).v, (g 0).one, (g 0).b, y.flatMap (flatT u).cells, []⟩ := by rw [hg']; simp
  have hN : fiN ⟨[], [(0, .row e u .own)], []⟩ [⟨.sl e u, y⟩] = some ⟨[], [(0, .row e u y .own false)], []⟩ := by
    simp only [fiN, fiList, fiP, fi_row, Option.map_some]
  have ob : ∀ i, (afterS ⟨[(0, .v (.a (.sl 0)))], [.row e u x .own false], [], .nil⟩ ⟨[], [(0, .row e u y .own false)], []⟩).ob i = if i = 0 then .row e u y .own false else .gone := by
    intro i
    match i with
    | 0 => rfl
    | i + 1 => rfl
  have sob : ∀ i, (⟨[(0, .v (.a (.sl 0)))], [.row e u x .own false], [], .nil⟩ : St).ob i = if i = 0 then .row e u x .own false else .gone := by
    intro i
    match i with
    | 0 => rfl
    | i + 1 => rfl
  refine ⟨_, rfl, 0, [⟨.sl e u, y⟩], _, ⟨[], [(0, .row e u y .own false)], []⟩, .tup [], g', fun R q => rfl, rfl, hN, rfl, ?_, rfl, (fun o ho => by cases ho), ⟨fun i => ?_, (fun p hp => by cases hp), (fun p hp => by cases hp), fun i T ls hi => ?_⟩, ?_, ?_⟩
  · rfl
  · rw [ob]
    split
    · rename_i hi; subst hi
      simp only [obP, g1]
      exact ⟨(RepL_flat u hfl _ _ _).2 ⟨rfl, rfl⟩, by rw [hyl]; exact hslv, fun h => by cases h⟩
    · trivial
  · rw [ob] at hi
    split at hi <;> cases hi
  · have C2 : CtxF w D A (fun i => entL g' i ((afterS ⟨[(0, .v (.a (.sl 0)))], [.row e u x .own false], [], .nil⟩ ⟨[], [(0, .row e u y .own false)], []⟩).ob i)) (fun i => entR g i ((⟨[(0, .v (.a (.sl 0)))], [.row e u x .own false], [], .nil⟩ : St).ob i)) w' := by
      refine cf_set 0 (E' := rowE (g 0).v e u.sz y.length (y.flatMap (flatT u).cells)) C hfr hown (fun b hb => .inl hb) (fun i hi => ?_) ?_
      · simp only [ob, sob, if_neg hi, entL]
      · simp only [ob, if_true, entL, g1]
    refine cf_remap C2 id (fun i => .inr (Sub1.refl _ _)) (fun i j hij _ _ => hij) (fun i => ?_)
    refine .inl ?_
    simp only [ob]
    split
    · rename_i hi; subst hi
      simp only [entR, g1]
      exact ⟨fun b hb => (by obtain ⟨f, hf, _⟩ := hb; cases hf), fun f hf => (by cases hf)⟩
    · exact ⟨fun b hb => hb.elim, trivial⟩
  · refine ⟨by simp [afterS], fun i hi => ?_, fun i hi hm => ?_, (fun i hi => by cases hi), fun t ht => absurd trivial ht, fun i hi e' t xs m fu he => ?_⟩
    · have : i = 0 := by simpa using hi
      subst this
      rw [g1]; exact ⟨rfl, rfl⟩
    · have : i = 0 := by simpa using hi
      subst this
      exact (hm (by simp)).elim
    · have : i = 0 := by simpa using hi
      subst this
      have he : (afterS ⟨[(0, .v (.a (.sl 0)))], [.row e u x .own false], [], .nil⟩ ⟨[], [(0, .row e u y .own false)], []⟩).ob 0 = .row e' t xs m fu := he
      rw [ob] at he
      simp only [if_true, Ob.row.injEq] at he
      obtain ⟨rfl, rfl, h3, rfl, rfl⟩ := he
      cases h3
      exact ⟨_, _, _, _, rfl, hyl.symm⟩
theorem r_eqnil {P : Program} {ρ : Operand → Value} {w : World} {x y : Operand} {t t' e : TypeId} {ao : Option Addr} {n c m q : Nat} (hx : ρ x = .slice ao n c) (hy : ρ y = .slice none m q) (hu : P.underlying t = some (.slice e)) :
    Runs P ρ (.binOp .eql t x y t') w (.bool ao.isNone) w := by
  intro o ho
  have hg : (eqGuard .eql t x y (.slice ao n c) (.slice none m q)).run P w = .ok () w := by unfold eqGuard; rfl
  have he : (Op.equal t (.slice ao n c) (.slice none m q)).run P w = .ok ao.isNone w := by
    unfold Op.equal Op.maxDepth
    rw [Op.equalIn.eq_def]
    cases ao <;> simp [run_underlying hu]
  have hb : (Go.binOp .eql t (.slice ao n c) (.slice none m q)).run P w = .ok (.bool ao.isNone) w := by
    show ((Op.equal t (.slice ao n c) (.slice none m q)) >>= fun b => pure (.bool b) : Sem Value).run P w = _
    simp [he]
  simp [execOp, ho, hx, hy, hg, hb]
end Go.Proofs.YtindlajlkghneaaDoor
/-
  DERIVED: THE SHELF's CONTRACTS AT THIS DUMP, IN PLAIN WORDS (tools/lay-plain.mjs out of 'TrydShelf.lean', which tools/lay-shelf.mjs wrote): THE SAME DECLARATIONS UNDER THE SAME NAMES: 'import', 'namespace', 'open', 'def', 'theorem' AND NOTHING ELSE: no command of the shelf's: FOR A HAND-IN. Each laying: the table of numbers ('.._ren') and one theorem, a field a fact of the dump's own or the kernel's comparison; each contract: ONE APPLICATION.
-/
namespace Go.Proofs
open Go.Shelf
def Tryd.lays170_ren : Go.Shelf.Ren := ⟨fun | 170 => 81 | n => n, fun | 70 => 99 | 3 => 3 | 0 => 0 | 72 => 101 | 37 => 81 | 5 => 5 | n => n, fun | n => n⟩
theorem Tryd.lays170 : Go.Proofs.Lays.n170 Tryd.prog Tryd.lays170_ren := {
  mixed := by kernel_rfl
  f170 := Tryd.func81.trans (congrArg some (by kernel_rfl))
  t0 := Tryd.underlying0
  a0 := Tryd.isAgg0
  z0 := Tryd.sizeOf0
  v0 := Tryd.zeroValue0
  t3 := Tryd.underlying3
  a3 := Tryd.isAgg3
  z3 := Tryd.sizeOf3
  v3 := Tryd.zeroValue3
  t37 := Tryd.underlying81
  a37 := Tryd.isAgg81
  z37 := Tryd.sizeOf81
  v37 := Tryd.zeroValue81
  t70 := Tryd.underlying99
  a70 := Tryd.isAgg99
  z70 := Tryd.sizeOf99
  v70 := Tryd.zeroValue99
  t72 := Tryd.underlying101
  a72 := Tryd.isAgg101
  z72 := Tryd.sizeOf101
  v72 := Tryd.zeroValue101 }
open Go.RowKit in
/-- (*strings.Builder).Len: "Len returns the number of accumulated bytes; b.Len() == len(b.String()).": the world is as it was. (LAID: no walk: one application.) -/
theorem Tryd.Builder_Len (B b : Nat) (bs : List Value) (w : World) (h : Lib.IsBuilder 101 5 B b bs w) :
    Calls Tryd.prog 81 #[.pointer (some ⟨b, 0, none⟩)] w fun e w' => e = .returned (.int .i64 bs.length) ∧ w' = w := Any.Builder_Len Tryd.lays170 B b bs w h
def Tryd.lays169_ren : Go.Shelf.Ren := ⟨fun | 169 => 69 | n => n, fun | 70 => 99 | 9 => 9 | 0 => 0 | 72 => 101 | 37 => 81 | 127 => 115 | 3 => 3 | 5 => 5 | n => n, fun | n => n⟩
theorem Tryd.lays169 : Go.Proofs.Lays.n169 Tryd.prog Tryd.lays169_ren := {
  mixed := by kernel_rfl
  f169 := Tryd.func69.trans (congrArg some (by kernel_rfl))
  t0 := Tryd.underlying0
  a0 := Tryd.isAgg0
  z0 := Tryd.sizeOf0
  v0 := Tryd.zeroValue0
  t3 := Tryd.underlying3
  a3 := Tryd.isAgg3
  z3 := Tryd.sizeOf3
  v3 := Tryd.zeroValue3
  t9 := Tryd.underlying9
  a9 := Tryd.isAgg9
  z9 := Tryd.sizeOf9
  v9 := Tryd.zeroValue9
  t37 := Tryd.underlying81
  a37 := Tryd.isAgg81
  z37 := Tryd.sizeOf81
  v37 := Tryd.zeroValue81
  t70 := Tryd.underlying99
  a70 := Tryd.isAgg99
  z70 := Tryd.sizeOf99
  v70 := Tryd.zeroValue99
  t72 := Tryd.underlying101
  a72 := Tryd.isAgg101
  z72 := Tryd.sizeOf101
  v72 := Tryd.zeroValue101
  t127 := Tryd.underlying115
  a127 := Tryd.isAgg115
  z127 := Tryd.sizeOf115
  v127 := Tryd.zeroValue115 }
theorem Tryd.Builder_Extra_169 : Builder.Extra Tryd.prog Tryd.lays169_ren := {
  sizeBuilder := by kernel_rfl
  liesBuilder := by kernel_rfl
  t5 := Tryd.underlying5
  a5 := Tryd.isAgg5
  z5 := Tryd.sizeOf5
  v5 := Tryd.zeroValue5
  infoByte := by kernel_rfl
  cellsByte := by kernel_rfl
  sizeByte := by kernel_rfl
  neB5 := by decide }
open Go.RowKit in
/-- (*strings.Builder).String: "String returns the accumulated string.": OF A BUILDER THAT HOLDS AT LEAST ONE BYTE. ✋ THE MODEL FREEZES THOSE BYTES IN THE BUFFER (unsafe.String): a later write INTO them ends the model's run without an answer; a later append BEHIND them goes on. The statement's order of evaluation is drawn: one draw. (LAID: no walk: one application.) -/
theorem Tryd.Builder_String (B b : Nat) (l : List UInt8) (w : World) (h : Lib.IsBuilder 101 5 B b (Lib.byteCells l) w) (h0 : l ≠ []) :
    Calls Tryd.prog 69 #[.pointer (some ⟨b, 0, none⟩)] w fun e w' => e = .returned (.string ⟨l.toArray⟩) ∧ Below B w w' := Any.Builder_String Tryd.lays169 Tryd.Builder_Extra_169 B b l w h h0
open Go.RowKit in
/-- (*strings.Builder).String OF A BUILDER THAT HOLDS NO BYTE: the empty string. (Its buffer is nil, or a row of which it has taken nothing yet; where that row has NO capacity the model lays one new block for unsafe.SliceData's 'some address'.) One draw. (LAID: no walk: one application.) -/
theorem Tryd.Builder_String_empty (B b : Nat) (w : World) (h : Lib.IsBuilder 101 5 B b [] w) (hBw : B ≤ w.heap.size) :
    Calls Tryd.prog 69 #[.pointer (some ⟨b, 0, none⟩)] w fun e w' => e = .returned (.string ⟨#[]⟩) ∧ Below B w w' := Any.Builder_String_empty Tryd.lays169 Tryd.Builder_Extra_169 B b w h hBw
open Go.RowKit in
/-- (*strings.Builder).String: "String returns the accumulated string.": WHATEVER THE BUILDER HOLDS. (LAID: no walk: one application.) -/
theorem Tryd.Builder_String_any (B b : Nat) (l : List UInt8) (w : World) (h : Lib.IsBuilder 101 5 B b (Lib.byteCells l) w) (hBw : B ≤ w.heap.size) :
    Calls Tryd.prog 69 #[.pointer (some ⟨b, 0, none⟩)] w fun e w' => e = .returned (.string ⟨l.toArray⟩) ∧ Below B w w' := Any.Builder_String_any Tryd.lays169 Tryd.Builder_Extra_169 B b l w h hBw
def Tryd.lays241_ren : Go.Shelf.Ren := ⟨fun | 241 => 76 | 277 => 83 | n => n, fun | 70 => 99 | 3 => 3 | 0 => 0 | 72 => 101 | 37 => 81 | 5 => 5 | n => n, fun | n => n⟩
theorem Tryd.lays241 : Go.Proofs.Lays.n241 Tryd.prog Tryd.lays241_ren := {
  mixed := by kernel_rfl
  f241 := Tryd.func76.trans (congrArg some (by kernel_rfl))
  f277 := Tryd.func83.trans (congrArg some (by kernel_rfl))
  t0 := Tryd.underlying0
  a0 := Tryd.isAgg0
  z0 := Tryd.sizeOf0
  v0 := Tryd.zeroValue0
  t3 := Tryd.underlying3
  a3 := Tryd.isAgg3
  z3 := Tryd.sizeOf3
  v3 := Tryd.zeroValue3
  t37 := Tryd.underlying81
  a37 := Tryd.isAgg81
  z37 := Tryd.sizeOf81
  v37 := Tryd.zeroValue81
  t70 := Tryd.underlying99
  a70 := Tryd.isAgg99
  z70 := Tryd.sizeOf99
  v70 := Tryd.zeroValue99
  t72 := Tryd.underlying101
  a72 := Tryd.isAgg101
  z72 := Tryd.sizeOf101
  v72 := Tryd.zeroValue101 }
theorem Tryd.Builder_Extra_241 : Builder.Extra Tryd.prog Tryd.lays241_ren := {
  sizeBuilder := by kernel_rfl
  liesBuilder := by kernel_rfl
  t5 := Tryd.underlying5
  a5 := Tryd.isAgg5
  z5 := Tryd.sizeOf5
  v5 := Tryd.zeroValue5
  infoByte := by kernel_rfl
  cellsByte := by kernel_rfl
  sizeByte := by kernel_rfl
  neB5 := by decide }
open Go.RowKit in
/-- (*strings.Builder).grow (no doc but "grow copies the buffer to a new, larger buffer so that there are at least n bytes of capacity beyond len(b.buf)."): AT A BUILDER WITHOUT A BUFFER: a new row of whatever bytes for its buffer, none of them its own yet. Three draws. (LAID: no walk: one application.) -/
theorem Tryd.Builder_grow_fresh (B b n : Nat) (w : World) (hB : B ≤ b) (hbk : w.heap[b]? = some (.cells #[.pointer (some ⟨b, 0, none⟩), .slice none 0 0] 101 (0, 0))) (hBw : B ≤ w.heap.size) (hn : n ≤ 281474976710656) :
    Calls Tryd.prog 76 #[.pointer (some ⟨b, 0, none⟩), .int .i64 n] w fun e w' => e = .returned (.tuple #[]) ∧ (Lib.BuilderAt 101 5 B b (.pointer (some ⟨b, 0, none⟩)) [] w' ∧ Below B w w') := Any.Builder_grow_fresh Tryd.lays241 Tryd.Builder_Extra_241 B b n w hB hbk hBw hn
def Tryd.lays165_ren : Go.Shelf.Ren := ⟨fun | 165 => 67 | 240 => 75 | 241 => 76 | 276 => 82 | 277 => 83 | n => n, fun | 70 => 99 | 3 => 3 | 0 => 0 | 4 => 4 | 9 => 9 | 20 => 20 | 72 => 101 | 37 => 81 | 164 => 119 | 5 => 5 | n => n, fun | n => n⟩
theorem Tryd.lays165 : Go.Proofs.Lays.n165 Tryd.prog Tryd.lays165_ren := {
  mixed := by kernel_rfl
  f165 := Tryd.func67.trans (congrArg some (by kernel_rfl))
  f240 := Tryd.func75.trans (congrArg some (by kernel_rfl))
  f241 := Tryd.func76.trans (congrArg some (by kernel_rfl))
  f276 := Tryd.func82.trans (congrArg some (by kernel_rfl))
  f277 := Tryd.func83.trans (congrArg some (by kernel_rfl))
  t0 := Tryd.underlying0
  a0 := Tryd.isAgg0
  z0 := Tryd.sizeOf0
  v0 := Tryd.zeroValue0
  t3 := Tryd.underlying3
  a3 := Tryd.isAgg3
  z3 := Tryd.sizeOf3
  v3 := Tryd.zeroValue3
  t4 := Tryd.underlying4
  a4 := Tryd.isAgg4
  z4 := Tryd.sizeOf4
  v4 := Tryd.zeroValue4
  t9 := Tryd.underlying9
  a9 := Tryd.isAgg9
  z9 := Tryd.sizeOf9
  v9 := Tryd.zeroValue9
  t20 := Tryd.underlying20
  a20 := Tryd.isAgg20
  z20 := Tryd.sizeOf20
  v20 := Tryd.zeroValue20
  t37 := Tryd.underlying81
  a37 := Tryd.isAgg81
  z37 := Tryd.sizeOf81
  v37 := Tryd.zeroValue81
  t70 := Tryd.underlying99
  a70 := Tryd.isAgg99
  z70 := Tryd.sizeOf99
  v70 := Tryd.zeroValue99
  t72 := Tryd.underlying101
  a72 := Tryd.isAgg101
  z72 := Tryd.sizeOf101
  v72 := Tryd.zeroValue101
  t164 := Tryd.underlying119
  a164 := Tryd.isAgg119
  z164 := Tryd.sizeOf119
  v164 := Tryd.zeroValue119 }
theorem Tryd.Builder_Extra_165 : Builder.Extra Tryd.prog Tryd.lays165_ren := {
  sizeBuilder := by kernel_rfl
  liesBuilder := by kernel_rfl
  t5 := Tryd.underlying5
  a5 := Tryd.isAgg5
  z5 := Tryd.sizeOf5
  v5 := Tryd.zeroValue5
  infoByte := by kernel_rfl
  cellsByte := by kernel_rfl
  sizeByte := by kernel_rfl
  neB5 := by decide }
open Go.RowKit in
/-- (*strings.Builder).Grow AT A BUILDER THAT HAS NOT BEEN WRITTEN ('var b strings.Builder; b.Grow(n)'): "Grow grows b's capacity, if necessary, to guarantee space for another n bytes.": it holds no byte behind it as before it. (LAID: no walk: one application.) -/
theorem Tryd.Builder_Grow_fresh (B b n : Nat) (w : World) (hB : B ≤ b) (hbk : w.heap[b]? = some (.cells #[.pointer none, .slice none 0 0] 101 (0, 0))) (hBw : B ≤ w.heap.size) (hn : n ≤ 281474976710656) :
    Calls Tryd.prog 67 #[.pointer (some ⟨b, 0, none⟩), .int .i64 n] w fun e w' => e = .returned (.tuple #[]) ∧ (Lib.BuilderAt 101 5 B b (.pointer (some ⟨b, 0, none⟩)) [] w' ∧ Below B w w') := Any.Builder_Grow_fresh Tryd.lays165 Tryd.Builder_Extra_165 B b n w hB hbk hBw hn
def Tryd.lays156_ren : Go.Shelf.Ren := ⟨fun | 156 => 53 | 165 => 67 | 166 => 68 | 169 => 69 | 240 => 75 | 241 => 76 | 276 => 82 | 277 => 83 | n => n, fun | 31 => 88 | 9 => 9 | 3 => 3 | 4 => 4 | 0 => 0 | 20 => 20 | 72 => 101 | 76 => 105 | 70 => 99 | 37 => 81 | 75 => 104 | 127 => 115 | 164 => 119 | 5 => 5 | 80 => 107 | n => n, fun | n => n⟩
theorem Tryd.lays156 : Go.Proofs.Lays.n156 Tryd.prog Tryd.lays156_ren := {
  mixed := by kernel_rfl
  f156 := Tryd.func53.trans (congrArg some (by kernel_rfl))
  f165 := Tryd.func67.trans (congrArg some (by kernel_rfl))
  f166 := Tryd.func68.trans (congrArg some (by kernel_rfl))
  f169 := Tryd.func69.trans (congrArg some (by kernel_rfl))
  f240 := Tryd.func75.trans (congrArg some (by kernel_rfl))
  f241 := Tryd.func76.trans (congrArg some (by kernel_rfl))
  f276 := Tryd.func82.trans (congrArg some (by kernel_rfl))
  f277 := Tryd.func83.trans (congrArg some (by kernel_rfl))
  t0 := Tryd.underlying0
  a0 := Tryd.isAgg0
  z0 := Tryd.sizeOf0
  v0 := Tryd.zeroValue0
  t3 := Tryd.underlying3
  a3 := Tryd.isAgg3
  z3 := Tryd.sizeOf3
  v3 := Tryd.zeroValue3
  t4 := Tryd.underlying4
  a4 := Tryd.isAgg4
  z4 := Tryd.sizeOf4
  v4 := Tryd.zeroValue4
  t9 := Tryd.underlying9
  a9 := Tryd.isAgg9
  z9 := Tryd.sizeOf9
  v9 := Tryd.zeroValue9
  t20 := Tryd.underlying20
  a20 := Tryd.isAgg20
  z20 := Tryd.sizeOf20
  v20 := Tryd.zeroValue20
  t31 := Tryd.underlying88
  a31 := Tryd.isAgg88
  z31 := Tryd.sizeOf88
  v31 := Tryd.zeroValue88
  t37 := Tryd.underlying81
  a37 := Tryd.isAgg81
  z37 := Tryd.sizeOf81
  v37 := Tryd.zeroValue81
  t70 := Tryd.underlying99
  a70 := Tryd.isAgg99
  z70 := Tryd.sizeOf99
  v70 := Tryd.zeroValue99
  t72 := Tryd.underlying101
  a72 := Tryd.isAgg101
  z72 := Tryd.sizeOf101
  v72 := Tryd.zeroValue101
  t75 := Tryd.underlying104
  a75 := Tryd.isAgg104
  z75 := Tryd.sizeOf104
  v75 := Tryd.zeroValue104
  t76 := Tryd.underlying105
  a76 := Tryd.isAgg105
  z76 := Tryd.sizeOf105
  v76 := Tryd.zeroValue105
  t127 := Tryd.underlying115
  a127 := Tryd.isAgg115
  z127 := Tryd.sizeOf115
  v127 := Tryd.zeroValue115
  t164 := Tryd.underlying119
  a164 := Tryd.isAgg119
  z164 := Tryd.sizeOf119
  v164 := Tryd.zeroValue119 }
theorem Tryd.Builder_Extra_156 : Builder.Extra Tryd.prog Tryd.lays156_ren := {
  sizeBuilder := by kernel_rfl
  liesBuilder := by kernel_rfl
  t5 := Tryd.underlying5
  a5 := Tryd.isAgg5
  z5 := Tryd.sizeOf5
  v5 := Tryd.zeroValue5
  infoByte := by kernel_rfl
  cellsByte := by kernel_rfl
  sizeByte := by kernel_rfl
  neB5 := by decide }
open Go.RowKit in
/-- No element: the empty string; the world is as it was. (Whatever the slice's address and capacity: a nil slice too.) (LAID: no walk: one application.) -/
theorem Tryd.strings_Join_none (a : Option Addr) (c : Nat) (sep : ByteArray) (w : World) :
    Calls Tryd.prog 53 #[.slice a 0 c, .string sep] w fun e w' => e = .returned (.string ⟨#[]⟩) ∧ w' = w := Any.strings_Join_none Tryd.lays156 Tryd.Builder_Extra_156 a c sep w
open Go.RowKit in
/-- strings.Join: "Join concatenates the elements of its first argument to create a single string. The separator string sep is placed between elements in the resulting string.": HOWEVER MANY ELEMENTS. Below the heap's end the world is as it was. (LAID: no walk: one application.) -/
theorem Tryd.strings_Join (bk o c : Nat) (xs : List ByteArray) (sep : ByteArray) (w : World) (hcells : ∀ (j : Nat) x, xs[j]? = some x → w.cell? ⟨bk, o + j, none⟩ = some (.string x)) (hbk : bk < w.heap.size) (hN : xs.length ≤ 140737488355328) (hcap : xs.length ≤ c) (hlen : (Lib.join (xs.map (·.data.toList)) sep.data.toList).length ≤ 140737488355328) :
    Calls Tryd.prog 53 #[.slice (some ⟨bk, o, none⟩) xs.length c, .string sep] w fun e w' => e = .returned (.string ⟨(Lib.join (xs.map (·.data.toList)) sep.data.toList).toArray⟩) ∧ Below w.heap.size w w' := Any.strings_Join Tryd.lays156 Tryd.Builder_Extra_156 bk o c xs sep w hcells hbk hN hcap hlen
open Go.RowKit in
/-- (*strings.Builder).Len: "Len returns the number of accumulated bytes; b.Len() == len(b.String()).": the world is as it was. (THE FORM '_f': 'Lib.IsBuilderF'.) (LAID: no walk: one application.) -/
theorem Tryd.Builder_Len_f (B b : Nat) (bs : List Value) (w : World) (h : Lib.IsBuilderF 101 5 B b bs w) :
    Calls Tryd.prog 81 #[.pointer (some ⟨b, 0, none⟩)] w fun e w' => e = .returned (.int .i64 bs.length) ∧ w' = w := Any.Builder_Len_f Tryd.lays170 B b bs w h
open Go.RowKit in
/-- (*strings.Builder).String: "String returns the accumulated string.": OF A BUILDER THAT HOLDS AT LEAST ONE BYTE. ✋ THE MODEL FREEZES THOSE BYTES IN THE BUFFER (unsafe.String): a later write INTO them ends the model's run without an answer; a later append BEHIND them goes on. The statement's order of evaluation is drawn: one draw. THE FORM '_f': IT SAYS BESIDES THAT THE BUILDER IS A BUILDER STILL ('Lib.IsBuilderF', the same bytes): SO IT CAN BE WRITTEN ON: 'b.WriteString(b.String()[:k])'. (LAID: no walk: one application.) -/
theorem Tryd.Builder_String_f (B b : Nat) (l : List UInt8) (w : World) (h : Lib.IsBuilderF 101 5 B b (Lib.byteCells l) w) (h0 : l ≠ []) :
    Calls Tryd.prog 69 #[.pointer (some ⟨b, 0, none⟩)] w fun e w' => e = .returned (.string ⟨l.toArray⟩) ∧ (Lib.IsBuilderF 101 5 B b (Lib.byteCells l) w' ∧ Below B w w') := Any.Builder_String_f Tryd.lays169 Tryd.Builder_Extra_169 B b l w h h0
open Go.RowKit in
/-- (*strings.Builder).String OF A BUILDER THAT HOLDS NO BYTE: the empty string; THE FORM '_f': a builder still. (LAID: no walk: one application.) -/
theorem Tryd.Builder_String_empty_f (B b : Nat) (w : World) (h : Lib.IsBuilderF 101 5 B b [] w) (hBw : B ≤ w.heap.size) :
    Calls Tryd.prog 69 #[.pointer (some ⟨b, 0, none⟩)] w fun e w' => e = .returned (.string ⟨#[]⟩) ∧ (Lib.IsBuilderF 101 5 B b [] w' ∧ Below B w w') := Any.Builder_String_empty_f Tryd.lays169 Tryd.Builder_Extra_169 B b w h hBw
open Go.RowKit in
/-- (*strings.Builder).String: "String returns the accumulated string.": WHATEVER THE BUILDER HOLDS; THE FORM '_f': OF A BUILDER THAT MAY HAVE BEEN READ BEFORE; AND IT IS A BUILDER STILL, holding the same bytes: it can be written on. (LAID: no walk: one application.) -/
theorem Tryd.Builder_String_any_f (B b : Nat) (l : List UInt8) (w : World) (h : Lib.IsBuilderF 101 5 B b (Lib.byteCells l) w) (hBw : B ≤ w.heap.size) :
    Calls Tryd.prog 69 #[.pointer (some ⟨b, 0, none⟩)] w fun e w' => e = .returned (.string ⟨l.toArray⟩) ∧ (Lib.IsBuilderF 101 5 B b (Lib.byteCells l) w' ∧ Below B w w') := Any.Builder_String_any_f Tryd.lays169 Tryd.Builder_Extra_169 B b l w h hBw
open Go.RowKit in
/-- (*strings.Builder).String: "String returns the accumulated string.": OF A BUILDER THAT HOLDS AT LEAST ONE BYTE. ✋ THE MODEL FREEZES THOSE BYTES IN THE BUFFER (unsafe.String): a later write INTO them ends the model's run without an answer; a later append BEHIND them goes on. The statement's order of evaluation is drawn: one draw. THE FORM '_k': OVER 'Lib.IsBuilderF' (a builder that 'String()' may have read), AND WITH THE FRAME THAT REACHES ABOVE THE BUILDER: 'Lib.OthersKept': every block that is not b and is no row of uint8's stands as it stood: the iterator of a range among them. (LAID: no walk: one application.) -/
theorem Tryd.Builder_String_k (B b : Nat) (l : List UInt8) (w : World) (h : Lib.IsBuilderF 101 5 B b (Lib.byteCells l) w) (h0 : l ≠ []) :
    Calls Tryd.prog 69 #[.pointer (some ⟨b, 0, none⟩)] w fun e w' => e = .returned (.string ⟨l.toArray⟩) ∧ (Lib.IsBuilderF 101 5 B b (Lib.byteCells l) w' ∧ Below B w w' ∧ Lib.OthersKept 5 (some b) w w') := Any.Builder_String_k Tryd.lays169 Tryd.Builder_Extra_169 B b l w h h0
open Go.RowKit in
/-- (*strings.Builder).String OF A BUILDER THAT HOLDS NO BYTE: the empty string; THE FORM '_k': OVER 'Lib.IsBuilderF' (a builder that 'String()' may have read), AND WITH THE FRAME THAT REACHES ABOVE THE BUILDER: 'Lib.OthersKept': every block that is not b and is no row of uint8's stands as it stood: the iterator of a range among them. (LAID: no walk: one application.) -/
theorem Tryd.Builder_String_empty_k (B b : Nat) (w : World) (h : Lib.IsBuilderF 101 5 B b [] w) (hBw : B ≤ w.heap.size) :
    Calls Tryd.prog 69 #[.pointer (some ⟨b, 0, none⟩)] w fun e w' => e = .returned (.string ⟨#[]⟩) ∧ (Lib.IsBuilderF 101 5 B b [] w' ∧ Below B w w' ∧ Lib.OthersKept 5 (some b) w w') := Any.Builder_String_empty_k Tryd.lays169 Tryd.Builder_Extra_169 B b w h hBw
open Go.RowKit in
/-- (*strings.Builder).String: "String returns the accumulated string.": WHATEVER THE BUILDER HOLDS; THE FORM '_k': OVER 'Lib.IsBuilderF' (a builder that 'String()' may have read), AND WITH THE FRAME THAT REACHES ABOVE THE BUILDER: 'Lib.OthersKept': every block that is not b and is no row of uint8's stands as it stood: the iterator of a range among them. (LAID: no walk: one application.) -/
theorem Tryd.Builder_String_any_k (B b : Nat) (l : List UInt8) (w : World) (h : Lib.IsBuilderF 101 5 B b (Lib.byteCells l) w) (hBw : B ≤ w.heap.size) :
    Calls Tryd.prog 69 #[.pointer (some ⟨b, 0, none⟩)] w fun e w' => e = .returned (.string ⟨l.toArray⟩) ∧ (Lib.IsBuilderF 101 5 B b (Lib.byteCells l) w' ∧ Below B w w' ∧ Lib.OthersKept 5 (some b) w w') := Any.Builder_String_any_k Tryd.lays169 Tryd.Builder_Extra_169 B b l w h hBw
open Go.RowKit in
/-- (*strings.Builder).grow (no doc but "grow copies the buffer to a new, larger buffer so that there are at least n bytes of capacity beyond len(b.buf)."): AT A BUILDER WITHOUT A BUFFER: a new row of whatever bytes for its buffer, none of them its own yet. Three draws. (LAID: no walk: one application.) -/
theorem Tryd.Builder_grow_fresh_cap (B b n : Nat) (w : World) (hB : B ≤ b) (hbk : w.heap[b]? = some (.cells #[.pointer (some ⟨b, 0, none⟩), .slice none 0 0] 101 (0, 0))) (hBw : B ≤ w.heap.size) (hn : n ≤ 281474976710656) :
    Calls Tryd.prog 76 #[.pointer (some ⟨b, 0, none⟩), .int .i64 n] w fun e w' => e = .returned (.tuple #[]) ∧ (Lib.BuilderAt 101 5 B b (.pointer (some ⟨b, 0, none⟩)) [] w' ∧ Below B w w') ∧ ∃ p cap, w'.cell? ⟨b, 1, none⟩ = some (.slice p 0 cap) ∧ n ≤ cap := Any.Builder_grow_fresh_cap Tryd.lays241 Tryd.Builder_Extra_241 B b n w hB hbk hBw hn
open Go.RowKit in
/-- (*strings.Builder).Grow AT A BUILDER THAT HAS NOT BEEN WRITTEN ('var b strings.Builder; b.Grow(n)'): "Grow grows b's capacity, if necessary, to guarantee space for another n bytes.": it holds no byte behind it as before it. (LAID: no walk: one application.) -/
theorem Tryd.Builder_Grow_fresh_cap (B b n : Nat) (w : World) (hB : B ≤ b) (hbk : w.heap[b]? = some (.cells #[.pointer none, .slice none 0 0] 101 (0, 0))) (hBw : B ≤ w.heap.size) (hn : n ≤ 281474976710656) :
    Calls Tryd.prog 67 #[.pointer (some ⟨b, 0, none⟩), .int .i64 n] w fun e w' => e = .returned (.tuple #[]) ∧ (Lib.BuilderAt 101 5 B b (.pointer (some ⟨b, 0, none⟩)) [] w' ∧ Below B w w') ∧ ∃ p cap, w'.cell? ⟨b, 1, none⟩ = some (.slice p 0 cap) ∧ n ≤ cap := Any.Builder_Grow_fresh_cap Tryd.lays165 Tryd.Builder_Extra_165 B b n w hB hbk hBw hn
def Tryd.lays129_ren : Go.Shelf.Ren := ⟨fun | 129 => 77 | n => n, fun | 53 => 79 | 3 => 3 | 4 => 4 | 46 => 80 | 5 => 5 | 9 => 9 | n => n, fun | n => n⟩
theorem Tryd.lays129 : Go.Proofs.Lays.n129 Tryd.prog Tryd.lays129_ren := {
  mixed := by kernel_rfl
  f129 := Tryd.func77.trans (congrArg some (by kernel_rfl))
  t3 := Tryd.underlying3
  a3 := Tryd.isAgg3
  z3 := Tryd.sizeOf3
  v3 := Tryd.zeroValue3
  t4 := Tryd.underlying4
  a4 := Tryd.isAgg4
  z4 := Tryd.sizeOf4
  v4 := Tryd.zeroValue4
  t5 := Tryd.underlying5
  a5 := Tryd.isAgg5
  z5 := Tryd.sizeOf5
  v5 := Tryd.zeroValue5
  t9 := Tryd.underlying9
  a9 := Tryd.isAgg9
  z9 := Tryd.sizeOf9
  v9 := Tryd.zeroValue9
  t46 := Tryd.underlying80
  a46 := Tryd.isAgg80
  z46 := Tryd.sizeOf80
  v46 := Tryd.zeroValue80
  t53 := Tryd.underlying79
  a53 := Tryd.isAgg79
  z53 := Tryd.sizeOf79
  v53 := Tryd.zeroValue79 }
/-- bits.Len64: "Len64 returns the minimum number of bits required to represent x; the result is 0 for x == 0.": IT RETURNS 'Lib.bitLen x'; the world is as it was. ('h0', 'h1': x is a uint64.) (LAID: no walk: one application.) -/
theorem Tryd.bits_Len64 (x : Int) (w : World) (h0 : 0 ≤ x) (h1 : x ≤ 18446744073709551615) :
    Calls Tryd.prog 77 #[.int .u64 x] w fun e w' => e = .returned (.int .i64 (Lib.bitLen x.toNat)) ∧ w' = w := Any.bits_Len64 Tryd.lays129 x w h0 h1
def Tryd.lays206_ren : Go.Shelf.Ren := ⟨fun | 206 => 88 | n => n, fun | 9 => 9 | 4 => 4 | 3 => 3 | n => n, fun | n => n⟩
theorem Tryd.lays206 : Go.Proofs.Lays.n206 Tryd.prog Tryd.lays206_ren := {
  mixed := by kernel_rfl
  f206 := Tryd.func88.trans (congrArg some (by kernel_rfl))
  t3 := Tryd.underlying3
  a3 := Tryd.isAgg3
  z3 := Tryd.sizeOf3
  v3 := Tryd.zeroValue3
  t4 := Tryd.underlying4
  a4 := Tryd.isAgg4
  z4 := Tryd.sizeOf4
  v4 := Tryd.zeroValue4
  t9 := Tryd.underlying9
  a9 := Tryd.isAgg9
  z9 := Tryd.sizeOf9
  v9 := Tryd.zeroValue9 }
open Go.RowKit Go.Lib in
/-- internal/stringslite.HasPrefix (what strings.HasPrefix calls). (LAID: no walk: one application.) -/
theorem Tryd.stringslite_HasPrefix (s p : ByteArray) (w : World) :
    Calls Tryd.prog 88 #[.string s, .string p] w fun e w' => e = .returned (.bool (Lib.hasPrefix s.data.toList p.data.toList)) ∧ w' = w := Any.stringslite_HasPrefix Tryd.lays206 s p w
def Tryd.lays99_ren : Go.Shelf.Ren := ⟨fun | 99 => 80 | 206 => 88 | n => n, fun | 9 => 9 | 4 => 4 | 3 => 3 | n => n, fun | n => n⟩
theorem Tryd.lays99 : Go.Proofs.Lays.n99 Tryd.prog Tryd.lays99_ren := {
  mixed := by kernel_rfl
  f99 := Tryd.func80.trans (congrArg some (by kernel_rfl))
  f206 := Tryd.func88.trans (congrArg some (by kernel_rfl))
  t3 := Tryd.underlying3
  a3 := Tryd.isAgg3
  z3 := Tryd.sizeOf3
  v3 := Tryd.zeroValue3
  t4 := Tryd.underlying4
  a4 := Tryd.isAgg4
  z4 := Tryd.sizeOf4
  v4 := Tryd.zeroValue4
  t9 := Tryd.underlying9
  a9 := Tryd.isAgg9
  z9 := Tryd.sizeOf9
  v9 := Tryd.zeroValue9 }
open Go.RowKit Go.Lib in
/-- strings.HasPrefix: "HasPrefix reports whether the string s begins with prefix.": IT RETURNS 'Lib.hasPrefix s prefix'; the world is as it was. (LAID: no walk: one application.) -/
theorem Tryd.strings_HasPrefix (s p : ByteArray) (w : World) :
    Calls Tryd.prog 80 #[.string s, .string p] w fun e w' => e = .returned (.bool (Lib.hasPrefix s.data.toList p.data.toList)) ∧ w' = w := Any.strings_HasPrefix Tryd.lays99 s p w
def Tryd.lays264_ren : Go.Shelf.Ren := ⟨fun | 264 => 87 | n => n, fun | 53 => 79 | 46 => 80 | n => n, fun | n => n⟩
theorem Tryd.lays264 : Go.Proofs.Lays.n264 Tryd.prog Tryd.lays264_ren := {
  mixed := by kernel_rfl
  f264 := Tryd.func87.trans (congrArg some (by kernel_rfl))
  t46 := Tryd.underlying80
  a46 := Tryd.isAgg80
  z46 := Tryd.sizeOf80
  v46 := Tryd.zeroValue80
  t53 := Tryd.underlying79
  a53 := Tryd.isAgg79
  z53 := Tryd.sizeOf79
  v53 := Tryd.zeroValue79 }
open Go.RowKit Go.Lib in
theorem Tryd.bits_Mul64 (x y : Nat) (hx : x < 18446744073709551616) (hy : y < 18446744073709551616) (w : World) :
    Calls Tryd.prog 87 #[.int .u64 x, .int .u64 y] w fun e w' => e = .returned (.tuple #[.int .u64 ((x * y / 18446744073709551616 : Nat) : Int), .int .u64 ((x * y % 18446744073709551616 : Nat) : Int)]) ∧ w' = w := Any.bits_Mul64 Tryd.lays264 x y hx hy w
def Tryd.lays212_ren : Go.Shelf.Ren := ⟨fun | 212 => 79 | 263 => 86 | 264 => 87 | n => n, fun | 46 => 80 | 51 => 82 | 146 => 124 | 53 => 79 | 148 => 126 | n => n, fun | n => n⟩
theorem Tryd.lays212 : Go.Proofs.Lays.n212 Tryd.prog Tryd.lays212_ren := {
  mixed := by kernel_rfl
  f212 := Tryd.func79.trans (congrArg some (by kernel_rfl))
  f263 := Tryd.func86.trans (congrArg some (by kernel_rfl))
  f264 := Tryd.func87.trans (congrArg some (by kernel_rfl))
  t46 := Tryd.underlying80
  a46 := Tryd.isAgg80
  z46 := Tryd.sizeOf80
  v46 := Tryd.zeroValue80
  t51 := Tryd.underlying82
  a51 := Tryd.isAgg82
  z51 := Tryd.sizeOf82
  v51 := Tryd.zeroValue82
  t53 := Tryd.underlying79
  a53 := Tryd.isAgg79
  z53 := Tryd.sizeOf79
  v53 := Tryd.zeroValue79
  t146 := Tryd.underlying124
  a146 := Tryd.isAgg124
  z146 := Tryd.sizeOf124
  v146 := Tryd.zeroValue124
  t148 := Tryd.underlying126
  a148 := Tryd.isAgg126
  z148 := Tryd.sizeOf126
  v148 := Tryd.zeroValue126 }
open Go.RowKit Go.Lib in
/-- math/bits.Mul: "Mul returns the full-width product of x and y": on a machine of 64 bits: Mul64's. (LAID: no walk: one application.) -/
theorem Tryd.bits_Mul (x y : Nat) (hx : x < 18446744073709551616) (hy : y < 18446744073709551616) (w : World) :
    Calls Tryd.prog 79 #[.int .u64 x, .int .u64 y] w fun e w' => e = .returned (.tuple #[.int .u64 ((x * y / 18446744073709551616 : Nat) : Int), .int .u64 ((x * y % 18446744073709551616 : Nat) : Int)]) ∧ w' = w := Any.bits_Mul Tryd.lays212 x y hx hy w
def Tryd.lays105_ren : Go.Shelf.Ren := ⟨fun | 105 => 74 | 212 => 79 | 99 => 80 | 165 => 67 | 166 => 68 | 170 => 81 | 169 => 69 | 263 => 86 | 264 => 87 | 206 => 88 | 240 => 75 | 241 => 76 | 276 => 82 | 277 => 83 | n => n, fun | 9 => 9 | 3 => 3 | 4 => 4 | 20 => 20 | 0 => 0 | 46 => 80 | 109 => 116 | 5 => 5 | 72 => 101 | 76 => 105 | 51 => 82 | 146 => 124 | 53 => 79 | 148 => 126 | 70 => 99 | 37 => 81 | 75 => 104 | 127 => 115 | 164 => 119 | 80 => 107 | n => n, fun | n => n⟩
theorem Tryd.lays105 : Go.Proofs.Lays.n105 Tryd.prog Tryd.lays105_ren := {
  mixed := by kernel_rfl
  f99 := Tryd.func80.trans (congrArg some (by kernel_rfl))
  f105 := Tryd.func74.trans (congrArg some (by kernel_rfl))
  f165 := Tryd.func67.trans (congrArg some (by kernel_rfl))
  f166 := Tryd.func68.trans (congrArg some (by kernel_rfl))
  f169 := Tryd.func69.trans (congrArg some (by kernel_rfl))
  f170 := Tryd.func81.trans (congrArg some (by kernel_rfl))
  f206 := Tryd.func88.trans (congrArg some (by kernel_rfl))
  f212 := Tryd.func79.trans (congrArg some (by kernel_rfl))
  f240 := Tryd.func75.trans (congrArg some (by kernel_rfl))
  f241 := Tryd.func76.trans (congrArg some (by kernel_rfl))
  f263 := Tryd.func86.trans (congrArg some (by kernel_rfl))
  f264 := Tryd.func87.trans (congrArg some (by kernel_rfl))
  f276 := Tryd.func82.trans (congrArg some (by kernel_rfl))
  f277 := Tryd.func83.trans (congrArg some (by kernel_rfl))
  t0 := Tryd.underlying0
  a0 := Tryd.isAgg0
  z0 := Tryd.sizeOf0
  v0 := Tryd.zeroValue0
  t3 := Tryd.underlying3
  a3 := Tryd.isAgg3
  z3 := Tryd.sizeOf3
  v3 := Tryd.zeroValue3
  t4 := Tryd.underlying4
  a4 := Tryd.isAgg4
  z4 := Tryd.sizeOf4
  v4 := Tryd.zeroValue4
  t5 := Tryd.underlying5
  a5 := Tryd.isAgg5
  z5 := Tryd.sizeOf5
  v5 := Tryd.zeroValue5
  t9 := Tryd.underlying9
  a9 := Tryd.isAgg9
  z9 := Tryd.sizeOf9
  v9 := Tryd.zeroValue9
  t20 := Tryd.underlying20
  a20 := Tryd.isAgg20
  z20 := Tryd.sizeOf20
  v20 := Tryd.zeroValue20
  t37 := Tryd.underlying81
  a37 := Tryd.isAgg81
  z37 := Tryd.sizeOf81
  v37 := Tryd.zeroValue81
  t46 := Tryd.underlying80
  a46 := Tryd.isAgg80
  z46 := Tryd.sizeOf80
  v46 := Tryd.zeroValue80
  t51 := Tryd.underlying82
  a51 := Tryd.isAgg82
  z51 := Tryd.sizeOf82
  v51 := Tryd.zeroValue82
  t53 := Tryd.underlying79
  a53 := Tryd.isAgg79
  z53 := Tryd.sizeOf79
  v53 := Tryd.zeroValue79
  t70 := Tryd.underlying99
  a70 := Tryd.isAgg99
  z70 := Tryd.sizeOf99
  v70 := Tryd.zeroValue99
  t72 := Tryd.underlying101
  a72 := Tryd.isAgg101
  z72 := Tryd.sizeOf101
  v72 := Tryd.zeroValue101
  t75 := Tryd.underlying104
  a75 := Tryd.isAgg104
  z75 := Tryd.sizeOf104
  v75 := Tryd.zeroValue104
  t76 := Tryd.underlying105
  a76 := Tryd.isAgg105
  z76 := Tryd.sizeOf105
  v76 := Tryd.zeroValue105
  t109 := Tryd.underlying116
  a109 := Tryd.isAgg116
  z109 := Tryd.sizeOf116
  v109 := Tryd.zeroValue116
  t127 := Tryd.underlying115
  a127 := Tryd.isAgg115
  z127 := Tryd.sizeOf115
  v127 := Tryd.zeroValue115
  t146 := Tryd.underlying124
  a146 := Tryd.isAgg124
  z146 := Tryd.sizeOf124
  v146 := Tryd.zeroValue124
  t148 := Tryd.underlying126
  a148 := Tryd.isAgg126
  z148 := Tryd.sizeOf126
  v148 := Tryd.zeroValue126
  t164 := Tryd.underlying119
  a164 := Tryd.isAgg119
  z164 := Tryd.sizeOf119
  v164 := Tryd.zeroValue119 }
theorem Tryd.Builder_Extra_105 : Builder.Extra Tryd.prog Tryd.lays105_ren := {
  sizeBuilder := by kernel_rfl
  liesBuilder := by kernel_rfl
  t5 := Tryd.underlying5
  a5 := Tryd.isAgg5
  z5 := Tryd.sizeOf5
  v5 := Tryd.zeroValue5
  infoByte := by kernel_rfl
  cellsByte := by kernel_rfl
  sizeByte := by kernel_rfl
  neB5 := by decide }
open Go.RowKit Go.Lib in
/-- THE MAIN CASE: at least two copies of a string that is not empty. (LAID: no walk: one application.) -/
theorem Tryd.strings_Repeat_main (s : ByteArray) (c : Nat) (w : World) (hc2 : 2 ≤ c) (hc : c ≤ 9223372036854775807) (hlen : s.size * c ≤ 140737488355328) (h0 : 0 < s.size) :
    Calls Tryd.prog 74 #[.string s, .int .i64 c] w fun e w' => e = .returned (.string ⟨(Lib.repeatL s.data.toList c).toArray⟩) ∧ Below w.heap.size w w' := Any.strings_Repeat_main Tryd.lays105 Tryd.Builder_Extra_105 s c w hc2 hc hlen h0
open Go.RowKit Go.Lib in
theorem Tryd.strings_Repeat_zero (s : ByteArray) (w : World) :
    Calls Tryd.prog 74 #[.string s, .int .i64 0] w fun e w' => e = .returned (.string ⟨#[]⟩) ∧ w' = w := Any.strings_Repeat_zero Tryd.lays105 s w
open Go.RowKit Go.Lib in
theorem Tryd.strings_Repeat_one (s : ByteArray) (w : World) :
    Calls Tryd.prog 74 #[.string s, .int .i64 1] w fun e w' => e = .returned (.string s) ∧ w' = w := Any.strings_Repeat_one Tryd.lays105 s w
open Go.RowKit Go.Lib in
/-- Copies of the empty string. (LAID: no walk: one application.) -/
theorem Tryd.strings_Repeat_empty (s : ByteArray) (c : Nat) (w : World) (hc2 : 2 ≤ c) (hc : c ≤ 9223372036854775807) (h0 : s.size = 0) :
    Calls Tryd.prog 74 #[.string s, .int .i64 c] w fun e w' => e = .returned (.string ⟨#[]⟩) ∧ w' = w := Any.strings_Repeat_empty Tryd.lays105 s c w hc2 hc h0
open Go.RowKit Go.Lib in
/-- count < 0: "It panics if count is negative". (LAID: no walk: one application.) -/
theorem Tryd.strings_Repeat_negative (s : ByteArray) (c : Int) (w : World) (hc : c < 0) :
    Calls Tryd.prog 74 #[.string s, .int .i64 c] w fun e w' => e = .panicked [{ v := repeatPanic Tryd.lays105_ren "strings: negative Repeat count", recovered := false }] ∧ w' = w := Any.strings_Repeat_negative Tryd.lays105 s c w hc
open Go.RowKit Go.Lib in
/-- len(s) * count is no int: ".. or if the result of (len(s) * count) overflows". (LAID: no walk: one application.) -/
theorem Tryd.strings_Repeat_overflow (s : ByteArray) (c : Nat) (w : World) (hc : c ≤ 9223372036854775807) (hs : s.size ≤ 9223372036854775807) (hbig : 9223372036854775807 < s.size * c) :
    Calls Tryd.prog 74 #[.string s, .int .i64 c] w fun e w' => e = .panicked [{ v := repeatPanic Tryd.lays105_ren "strings: Repeat output length overflow", recovered := false }] ∧ w' = w := Any.strings_Repeat_overflow Tryd.lays105 s c w hc hs hbig
open Go.RowKit Go.Lib in
/-- **strings.Repeat: count ≥ 0, the result within one allocation: count copies of s.** (LAID: no walk: one application.) -/
theorem Tryd.strings_Repeat (s : ByteArray) (c : Nat) (w : World) (hc : c ≤ 9223372036854775807) (hlen : s.size * c ≤ 140737488355328) :
    Calls Tryd.prog 74 #[.string s, .int .i64 c] w fun e w' => e = .returned (.string ⟨(Lib.repeatL s.data.toList c).toArray⟩) ∧ Below w.heap.size w w' := Any.strings_Repeat Tryd.lays105 Tryd.Builder_Extra_105 s c w hc hlen
end Go.Proofs
/- Library functions: what they compute. No condition. -/
set_option linter.unusedVariables false
set_option linter.unusedSimpArgs false
namespace Go.Proofs.YtindlajlkghneaaDoor
open Go
def zOf (P : Program) (t : TypeId) : Value := match elemInfo P t with
  | some (_, _, _, some z) => z
  | _ => undef
/-! ### bits.Len64 -/
def L_math_bits_Len64 (k : Nat) (x : Int) : Option Int := guardO (0 ≤ x ∧ x ≤ 18446744073709551615) (some ((Lib.bitLen x.toNat : Nat) : Int))
theorem L_math_bits_Len64_ok : ConOk Tryd.prog ⟨77, ⟨[(0, .v (.a (.fl (.int .u64))))], [], []⟩, [⟨[(100000, .v (.a (.fl (.int .i64))))], [], []⟩], L_math_bits_Len64⟩ := by
  refine con_lib1 (t := .int .i64) (pat := ⟨[(0, .v (.a (.fl (.int .u64))))], [], []⟩) rfl rfl (by decide) ?_
  intro k x y S w hf hp
  obtain ⟨z, rfl⟩ : ∃ z : Int, z = x := ⟨x, rfl⟩
  obtain rfl : S = ⟨[(0, .v (.a (.fl (.int .u64) z)))], [], [], .nil⟩ := Option.some.inj (hp.symm.trans rfl)
  unfold L_math_bits_Len64 at hf
  obtain ⟨h, hf⟩ := guardO_some.1 hf
  · cases hf
    refine Calls.mono (Tryd.bits_Len64 z w h.1 h.2) ?_
    rintro e w' ⟨rfl, rfl⟩
    exact ⟨_, rfl, rfl, Fr.refl _ _⟩

/-! ### strings.Join -/
def L_strings_Join (k : Nat) (x : ByteArray × List ByteArray) : Option ByteArray :=
  guardO (2 ≤ x.2.length ∧ x.2.length ≤ 1000000 ∧ (Lib.join (x.2.map (·.data.toList)) x.1.data.toList).length ≤ 140737488355328) (some ⟨(Lib.join (x.2.map (·.data.toList)) x.1.data.toList).toArray⟩)
theorem str_cells : ∀ xs : List ByteArray, xs.flatMap (flatT .str).cells = xs.map Value.string
  | [] => rfl
  | x :: xs => by rw [List.flatMap_cons, str_cells xs]; rfl
theorem L_strings_Join_ok : ConOk Tryd.prog ⟨53, ⟨[(0, .v (.a (.sl 0))), (1, .v (.a (.fl .str)))], [], [.row 9 .str .lent]⟩, [⟨[(100000, .v (.a (.fl .str)))], [], []⟩], L_strings_Join⟩ := by
  refine con_libV (t := .str) (pat := ⟨[(0, .v (.a (.sl 0))), (1, .v (.a (.fl .str)))], [], [.row 9 .str .lent]⟩) (by decide) ?_
  intro k x y S g w hf hp CAL _ hR
  obtain ⟨sep, xs⟩ : ByteArray × List ByteArray := x
  have hf : L_strings_Join k (sep, xs) = some y := hf
  obtain rfl : S = ⟨[(0, .v (.a (.sl 0))), (1, .v (.a (.fl .str sep)))], [.row 9 .str xs .lent false], [], .nil⟩ := Option.some.inj (hp.symm.trans rfl)
  unfold L_strings_Join at hf
  obtain ⟨⟨h1, h2, h3⟩, hf⟩ := guardO_some.1 hf
  cases hf
  simp only at h1 h2 h3
  have hrep : RepL (RepP .str) xs (g 0).cs (g 0).fs := (CAL.ob 0).1
  have hcs := ((RepL_flat .str rfl _ _ _).1 hrep).1
  rw [str_cells] at hcs
  have hrd : Rds (g 0).v xs.length 1 (xs.map Value.string) w := by
    have := hR 0 (⟨(g 0).v, xs.length, 1, (g 0).cs⟩) (List.mem_cons_self ..)
    rw [hcs] at this
    exact this
  obtain ⟨_, ao, c, hv, hc1, hc2, hc3, hcell⟩ := hrd
  obtain ⟨ad, rfl, h0⟩ := hcell 0 (Value.string xs[0]) (by rw [List.getElem?_map, List.getElem?_eq_getElem (by omega)]; rfl)
  obtain ⟨bk, o, spot⟩ := ad
  have hsp : spot = none := by
    cases spot with
    | none => rfl
    | some s =>
      unfold World.cell? at h0
      simp only [Addr.add] at h0
      split at h0
      · simp at h0
      · cases h0
  subst hsp
  have hcells : ∀ (j : Nat) x, xs[j]? = some x → w.cell? ⟨bk, o + j, none⟩ = some (.string x) := fun j x hj => by
    obtain ⟨ad', ha, hc⟩ := hcell j (.string x) (by rw [List.getElem?_map, hj]; rfl)
    cases ha
    rw [add_plain] at hc
    exact hc
  have hbk : bk < w.heap.size := World.block_lt_of_cell? w _ (hcells 0 xs[0] (List.getElem?_eq_getElem (by omega)))
  have hgo := Tryd.strings_Join bk o c xs sep w hcells hbk (by omega) hc1 h3
  have harg : (List.map (fun p => encS g p.2) (⟨[(0, .v (.a (.sl 0))), (1, .v (.a (.fl .str sep)))], [.row 9 .str xs .lent false], [], .nil⟩ : St).slots) = [.slice (some ⟨bk, o, none⟩) xs.length c, .string sep] := by
    simp [encS, encV, val1, hv]
  rw [harg]
  refine Calls.mono hgo ?_
  rintro e w' ⟨rfl, hb⟩
  exact ⟨_, rfl, rfl, fr_below hb⟩

/-! ### strings.Repeat -/
def L_strings_Repeat (k : Nat) (x : ByteArray × Int) : Option ByteArray :=
  guardO (0 ≤ x.2 ∧ x.2 ≤ 9223372036854775807 ∧ x.1.size * x.2.toNat ≤ 140737488355328) (some ⟨(Lib.repeatL x.1.data.toList x.2.toNat).toArray⟩)
theorem L_strings_Repeat_ok : ConOk Tryd.prog ⟨74, ⟨[(0, .v (.a (.fl .str))), (1, .v (.a (.fl (.int .i64))))], [], []⟩, [⟨[(100000, .v (.a (.fl .str)))], [], []⟩], L_strings_Repeat⟩ := by
  refine con_lib1 (t := .str) (pat := ⟨[(0, .v (.a (.fl .str))), (1, .v (.a (.fl (.int .i64))))], [], []⟩) rfl rfl (by decide) ?_
  intro k x y S w hf hp
  obtain ⟨s, m⟩ : ByteArray × Int := x
  have hf : L_strings_Repeat k (s, m) = some y := hf
  obtain rfl : S = ⟨[(0, .v (.a (.fl .str s))), (1, .v (.a (.fl (.int .i64) m)))], [], [], .nil⟩ := Option.some.inj (hp.symm.trans rfl)
  unfold L_strings_Repeat at hf
  obtain ⟨⟨h1, h2, h3⟩, hf⟩ := guardO_some.1 hf
  cases hf
  simp only at h1 h2 h3
  obtain ⟨n, rfl⟩ : ∃ n : Nat, m = (n : Int) := ⟨m.toNat, by omega⟩
  rw [Int.toNat_natCast] at h3
  refine Calls.mono (Tryd.strings_Repeat s n w (by omega) h3) ?_
  rintro e w' ⟨rfl, hb⟩
  exact ⟨_, rfl, by rw [Int.toNat_natCast]; rfl, fr_below hb⟩

/-! ### slices.Clone -/
theorem clone_walk37 (xs : List (Ty.den (.arr 32 (.int .u8)))) (v : Value) (w : World) (hr : Rds v xs.length (Ty.sz (.arr 32 (.int .u8))) (xs.flatMap (flatT (.arr 32 (.int .u8))).cells) w) (hb : xs.length * 32 ≤ 140737488355328) :
    Fn Tryd.prog 37 [v] w (fun r w' => Fr nob w w' ∧ w'.ownsRow 0 31 (Ty.sz (.arr 32 (.int .u8))) r xs.length (xs.flatMap (flatT (.arr 32 (.int .u8))).cells) ∧ ∀ b, r.ownBlock = some b → w.heap.size ≤ b) := by
  obtain ⟨hcs, ao, c, rfl, hc1, hc2, hc3, hrd⟩ := hr
  refine f_enter (fn := Tryd.f37) (k := 7) rfl rfl rfl fun a hS => ?_
  have hS : Sl 8 [(0, .slice ao xs.length c)] a := hS
  refine c_seq (by kernel_rfl) (c_region (by kernel_rfl) ?_)
  refine wl_pures (j := 1) hS 1 [0] (m' := [(0, .slice ao xs.length c)]) (by kernel_rfl) (by kernel_rfl) fun a hS => wl_nil (by kernel_rfl) (q_then ?_)
  cases ao with
  | none =>
    obtain rfl := hc3 rfl
    have hx : xs = [] := List.eq_nil_of_length_eq_zero (by omega)
    subst hx
    refine c_seq (by kernel_rfl) (c_seq (by kernel_rfl) (c_region (by kernel_rfl) ?_))
    refine wl_pures (j := 1) hS 1 [0, 3] (m' := [(0, .slice none 0 0), (3, .slice none 0 0)]) (by kernel_rfl) (by kernel_rfl) fun a hS => ?_
    refine wl_val hS (v := .bool true) (d := some 4) (op := .binOp .eql 40 (.tmp 3) (.const (.slice none 0 0)) 40) (g := none) (by kernel_rfl) (by kernel_rfl) (r_eqnil (e := 31) (ao := none) rfl rfl (by kernel_rfl)) fun a hS => wl_nil (by kernel_rfl) (q_then ?_)
    refine c_cond (t := true) (by kernel_rfl) (hS.ev (x := .tmp 4) rfl) (fun _ => ?_) (fun h => by cases h)
    refine c_seq (by kernel_rfl) (c_region (by kernel_rfl) ?_)
    refine wl_pures (j := 1) hS 1 [2] (m' := [(2, .slice none 0 0)]) (by kernel_rfl) (by kernel_rfl) fun a hS => wl_nil (by kernel_rfl) (q_then ?_)
    exact c_ret (by kernel_rfl) (q_thenr (q_ret (vs := [.slice none 0 0]) hS rfl ⟨_, rfl, Fr.refl _ _, World.ownsRow_nil w _ _ _, fun b hb => by cases hb⟩))
  | some ad =>
    refine c_seq (by kernel_rfl) (c_seq (by kernel_rfl) (c_region (by kernel_rfl) ?_))
    refine wl_pures (j := 1) hS 1 [0, 3] (m' := [(0, .slice (some ad) xs.length c), (3, .slice (some ad) xs.length c)]) (by kernel_rfl) (by kernel_rfl) fun a hS => ?_
    refine wl_val hS (v := .bool false) (d := some 4) (op := .binOp .eql 40 (.tmp 3) (.const (.slice none 0 0)) 40) (g := none) (by kernel_rfl) (by kernel_rfl) (r_eqnil (e := 31) (ao := some ad) rfl rfl (by kernel_rfl)) fun a hS => wl_nil (by kernel_rfl) (q_then ?_)
    refine c_cond (t := false) (by kernel_rfl) (hS.ev (x := .tmp 4) rfl) (fun h => by cases h) (fun _ => c_skip (by kernel_rfl) (q_then ?_))
    refine c_seq (by kernel_rfl) (c_region (by kernel_rfl) ?_)
    refine wl_eff (d := some 5) (op := .buildSlice 40 0 #[]) (g := none) hS (by kernel_rfl) (by kernel_rfl) (eff_slit (e := 31) (sz := Ty.sz (.arr 32 (.int .u8))) (cs := []) (ctx0 w) (by kernel_rfl) (by simp) (by omega)) ?_
    rintro _ w1 ⟨⟨b, rfl⟩, C⟩ a hS
    refine wl_pures (j := 2) hS 1 [5, 6] (m' := [(5, .slice (some ⟨b, 0, none⟩) 0 0), (6, .slice (some ad) xs.length c)]) (by kernel_rfl) (by kernel_rfl) fun a hS => ?_
    have hsrc : Rds (.slice (some ad) xs.length c) xs.length (Ty.sz (.arr 32 (.int .u8))) (xs.flatMap (flatT (.arr 32 (.int .u8))).cells) w1 := (rdE true _ _ _ _).keep ⟨hcs, some ad, c, rfl, hc1, hc2, hc3, hrd⟩ C.fr (fun _ _ h => h)
    refine wl_eff (d := some 7) (op := .call { callee := .builtin .append, args := #[.tmp 5, .tmp 6], argTypes := #[40, 40] }) (g := none) hS (by kernel_rfl) (by kernel_rfl)
      (eff_append (li := 0) (n := 0) (m := xs.length) (sz := Ty.sz (.arr 32 (.int .u8))) (bytes := 32) (e := 31) (z := zOf Tryd.prog 40) (xs := []) C rfl rfl rfl hsrc (fun u hu => by
        obtain ⟨x, _, hx⟩ := List.mem_flatMap.1 hu
        exact (flatT (.arr 32 (.int .u8))).one x u hx) (by kernel_rfl) (by kernel_rfl) (by decide) (by omega) (by decide)) ?_
    intro r w2 C2 a hS
    refine wl_pures (j := 4) hS 1 [2] (m' := [(2, r)]) (by kernel_rfl) (by kernel_rfl) fun a hS => wl_nil (by kernel_rfl) (q_then ?_)
    have hown : w2.ownsRow 0 31 (Ty.sz (.arr 32 (.int .u8))) r xs.length (xs.flatMap (flatT (.arr 32 (.int .u8))).cells) := by
      have := (C2.okL 0 _ rfl : (rowE r 31 (Ty.sz (.arr 32 (.int .u8))) (0 + xs.length) ([] ++ xs.flatMap (flatT (.arr 32 (.int .u8))).cells)).ok w2)
      rwa [Nat.zero_add, List.nil_append] at this
    refine c_ret (by kernel_rfl) (q_ret (vs := [r]) hS rfl ⟨_, rfl, C2.fr, hown, fun b' hb' => ?_⟩)
    rcases C2.mine 0 _ rfl b' hb' with h | h
    · exact h.elim
    · exact h
def L_clone37 (k : Nat) (x : List (Ty.den (.arr 32 (.int .u8)))) : Option (List (Ty.den (.arr 32 (.int .u8)))) := guardO (x.length * 32 ≤ 140737488355328) (some x)
theorem L_clone37_ok : ConOk Tryd.prog ⟨37, ⟨[(0, .v (.a (.sl 0)))], [], [.row 31 (.arr 32 (.int .u8)) .lent]⟩, [⟨[(100000, .v (.a (.sl 1)))], [], [.row 31 (.arr 32 (.int .u8)) .own]⟩], L_clone37⟩ := by
  refine con_libRow (pat := ⟨[(0, .v (.a (.sl 0)))], [], [.row 31 (.arr 32 (.int .u8)) .lent]⟩) 1 (by decide) (fun x S h => by obtain rfl := (Option.some.inj (h.symm.trans rfl) : S = ⟨[(0, .v (.a (.sl 0)))], [.row 31 (.arr 32 (.int .u8)) x .lent false], [], .nil⟩); rfl) rfl ?_
  intro k (xs : List (Ty.den (.arr 32 (.int .u8)))) y S g w hf hp CAL _ hR
  obtain rfl : S = ⟨[(0, .v (.a (.sl 0)))], [.row 31 (.arr 32 (.int .u8)) xs .lent false], [], .nil⟩ := Option.some.inj (hp.symm.trans rfl)
  have hf : L_clone37 k xs = some y := hf
  unfold L_clone37 at hf
  obtain ⟨h1, hf⟩ := guardO_some.1 hf
  cases hf
  have hrep : RepL (RepP (.arr 32 (.int .u8))) xs (g 0).cs (g 0).fs := (CAL.ob 0).1
  have hcs := ((RepL_flat (.arr 32 (.int .u8)) rfl _ _ _).1 hrep).1
  have hrd : Rds (g 0).v xs.length (Ty.sz (.arr 32 (.int .u8))) (xs.flatMap (flatT (.arr 32 (.int .u8))).cells) w := by
    have := hR 0 (⟨(g 0).v, xs.length, Ty.sz (.arr 32 (.int .u8)), (g 0).cs⟩) (List.mem_cons_self ..)
    rw [hcs] at this
    exact this
  exact clone_walk37 xs (g 0).v w hrd h1

/-! ### slices.Clone -/
theorem clone_walk29 (xs : List (Ty.den (.pair (.int .i64) (.pair (.int .i64) (.arr 32 (.int .u8)))))) (v : Value) (w : World) (hr : Rds v xs.length (Ty.sz (.pair (.int .i64) (.pair (.int .i64) (.arr 32 (.int .u8))))) (xs.flatMap (flatT (.pair (.int .i64) (.pair (.int .i64) (.arr 32 (.int .u8))))).cells) w) (hb : xs.length * 48 ≤ 140737488355328) :
    Fn Tryd.prog 29 [v] w (fun r w' => Fr nob w w' ∧ w'.ownsRow 0 33 (Ty.sz (.pair (.int .i64) (.pair (.int .i64) (.arr 32 (.int .u8))))) r xs.length (xs.flatMap (flatT (.pair (.int .i64) (.pair (.int .i64) (.arr 32 (.int .u8))))).cells) ∧ ∀ b, r.ownBlock = some b → w.heap.size ≤ b) := by
  obtain ⟨hcs, ao, c, rfl, hc1, hc2, hc3, hrd⟩ := hr
  refine f_enter (fn := Tryd.f29) (k := 7) rfl rfl rfl fun a hS => ?_
  have hS : Sl 8 [(0, .slice ao xs.length c)] a := hS
  refine c_seq (by kernel_rfl) (c_region (by kernel_rfl) ?_)
  refine wl_pures (j := 1) hS 1 [0] (m' := [(0, .slice ao xs.length c)]) (by kernel_rfl) (by kernel_rfl) fun a hS => wl_nil (by kernel_rfl) (q_then ?_)
  cases ao with
  | none =>
    obtain rfl := hc3 rfl
    have hx : xs = [] := List.eq_nil_of_length_eq_zero (by omega)
    subst hx
    refine c_seq (by kernel_rfl) (c_seq (by kernel_rfl) (c_region (by kernel_rfl) ?_))
    refine wl_pures (j := 1) hS 1 [0, 3] (m' := [(0, .slice none 0 0), (3, .slice none 0 0)]) (by kernel_rfl) (by kernel_rfl) fun a hS => ?_
    refine wl_val hS (v := .bool true) (d := some 4) (op := .binOp .eql 22 (.tmp 3) (.const (.slice none 0 0)) 22) (g := none) (by kernel_rfl) (by kernel_rfl) (r_eqnil (e := 33) (ao := none) rfl rfl (by kernel_rfl)) fun a hS => wl_nil (by kernel_rfl) (q_then ?_)
    refine c_cond (t := true) (by kernel_rfl) (hS.ev (x := .tmp 4) rfl) (fun _ => ?_) (fun h => by cases h)
    refine c_seq (by kernel_rfl) (c_region (by kernel_rfl) ?_)
    refine wl_pures (j := 1) hS 1 [2] (m' := [(2, .slice none 0 0)]) (by kernel_rfl) (by kernel_rfl) fun a hS => wl_nil (by kernel_rfl) (q_then ?_)
    exact c_ret (by kernel_rfl) (q_thenr (q_ret (vs := [.slice none 0 0]) hS rfl ⟨_, rfl, Fr.refl _ _, World.ownsRow_nil w _ _ _, fun b hb => by cases hb⟩))
  | some ad =>
    refine c_seq (by kernel_rfl) (c_seq (by kernel_rfl) (c_region (by kernel_rfl) ?_))
    refine wl_pures (j := 1) hS 1 [0, 3] (m' := [(0, .slice (some ad) xs.length c), (3, .slice (some ad) xs.length c)]) (by kernel_rfl) (by kernel_rfl) fun a hS => ?_
    refine wl_val hS (v := .bool false) (d := some 4) (op := .binOp .eql 22 (.tmp 3) (.const (.slice none 0 0)) 22) (g := none) (by kernel_rfl) (by kernel_rfl) (r_eqnil (e := 33) (ao := some ad) rfl rfl (by kernel_rfl)) fun a hS => wl_nil (by kernel_rfl) (q_then ?_)
    refine c_cond (t := false) (by kernel_rfl) (hS.ev (x := .tmp 4) rfl) (fun h => by cases h) (fun _ => c_skip (by kernel_rfl) (q_then ?_))
    refine c_seq (by kernel_rfl) (c_region (by kernel_rfl) ?_)
    refine wl_eff (d := some 5) (op := .buildSlice 22 0 #[]) (g := none) hS (by kernel_rfl) (by kernel_rfl) (eff_slit (e := 33) (sz := Ty.sz (.pair (.int .i64) (.pair (.int .i64) (.arr 32 (.int .u8))))) (cs := []) (ctx0 w) (by kernel_rfl) (by simp) (by omega)) ?_
    rintro _ w1 ⟨⟨b, rfl⟩, C⟩ a hS
    refine wl_pures (j := 2) hS 1 [5, 6] (m' := [(5, .slice (some ⟨b, 0, none⟩) 0 0), (6, .slice (some ad) xs.length c)]) (by kernel_rfl) (by kernel_rfl) fun a hS => ?_
    have hsrc : Rds (.slice (some ad) xs.length c) xs.length (Ty.sz (.pair (.int .i64) (.pair (.int .i64) (.arr 32 (.int .u8))))) (xs.flatMap (flatT (.pair (.int .i64) (.pair (.int .i64) (.arr 32 (.int .u8))))).cells) w1 := (rdE true _ _ _ _).keep ⟨hcs, some ad, c, rfl, hc1, hc2, hc3, hrd⟩ C.fr (fun _ _ h => h)
    refine wl_eff (d := some 7) (op := .call { callee := .builtin .append, args := #[.tmp 5, .tmp 6], argTypes := #[22, 22] }) (g := none) hS (by kernel_rfl) (by kernel_rfl)
      (eff_append (li := 0) (n := 0) (m := xs.length) (sz := Ty.sz (.pair (.int .i64) (.pair (.int .i64) (.arr 32 (.int .u8))))) (bytes := 48) (e := 33) (z := zOf Tryd.prog 22) (xs := []) C rfl rfl rfl hsrc (fun u hu => by
        obtain ⟨x, _, hx⟩ := List.mem_flatMap.1 hu
        exact (flatT (.pair (.int .i64) (.pair (.int .i64) (.arr 32 (.int .u8))))).one x u hx) (by kernel_rfl) (by kernel_rfl) (by decide) (by omega) (by decide)) ?_
    intro r w2 C2 a hS
    refine wl_pures (j := 4) hS 1 [2] (m' := [(2, r)]) (by kernel_rfl) (by kernel_rfl) fun a hS => wl_nil (by kernel_rfl) (q_then ?_)
    have hown : w2.ownsRow 0 33 (Ty.sz (.pair (.int .i64) (.pair (.int .i64) (.arr 32 (.int .u8))))) r xs.length (xs.flatMap (flatT (.pair (.int .i64) (.pair (.int .i64) (.arr 32 (.int .u8))))).cells) := by
      have := (C2.okL 0 _ rfl : (rowE r 33 (Ty.sz (.pair (.int .i64) (.pair (.int .i64) (.arr 32 (.int .u8))))) (0 + xs.length) ([] ++ xs.flatMap (flatT (.pair (.int .i64) (.pair (.int .i64) (.arr 32 (.int .u8))))).cells)).ok w2)
      rwa [Nat.zero_add, List.nil_append] at this
    refine c_ret (by kernel_rfl) (q_ret (vs := [r]) hS rfl ⟨_, rfl, C2.fr, hown, fun b' hb' => ?_⟩)
    rcases C2.mine 0 _ rfl b' hb' with h | h
    · exact h.elim
    · exact h
def L_clone29 (k : Nat) (x : List (Ty.den (.pair (.int .i64) (.pair (.int .i64) (.arr 32 (.int .u8)))))) : Option (List (Ty.den (.pair (.int .i64) (.pair (.int .i64) (.arr 32 (.int .u8)))))) := guardO (x.length * 48 ≤ 140737488355328) (some x)
theorem L_clone29_ok : ConOk Tryd.prog ⟨29, ⟨[(0, .v (.a (.sl 0)))], [], [.row 33 (.pair (.int .i64) (.pair (.int .i64) (.arr 32 (.int .u8)))) .lent]⟩, [⟨[(100000, .v (.a (.sl 1)))], [], [.row 33 (.pair (.int .i64) (.pair (.int .i64) (.arr 32 (.int .u8)))) .own]⟩], L_clone29⟩ := by
  refine con_libRow (pat := ⟨[(0, .v (.a (.sl 0)))], [], [.row 33 (.pair (.int .i64) (.pair (.int .i64) (.arr 32 (.int .u8)))) .lent]⟩) 1 (by decide) (fun x S h => by obtain rfl := (Option.some.inj (h.symm.trans rfl) : S = ⟨[(0, .v (.a (.sl 0)))], [.row 33 (.pair (.int .i64) (.pair (.int .i64) (.arr 32 (.int .u8)))) x .lent false], [], .nil⟩); rfl) rfl ?_
  intro k (xs : List (Ty.den (.pair (.int .i64) (.pair (.int .i64) (.arr 32 (.int .u8)))))) y S g w hf hp CAL _ hR
  obtain rfl : S = ⟨[(0, .v (.a (.sl 0)))], [.row 33 (.pair (.int .i64) (.pair (.int .i64) (.arr 32 (.int .u8)))) xs .lent false], [], .nil⟩ := Option.some.inj (hp.symm.trans rfl)
  have hf : L_clone29 k xs = some y := hf
  unfold L_clone29 at hf
  obtain ⟨h1, hf⟩ := guardO_some.1 hf
  cases hf
  have hrep : RepL (RepP (.pair (.int .i64) (.pair (.int .i64) (.arr 32 (.int .u8))))) xs (g 0).cs (g 0).fs := (CAL.ob 0).1
  have hcs := ((RepL_flat (.pair (.int .i64) (.pair (.int .i64) (.arr 32 (.int .u8)))) rfl _ _ _).1 hrep).1
  have hrd : Rds (g 0).v xs.length (Ty.sz (.pair (.int .i64) (.pair (.int .i64) (.arr 32 (.int .u8))))) (xs.flatMap (flatT (.pair (.int .i64) (.pair (.int .i64) (.arr 32 (.int .u8))))).cells) w := by
    have := hR 0 (⟨(g 0).v, xs.length, Ty.sz (.pair (.int .i64) (.pair (.int .i64) (.arr 32 (.int .u8)))), (g 0).cs⟩) (List.mem_cons_self ..)
    rw [hcs] at this
    exact this
  exact clone_walk29 xs (g 0).v w hrd h1

end Go.Proofs.YtindlajlkghneaaDoor
