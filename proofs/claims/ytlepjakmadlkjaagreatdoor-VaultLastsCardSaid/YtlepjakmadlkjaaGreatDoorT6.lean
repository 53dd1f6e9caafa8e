/- Texts of the proof, put together: part 6. No condition. -/
import Derived.Test.YtlepjakmadlkjaaGreatDoorT5
import Derived.Lib.AppendZeros
import Derived.Lib.Overlaps
import Derived.Laws.CopyRow
import Derived.Shelf.Strings.Builder1
import Derived.Shelf.Strings.Builder2
import Derived.Shelf.Strings.OnBuilder
import Derived.Shelf.Strings.BuilderF
import Derived.Shelf.Strings.BuilderK
import Derived.Shelf.Strings.Builder2Cap
import Derived.Shelf.Strconv.Itoa0
import Derived.Shelf.Strings.Prefix
import Derived.Shelf.Bits.Mul64
import Derived.Shelf.Strings.Repeat
import Derived.Shelf.Strings.BuilderCap
import Derived.Test.YtlepjakmadlkjaaGreatDoorProg
set_option linter.unusedVariables false
set_option linter.unusedSimpArgs false
namespace Go.Proofs.YtlepjakmadlkjaaGreatDoor
open Go
def zD {α β : Type} (B : (Nat → α → Option β) → Nat → α → Option β) : Nat → Nat → α → Option β
 | 0 => fun _ _ => none
 | n + 1 => B (zD B n)
theorem Cm {P : Program} {Γ : List Con} {inl : List Nat} {bk : List Bk} (hm : P.follows .mixedOrders = true) (hbk : ∀ B ∈ bk, BkOk P B) (hΓ : ∀ c ∈ Γ, al P c) {f : Nat} {pat : NSh} {c : Cls} {pl : Plan} {o : List NSh}
 {B : (Nat → HL pat.codes → Option (fC (o.map NSh.codes))) → Nat → HL pat.codes → Option (fC (o.map NSh.codes))}
 (hB : (fun r => yQ P (⟨f, pat, o, r⟩ :: Γ) inl bk f pat c pl) = fun r => ⟨f, pat, o, B r⟩) (hg : sS P f pat.slots.length = true) :
 al P ⟨f, pat, o, fun k => zD B k k⟩ := by
 have all : ∀ n, al P ⟨f, pat, o, zD B n⟩ := by
  intro n
  induction n with
  | zero =>
    intro k x y S m gs hrun
    cases hrun
  | succ n ih =>
    have h := congrFun hB (zD B n)
    have h2 := zy (inl := inl) hm hbk (ah ih hΓ) (c := c) (pl := pl) hg
    rw [show yQ P (⟨f, pat, o, zD B n⟩ :: Γ) inl bk f pat c pl = ⟨f, pat, o, B (zD B n)⟩ from h] at h2
    exact h2
 intro k
 exact all k k
end Go.Proofs.YtlepjakmadlkjaaGreatDoor
namespace Go.Proofs.YtlepjakmadlkjaaGreatDoor
open Go
theorem FM {P : Program} {f : Nat} {pat : NSh} {t : Ty} {F : Nat → HL pat.codes → Option t.den} (hk : ∀ t ∈ pat.slots.map (·.1), t < rG)
 (h : ∀ k x y S g w, F k x = some y → iV pat x = some S → Cal g S → (∀ i, (an g i (S.ob i)).ok w) → (∀ i, (az g i (S.ob i)).ok w) → Fn P f (S.slots.map fun p => aq g p.2) w (fun v w' => v = aJ vL (.fl t y) ∧ Fr nob w w')) :
 al P ⟨f, pat, [⟨[(rB, .v (.a (.fl t)))], [], []⟩], F⟩ := by
 refine oM hk ?_
 intro k x y S hrun hpat hkeys g w D A CAL C
 have hy : F k x = some y := hrun
 refine Calls.mono (h k x y S g w hy hpat CAL C.okL C.okR) ?_
 rintro e w' ⟨v, rfl, rfl, hfr⟩
 have hN : fiN ⟨[(rB, .v (.a (.fl t)))], [], []⟩ [⟨t, y⟩] = some ⟨[(rB, .v (.a (.fl t y)))], [], []⟩ := by
  have key : ∀ z : t.den, fiN ⟨[(rB, .v (.a (.fl t)))], [], []⟩ [⟨t, z⟩] = some ⟨[(rB, .v (.a (.fl t z)))], [], []⟩ := fun z => by
   have hc : ct (a := t) (b := t) z = some z := cm z
   simp only [fiN, bo, fiP, fiS, fiV, fiA, hc, Option.map_some]
  exact key y
 refine ⟨_, rfl, 0, [⟨t, y⟩], _, _, .v (.a (.fl t y)), g, fun R q => rfl, rfl, hN, rfl, ?_, rfl, (fun o ho => by cases ho), ⟨fun i => ?_, fun p hp => ?_, fun p hp o ho => ?_, fun i T ls hi => ?_⟩, ?_, ?_⟩
 ·cases t <;> rfl
 ·have : (aB S ⟨[(rB, .v (.a (.fl t y)))], [], []⟩).ob i = S.ob i := by simp [aB, St.ob]
  rw [this]; exact CAL.ob i
 ·simp only [aB, List.mem_singleton] at hp; subst hp; rfl
 ·simp only [aB, List.mem_singleton] at hp; subst hp; cases ho
 ·have : (aB S ⟨[(rB, .v (.a (.fl t y)))], [], []⟩).ob i = S.ob i := by simp [aB, St.ob]
  rw [this] at hi
  have := CAL.rb i T ls hi
  simpa [aB] using this
 ·have e : (fun i => an g i ((aB S ⟨[(rB, .v (.a (.fl t y)))], [], []⟩).ob i)) = fun i => an g i (S.ob i) := by
   funext i; congr 1; simp [aB, St.ob]
  have e' : (fun i => az g i ((aB S ⟨[(rB, .v (.a (.fl t y)))], [], []⟩).ob i)) = fun i => az g i (S.ob i) := by
   funext i; congr 1; simp [aB, St.ob]
  have := jM C hfr
  unfold Cx
  rw [e, e']
  exact this
 ·refine ⟨by simp [aB], fun i hi => ⟨rfl, rfl⟩, fun i hi hm => ⟨by simp [aB, St.ob], rfl⟩, (fun i hi => by cases hi), fun t ht => absurd trivial ht, fun i hi e t xs m fu he => ⟨e, xs, m, fu, ?_, rfl⟩⟩
  rw [← he]; simp [aB, St.ob]
theorem wR {w : World} {e sz n : Nat} {r : Value} {xs : List Value} (h : w.ownsRow 0 e sz r n xs) : ∃ ao cap, r = .slice ao n cap ∧ (ao = none → n = 0) := by
 rcases h.2 with ⟨rfl, rfl⟩ | ⟨q, cap, cur, rfl, _⟩
 ·exact ⟨none, 0, rfl, fun _ => rfl⟩
 ·exact ⟨_, cap, rfl, fun h => by cases h⟩
theorem Kt {e : Nat} {u : Ty} {m : Md} (z : (Ty.sl e u).den) : fiO (.row e u m) [⟨.sl e u, z⟩] = some (.row e u z m false, []) := by
 have hc : ct (a := .sl e u) (b := .sl e u) z = some z := cm (t := .sl e u) z
 simp only [fiO, hc, Option.map_some]
theorem uY {P : Program} {f : Nat} {pat : NSh} {e : Nat} {u : Ty} {F : Nat → HL pat.codes → Option (List u.den)} (np : Nat) (hk : ∀ t ∈ pat.slots.map (·.1), t < rG)
 (hnp : ∀ x S, iV pat x = some S → S.obs.length = np) (hfl : u.flat = true)
 (h : ∀ k x y S g w, F k x = some y → iV pat x = some S → Cal g S → (∀ i, (an g i (S.ob i)).ok w) → (∀ i, (az g i (S.ob i)).ok w) → Fn P f (S.slots.map fun p => aq g p.2) w
  (fun r w' => Fr nob w w' ∧ w'.ownsRow 0 e u.sz r y.length (y.flatMap (am u).cells) ∧ ∀ b, r.ownBlock = some b → w.heap.size ≤ b)) (hmB : e < mB := by decide) :
 al P ⟨f, pat, [⟨[(rB, .v (.a (.sl np)))], [], [.row e u .own]⟩], F⟩ := by
 refine oM hk ?_
 intro k x y0 S hrun hpat hkeys g w D A CAL C
 obtain ⟨y, rfl⟩ : ∃ y : List u.den, y = y0 := ⟨y0, rfl⟩
 have hy : F k x = some y := hrun
 have hlen := hnp x S hpat
 refine Calls.mono (h k x y S g w hy hpat CAL C.okL C.okR) ?_
 rintro _ w' ⟨r, rfl, hfr, hown, hnew⟩
 obtain ⟨ao, cap, rfl, hao⟩ := wR hown
 obtain ⟨g', hg'⟩ : ∃ g' : Env, g' = fun i => if i = np then ⟨.slice ao y.length cap, rfl, (0, fun _ => 0), y.flatMap (am u).cells, [], []⟩ else g i := ⟨_, rfl⟩
 have g0 : ∀ i, i ≠ np → g' i = g i := fun i hi => by rw [hg']; simp [hi]
 have g1 : g' np = ⟨.slice ao y.length cap, rfl, (0, fun _ => 0), y.flatMap (am u).cells, [], []⟩ := by rw [hg']; simp
 have hN : fiN ⟨[(rB, .v (.a (.sl np)))], [], [.row e u .own]⟩ [⟨.sl e u, y⟩] = some ⟨[(rB, .v (.a (.sl np)))], [], [.row e u y .own false]⟩ := by
  simp only [fiN, bo, fiP, fiS, fiV, fiA, Kt, Option.map_some]
 have ob1 : (aB S ⟨[(rB, .v (.a (.sl np)))], [], [.row e u y .own false]⟩).ob np = .row e u y .own false := by
  simp [aB, St.ob, ← hlen]
 have ob0 : ∀ i, i ≠ np → (aB S ⟨[(rB, .v (.a (.sl np)))], [], [.row e u y .own false]⟩).ob i = S.ob i := by
  intro i hi
  simp only [aB, St.ob, List.foldl_nil, List.getD_eq_getElem?_getD]
  rcases Nat.lt_trichotomy i S.obs.length with h | h | h
  ·rw [List.getElem?_append_left h]
  ·exact (hi (h.trans hlen)).elim
  ·rw [List.getElem?_eq_none (by simp; omega), List.getElem?_eq_none (by omega)]
 have sob : S.ob np = .gone := by simp [St.ob, ← hlen]
 have ltn : ∀ i ob, S.ob i = ob → ob ≠ .gone → i < np := by
  intro i ob h1 h2
  rcases Nat.lt_or_ge i np with h | h
  ·exact h
  ·exact (h2 (by rw [← h1]; simp [St.ob, List.getD_eq_getElem?_getD, List.getElem?_eq_none (show S.obs.length ≤ i by omega)])).elim
 have hrefs : ∀ T ls i, S.ob i = .box T ls → ∀ z ∈ ls.flatMap aN, g' z = g z := fun T ls i hi z hz => g0 z (by have := CAL.rb i T ls hi z hz; omega)
 refine ⟨_, rfl, 0, [⟨.sl e u, y⟩], _, ⟨[(rB, .v (.a (.sl np)))], [], [.row e u y .own false]⟩, .v (.a (.sl np)), g', fun R q => rfl, rfl, hN, rfl, ?_, rfl, ?_, ⟨fun i => ?_, fun p hp => ?_, fun p hp o ho => ?_, fun i T ls hi => ?_⟩, ?_, ?_⟩
 ·simp only [aq, aU, aJ, g1]
 ·intro o ho
  simp only [aL, bi, aN, List.mem_singleton] at ho
  subst ho
  simp [aB, hlen]
 ·by_cases hi : i = np
  ·subst hi
   rw [ob1]
   simp only [obP, g1]
   exact ⟨(bN u hfl _ _ _).2 ⟨rfl, rfl⟩, ⟨ao, cap, rfl, hao⟩, fun h => by cases h⟩
  ·rw [ob0 i hi]; exact iN (g0 i hi) (CAL.ob i)
 ·simp only [aB, List.mem_singleton] at hp; subst hp; rfl
 ·simp only [aB, List.mem_singleton] at hp; subst hp
  simp only [aL, bi, aN, List.mem_singleton] at ho
  subst ho
  simp [aB, hlen]
 ·by_cases h : i = np
  ·subst h; rw [ob1] at hi; cases hi
  ·rw [ob0 i h] at hi
   intro o ho
   have := CAL.rb i T ls hi o ho
   simp only [aB, List.foldl_nil, List.length_append]
   omega
 ·have eL : ∀ i, i ≠ np → an g' i (S.ob i) = an g i (S.ob i) := fun i hi => iW (g0 i hi) (fun T ls h => hrefs T ls i h)
  have C2 : CtxF w D A (fun i => an g' i ((aB S ⟨[(rB, .v (.a (.sl np)))], [], [.row e u y .own false]⟩).ob i)) (fun i => az g i (S.ob i)) w' := by
   refine rM np (E' := eX (.slice ao y.length cap) e u.sz y.length (y.flatMap (am u).cells)) C (hfr.mono (fun x h => h.elim)) ((dX hmB).2 hown) (fun b hb => .inr (hnew b hb)) (fun i hi => ?_) ?_
   ·simp only [ob0 i hi, eL i hi]
   ·simp only [ob1, an, g1]
  refine qA C2 id (fun i => .inr (Sub1.refl _ _)) (fun i j hij _ _ => hij) (fun i => ?_)
  by_cases hi : i = np
  ·subst hi
   refine .inl ?_
   simp only [ob1, az, g1]
   exact ⟨fun b hb => (by obtain ⟨f, hf, _⟩ := hb; cases hf), fun f hf => (by cases hf)⟩
  ·refine .inr (.inl ⟨i, ?_, ?_⟩)
   ·simp only [ob0 i hi]
    rw [cQ (g0 i hi)]
    exact Sub1.refl _ _
   ·simp only [ob0 i hi]
    rw [cQ (g0 i hi)]
    exact id
 ·refine ⟨by simp [aB], fun i hi => ?_, fun i hi hm => ?_, (fun i hi => by cases hi), fun t ht => absurd trivial ht, fun i hi e' t xs m fu he => ?_⟩
  ·have : i ≠ np := by simp only at hi; omega
   rw [g0 i this]; exact ⟨rfl, rfl⟩
  ·have : i ≠ np := by simp only at hi; omega
   exact ⟨ob0 i this, g0 i this⟩
  ·have hne : i ≠ np := by simp only at hi; omega
   have he : (aB S ⟨[(rB, .v (.a (.sl np)))], [], [.row e u y .own false]⟩).ob i = .row e' t xs m fu := he
   rw [ob0 i hne] at he
   exact ⟨_, _, _, _, he, rfl⟩
theorem tI {P : Program} {ρ : Operand → Value} {w : World} {x y : Operand} {t t' e : TypeId} {ao : Option Addr} {n c m q : Nat} (hx : ρ x = .slice ao n c) (hy : ρ y = .slice none m q) (hu : P.underlying t = some (.slice e)) :
 cV P ρ (.binOp .eql t x y t') w (.bool ao.isNone) w := by
 intro o ho
 have hg : (eqGuard .eql t x y (.slice ao n c) (.slice none m q)).run P w = .ok () w := by unfold eqGuard; rfl
 have he : (Op.equal t (.slice ao n c) (.slice none m q)).run P w = .ok ao.isNone w := by
  unfold Op.equal Op.maxDepth
  rw [Op.equalIn.eq_def]
  cases ao <;> simp [run_underlying hu]
 have hb : (Go.binOp .eql t (.slice ao n c) (.slice none m q)).run P w = .ok (.bool ao.isNone) w := by
  show ((Op.equal t (.slice ao n c) (.slice none m q)) >>= fun b => pure (.bool b) : Sem Value).run P w = _
  simp [he]
 simp [execOp, ho, hx, hy, hg, hb]
section
variable {P : Program} {ρ : Operand → Value} {w : World}
theorem Lf {x : Operand} {t e : TypeId} {ao : Option Addr} {n c : Nat} (hx : ρ x = .slice ao n c) (hu : P.underlying t = some (.slice e)) : cV P ρ (.call { callee := .builtin .cap, args := #[x], argTypes := #[t] }) w (.int .i64 (c : Int)) w := by
 intro o ho
 simp [execOp, ho, resolve, invoke, builtin, hx, Builtin.cap_, run_underlying hu, goInt]
theorem Ku {ao : Option Addr} {n c sz : Nat} {t : TypeId} {x y : Operand} {h : Int} (hx : ρ x = .slice ao n c) (ht : cg P t = some sz) (hy : ρ y = .int .i64 h) (h0 : 0 ≤ h) (h1 : h ≤ (c : Int)) : cV P ρ (.slice t x none (some y) none) w (ik (.slice ao n c) 0 h.toNat sz) w := by
 unfold cg at ht
 split at ht
 ·rename_i e hu
  obtain ⟨q, hq, hs⟩ := Option.map_eq_some_iff.1 ht
  intro o ho
  have hb : (Instr.sliceBounds true n c none (some (.int .i64 h)) none).run P w = .ok (0, h.toNat, c) w := by
   have hb1 : 0 ≤ h ∧ h ≤ (c : Int) := ⟨h0, h1⟩
   simp [Instr.sliceBounds, bY hb1]
  simp [execOp, ho, Instr.sliceAt, run_underlying hu, Instr.slice, hx, hy, hb, sizeOf, typeInfo, hq, hs, ik]
 ·cases ht
theorem oN {q n c sz h : Nat} : ik (.slice (some ⟨q, 0, none⟩) n c) 0 h sz = .slice (some ⟨q, 0, none⟩) h c := by simp [ik, bG]
theorem xU {q n c sz h : Nat} (hc : 2 ≤ c) : ik (.slice (some ⟨q, 0, none⟩) n c) 1 h sz = .slice (some ⟨q, sz, none⟩) (h - 1) (c - 1) := by
 simp only [ik, if_neg (show ¬ c = 1 by omega), Option.map_some, bG, Nat.zero_add, Nat.one_mul]
theorem tJ {dT sT : TypeId} {sz q o dl dc sl sc : Nat} {cur : Array Value} {T : TypeId} {ad : Addr} {cs : List Value} {d s : Operand} (ht : cg P dT = some sz) (hd : ρ d = .slice (some ⟨q, o, none⟩) dl dc) (hs : ρ s = .slice (some ad) sl sc)
 (hg : w.heap[q]? = some (.cells cur T (0, 0))) (hcs : cs.length = Nat.min sl dl * sz) (hsrc : ∀ (j : Nat) u, cs[j]? = some u → w.cell? (ad.add j) = some u) (hfit : o + cs.length ≤ cur.size) (h1 : ∀ v ∈ cs, v.oneCell' = true) :
 Eff P ρ (.call { callee := .builtin .copy, args := #[d, s], argTypes := #[dT, sT] }) w (fun v' w' => w' = w.setRow q (cur.toList.take o ++ cs ++ cur.toList.drop (o + cs.length)).toArray) := by
 unfold cg at ht
 split at ht
 ·rename_i e' hu
  obtain ⟨i, hi', hsz⟩ := Option.map_eq_some_iff.1 ht
  have hld : (loadCells ad (Nat.min sl dl * sz)).run P w = .ok cs.toArray w := by
   have := run_loadCells_list (P := P) w ad cs hsrc
   rwa [hcs] at this
  have hst := run_storeCells_at P q o T cs 0 cur w hg (by simpa using hfit) h1
  refine cn (v := .int .i64 ((Nat.min sl dl : Nat) : Int)) (w' := w.setRow q (cur.toList.take o ++ cs ++ cur.toList.drop (o + cs.length)).toArray) ?_ rfl
  intro oo ho
  have hst' : (storeCells ⟨q, o, none⟩ cs).run P w = .ok () (w.setRow q (cur.toList.take o ++ cs ++ cur.toList.drop (o + cs.length)).toArray) := by simpa using hst
  simp [execOp, ho, resolve, invoke, builtin, hd, hs, Builtin.copy_, run_underlying hu, Builtin.lenOf, Builtin.firstCells, sizeOf, typeInfo, hi', hsz, hld, hst', goInt]
 ·cases ht
theorem Dp {t tn e sz bytes : Nat} {ki : IntKind} {z : Value} {s x : Operand} {ad : Addr} {c n : Nat} (ht : bp P t = some (e, sz, bytes, some z)) (htn : P.underlying tn = some (.int ki)) (hz : z.cells.size = sz) (h0 : 0 < sz)
 (hs : ρ s = .slice (some ad) 0 c) (hx : ρ x = .int .i64 (n : Int)) (hc : c < n) (hn : n * bytes ≤ 140737488355328) (h63 : n ≤ 9223372036854775807) :
 Eff P ρ (.call { callee := .builtin .append, args := #[s, x], argTypes := #[t, tn] }) w (fun v' w' => ∃ cap cur, v' = .slice (some ⟨w.heap.size, 0, none⟩) n cap ∧ n ≤ cap ∧ cap ≤ maxLen ∧ cur.size = cap * sz ∧ w'.heap[w.heap.size]? = some (.cells cur e (0, 0)) ∧ Fr nob w w') := by
 unfold bp at ht
 split at ht
 ·rename_i e' hu
  obtain ⟨i, hi, hh⟩ := Option.map_eq_some_iff.1 ht
  simp only [Prod.mk.injEq] at hh
  obtain ⟨rfl, rfl, rfl, hzero⟩ := hh
  have hnn : n ≠ 0 := by omega
  have hw : IntKind.i64.wrap (n : Int) = n := jO (by omega) (by omega)
  have hneed : ¬ (n ≤ c) := by omega
  have h63' : ¬ (9223372036854775807 < (n : Int)) := by omega
  have hfit := growslice_fits (need := n) (old := c) (bytes := i.bytes) hc hn
  have h48' : ¬ (281474976710656 < Builtin.nextslicecap n c * i.bytes) := by omega
  have h48i : ¬ (281474976710656 < (n : Int) * (i.bytes : Int)) := by
   rw [← Int.natCast_mul]; omega
  have hneg : ¬ ((n : Int) < 0) := by omega
  have hns : ¬ (n * i.size = 0) := Nat.mul_ne_zero hnn (by omega)
  have hfc : ∀ w' : World, (Builtin.firstCells i.size 0 (.slice (some ad) 0 c)).run P w' = .ok #[] w' := fun w' => by simp [Builtin.firstCells, loadCells, loadCellsFrom]
  have hrun : ∀ ty, (Builtin.append_ #[t, tn] ty #[.slice (some ad) 0 c, .int .i64 (n : Int)]).run P w =
   .ok (.slice (some ⟨w.heap.size, 0, none⟩) n (grownCap w n c e')) (w.drew.alloc (.cells (Builtin.zeroCells z.cells n ++ Builtin.zeroCells z.cells (grownCap w n c e' - n)) e')) := fun ty => by
   simp [Builtin.append_, run_underlying hu, run_underlying htn, sizeOf, typeInfo, zeroValue, hi, hzero, asInt, asIntOf, hw, hnn, hneg, hns, hneed, h63', h48', h48i, Question.forced, hfc, newRow, grownCap]
  have hge := grownCap_ge w n c e'
  refine cn (v := .slice (some ⟨w.heap.size, 0, none⟩) n (grownCap w n c e')) (w' := w.drew.alloc (.cells (Builtin.zeroCells z.cells n ++ Builtin.zeroCells z.cells (grownCap w n c e' - n)) e')) ?_ ⟨grownCap w n c e', _, rfl, hge, grownCap_le_maxLen w n c e' (by simp only [maxLen]; omega), ?_, heap_alloc_new w.drew _, (Fr.drawn w (w.drawn + 1)).then (Fr.alloc w.drew _)⟩
  ·intro o ho
   simp only [execOp, ho, resolve, invoke, builtin, hs, hx, Sem.run_bind, Sem.run_pure, Result.andThen_ok, List.map_toArray, List.map_cons, List.map_nil, hrun]
  ·rw [Array.size_append, size_zeroCells, size_zeroCells, hz, ← Nat.add_mul]
   congr 1; omega
 ·cases ht
theorem Dq {f : FuncId} {fn : Func} {x y : Operand} {tS tR e sz : TypeId} {a b : Addr} {la ca lb cb : Nat} {cA cB : Array Value} {TA TB : TypeId} (hf : P.funcs[f]? = some fn) (hname : (fn.name == "runtime.NumGoroutine") = false)
 (hb0 : fn.body.isNone = true) (hn : Extern.findNext fn = none) (he : Extern.find fn = some (Extern.SlicesOverlaps.overlaps #[tS, tS] #[tR])) (ht : P.underlying tS = some (.slice e)) (hz : (P.info? e).map (·.size) = some sz)
 (hv : ρ (.func f) = .func (.func f) #[] #[]) (hx : ρ x = .slice (some a) la ca) (hy : ρ y = .slice (some b) lb cb) (hne : a.block ≠ b.block) (hA : w.heap[a.block]? = some (.cells cA TA (0, 0))) (hB : w.heap[b.block]? = some (.cells cB TB (0, 0))) (hk : cB.size ≠ 0) :
 Eff P ρ (.call { callee := .value (.func f), args := #[x, y], argTypes := #[tS, tS] }) w (fun v' w' => v' = .bool false ∧ w' = w) := by
 obtain ⟨i, hi, hsz⟩ := Option.map_eq_some_iff.1 hz
 have hsz2 : ∀ w : World, (Go.sizeOf e).run P w = .ok sz w := fun w => by simp [sizeOf, typeInfo, hi, hsz]
 have hr := Lib.run_overlaps_apart (P := P) w tS tR e ht sz hsz2 a b la ca lb cb hne TA TB cA.size cB.size (by simp [World.shape?, hA]) (by simp [World.shape?, hB]) hk (by simp [World.frozen?, hA]) (by simp [World.frozen?, hA])
 have hcall := run_callFunc_extern hf hname hb0 hn he #[.slice (some a) la ca, .slice (some b) lb cb] w
 rw [hr] at hcall
 refine cn (v := .bool false) (w' := w) ?_ ⟨rfl, rfl⟩
 intro o ho
 simp only [execOp, ho, resolve, hv, Deferred.ofValue, Sem.run_bind, Sem.run_pure, Result.andThen_ok, invoke]
 have e : (#[] ++ (#[x, y] : Array Operand).map ρ) ++ #[] = #[.slice (some a) la ca, .slice (some b) lb cb] := by
  apply Array.toList_inj.1; simp [hx, hy]
 rw [e, hcall]
 rfl
end
theorem zE {P : Program} {f : Nat} {e : Nat} {u : Ty} {F : Nat → Int × List u.den × List u.den → Option (List u.den)} (hfl : u.flat = true)
 (h : ∀ k i xs vs ys v1 v2 w, F k (i, xs, vs) = some ys → w.ownsRow 0 e u.sz v1 xs.length (xs.flatMap (am u).cells) → w.ownsRow 0 e u.sz v2 vs.length (vs.flatMap (am u).cells) → (∀ b, v1.ownBlock = some b → v2.ownBlock ≠ some b) →
  Fn P f [v1, .int .i64 i, v2] w (fun r w' => Fr (fun b => v1.ownBlock = some b) w w' ∧ w'.ownsRow 0 e u.sz r ys.length (ys.flatMap (am u).cells) ∧ ∀ b, r.ownBlock = some b → v1.ownBlock = some b ∨ w.heap.size ≤ b)) (hmB : e < mB := by decide) :
 al P ⟨f, ⟨[(0, .v (.a (.sl 0))), (1, .v (.a (.fl (.int .i64)))), (2, .v (.a (.sl 1)))], [], [.row e u .own, .row e u .own]⟩, [⟨[(rB, .v (.a (.sl 2)))], [(0, .gone)], [.row e u .own]⟩], F⟩ := by
 refine oM (by intro t ht; simp only [List.map_cons, List.map_nil, List.mem_cons, List.not_mem_nil, or_false] at ht; rcases ht with rfl | rfl | rfl <;> decide) ?_
 intro k x0 y0 S hrun hpat hkeys g w D A CAL C
 obtain ⟨y, rfl⟩ : ∃ y : List u.den, y = y0 := ⟨y0, rfl⟩
 obtain ⟨i, xs, vs⟩ : Int × List u.den × List u.den := x0
 have hy : F k (i, xs, vs) = some y := hrun
 obtain rfl : S = ⟨[(0, .v (.a (.sl 0))), (1, .v (.a (.fl (.int .i64) i))), (2, .v (.a (.sl 1)))], [.row e u xs .own false, .row e u vs .own false], [], .nil⟩ := by
  have hi : ct (a := .int .i64) (b := .int .i64) i = some i := cm (t := .int .i64) i
  have hx : ct (a := .sl e u) (b := .sl e u) xs = some xs := cm (t := .sl e u) xs
  have hv : ct (a := .sl e u) (b := .sl e u) vs = some vs := cm (t := .sl e u) vs
  have h1 : fiN ⟨[(0, .v (.a (.sl 0))), (1, .v (.a (.fl (.int .i64)))), (2, .v (.a (.sl 1)))], [], [.row e u .own, .row e u .own]⟩ [⟨.int .i64, i⟩, ⟨.sl e u, xs⟩, ⟨.sl e u, vs⟩] = some ⟨[(0, .v (.a (.sl 0))), (1, .v (.a (.fl (.int .i64) i))), (2, .v (.a (.sl 1)))], [], [.row e u xs .own false, .row e u vs .own false]⟩ := by
   simp only [fiN, bo, fiP, fiS, fiV, fiA, fiO, hi, hx, hv, Option.map_some]
  have h3 : iV ⟨[(0, .v (.a (.sl 0))), (1, .v (.a (.fl (.int .i64)))), (2, .v (.a (.sl 1)))], [], [.row e u .own, .row e u .own]⟩ (i, xs, vs) = (fiN ⟨[(0, .v (.a (.sl 0))), (1, .v (.a (.fl (.int .i64)))), (2, .v (.a (.sl 1)))], [], [.row e u .own, .row e u .own]⟩ [⟨.int .i64, i⟩, ⟨.sl e u, xs⟩, ⟨.sl e u, vs⟩]).map fun N => fX ⟨[], [], [], .nil⟩ 0 N := rfl
  have h2 : iV ⟨[(0, .v (.a (.sl 0))), (1, .v (.a (.fl (.int .i64)))), (2, .v (.a (.sl 1)))], [], [.row e u .own, .row e u .own]⟩ (i, xs, vs) = some ⟨[(0, .v (.a (.sl 0))), (1, .v (.a (.fl (.int .i64) i))), (2, .v (.a (.sl 1)))], [.row e u xs .own false, .row e u vs .own false], [], .nil⟩ := by
   rw [h3, h1]; rfl
  exact Option.some.inj (hpat.symm.trans h2)
 have hob0 : gn (gL u) xs (g 0).cs (g 0).fs ∧ SlV (g 0).v xs.length ∧ (false = true → _) := CAL.ob 0
 have hob1 : gn (gL u) vs (g 1).cs (g 1).fs ∧ SlV (g 1).v vs.length ∧ (false = true → _) := CAL.ob 1
 obtain ⟨hcs0, hfs0⟩ := (bN u hfl _ _ _).1 hob0.1
 obtain ⟨hcs1, hfs1⟩ := (bN u hfl _ _ _).1 hob1.1
 have hown0 : w.ownsRow 0 e u.sz (g 0).v xs.length (xs.flatMap (am u).cells) := by
  have : (io (g 0).v e u.sz xs.length (g 0).cs).ok w := (dX hmB).1 (C.okL 0)
  rw [hcs0] at this; exact this
 have hown1 : w.ownsRow 0 e u.sz (g 1).v vs.length (vs.flatMap (am u).cells) := by
  have : (io (g 1).v e u.sz vs.length (g 1).cs).ok w := (dX hmB).1 (C.okL 1)
  rw [hcs1] at this; exact this
 have hsep : ∀ b, (g 0).v.ownBlock = some b → (g 1).v.ownBlock ≠ some b := fun b h0 h1 => C.sepL 0 1 (by decide) b h0 h1
 refine Calls.mono (h k i xs vs y (g 0).v (g 1).v w hy hown0 hown1 hsep) ?_
 rintro _ w' ⟨r, rfl, hfr, hown, hnew⟩
 obtain ⟨ao, cap, rfl, hao⟩ := wR hown
 obtain ⟨g', hg'⟩ : ∃ g' : Env, g' = fun i => if i = 2 then ⟨.slice ao y.length cap, rfl, (0, fun _ => 0), y.flatMap (am u).cells, [], []⟩ else g i := ⟨_, rfl⟩
 have g0 : ∀ i, i ≠ 2 → g' i = g i := fun i hi => by rw [hg']; simp [hi]
 have g2 : g' 2 = ⟨.slice ao y.length cap, rfl, (0, fun _ => 0), y.flatMap (am u).cells, [], []⟩ := by rw [hg']; simp
 have hN : fiN ⟨[(rB, .v (.a (.sl 2)))], [(0, .gone)], [.row e u .own]⟩ [⟨.sl e u, y⟩] = some ⟨[(rB, .v (.a (.sl 2)))], [(0, .gone)], [.row e u y .own false]⟩ := by
  have hyc : ct (a := .sl e u) (b := .sl e u) y = some y := cm (t := .sl e u) y
  simp only [fiN, bo, fiP, fiS, fiV, fiA, fiO, hyc, Option.map_some]
 obtain ⟨S0, hS0⟩ : ∃ S0 : St, S0 = ⟨[(0, .v (.a (.sl 0))), (1, .v (.a (.fl (.int .i64) i))), (2, .v (.a (.sl 1)))], [.row e u xs .own false, .row e u vs .own false], [], .nil⟩ := ⟨_, rfl⟩
 have ob : ∀ j, (aB ⟨[(0, .v (.a (.sl 0))), (1, .v (.a (.fl (.int .i64) i))), (2, .v (.a (.sl 1)))], [.row e u xs .own false, .row e u vs .own false], [], .nil⟩ ⟨[(rB, .v (.a (.sl 2)))], [(0, .gone)], [.row e u y .own false]⟩).ob j = if j = 1 then .row e u vs .own false else if j = 2 then .row e u y .own false else .gone := by
  intro j
  match j with
  | 0 => rfl
  | 1 => rfl
  | 2 => rfl
  | j + 3 => rfl
 have sob : ∀ j, (⟨[(0, .v (.a (.sl 0))), (1, .v (.a (.fl (.int .i64) i))), (2, .v (.a (.sl 1)))], [.row e u xs .own false, .row e u vs .own false], [], .nil⟩ : St).ob j = if j = 0 then .row e u xs .own false else if j = 1 then .row e u vs .own false else .gone := by
  intro j
  match j with
  | 0 => rfl
  | 1 => rfl
  | j + 2 => rfl
 refine ⟨_, rfl, 0, [⟨.sl e u, y⟩], _, ⟨[(rB, .v (.a (.sl 2)))], [(0, .gone)], [.row e u y .own false]⟩, .v (.a (.sl 2)), g', fun R q => rfl, rfl, hN, rfl, ?_, rfl, ?_, ⟨fun j => ?_, fun p hp => ?_, fun p hp o ho => ?_, fun j T ls hi => ?_⟩, ?_, ?_⟩
 ·simp only [aq, aU, aJ, g2]
 ·intro o ho
  simp only [aL, bi, aN, List.mem_singleton] at ho
  subst ho
  simp [aB]
 ·rw [ob]
  split
  ·rename_i hj; subst hj; exact iN (g0 1 (by decide)) hob1
  ·split
   ·rename_i hj; subst hj
    simp only [obP, g2]
    exact ⟨(bN u hfl _ _ _).2 ⟨rfl, rfl⟩, ⟨ao, cap, rfl, hao⟩, fun h => by cases h⟩
   ·trivial
 ·simp only [aB, List.mem_singleton] at hp; subst hp; rfl
 ·simp only [aB, List.mem_singleton] at hp; subst hp
  simp only [aL, bi, aN, List.mem_singleton] at ho
  subst ho
  simp [aB]
 ·rw [ob] at hi
  split at hi
  ·cases hi
  ·split at hi <;> cases hi
 ·obtain ⟨L2, hL2⟩ : ∃ L2 : Nat → Ent, L2 = fun j => if j = 0 then eX (.slice ao y.length cap) e u.sz y.length (y.flatMap (am u).cells) else an g j ((⟨[(0, .v (.a (.sl 0))), (1, .v (.a (.fl (.int .i64) i))), (2, .v (.a (.sl 1)))], [.row e u xs .own false, .row e u vs .own false], [], .nil⟩ : St).ob j) := ⟨_, rfl⟩
  have C2 : CtxF w D A L2 (fun j => az g j ((⟨[(0, .v (.a (.sl 0))), (1, .v (.a (.fl (.int .i64) i))), (2, .v (.a (.sl 1)))], [.row e u xs .own false, .row e u vs .own false], [], .nil⟩ : St).ob j)) w' := by
   refine rM 0 (E' := eX (.slice ao y.length cap) e u.sz y.length (y.flatMap (am u).cells)) C hfr ((dX hmB).2 hown) hnew (fun j hj => ?_) ?_
   ·rw [hL2]; simp only [if_neg hj]
   ·rw [hL2]; simp only [if_true]
  refine qA C2 (fun j => if j = 2 then 0 else if j = 0 then 2 else j) (fun j => ?_) (fun j j' hjj _ _ => ?_) (fun j => ?_)
  ·simp only [ob]
   by_cases h1 : j = 1
   ·subst h1
    refine .inr ?_
    simp only [if_true, hL2]
    rw [iW (g0 1 (by decide)) (fun T ls h => by cases h)]
    exact Sub1.refl _ _
   ·by_cases h2 : j = 2
    ·subst h2
     refine .inr ?_
     simp only [if_true, hL2, an, g2]
     exact Sub1.refl _ _
    ·refine .inl ?_
     simp only [if_neg h1, if_neg h2]
     exact ⟨fun b hb => hb.elim, trivial⟩
  ·show (if j = 2 then 0 else if j = 0 then 2 else j) ≠ (if j' = 2 then 0 else if j' = 0 then 2 else j')
   split <;> split <;> (try split) <;> (try split) <;> omega
  ·simp only [ob]
   by_cases h1 : j = 1
   ·subst h1
    refine .inr (.inl ⟨1, ?_, ?_⟩)
    ·simp only [if_true]
     rw [cQ (g0 1 (by decide))]
     exact Sub1.refl _ _
    ·simp only [if_true]
     rw [cQ (g0 1 (by decide))]
     exact id
   ·by_cases h2 : j = 2
    ·subst h2
     refine .inl ?_
     simp only [if_true, az, g2]
     exact ⟨fun b hb => (by obtain ⟨f, hf, _⟩ := hb; cases hf), fun f hf => (by cases hf)⟩
    ·refine .inl ?_
     simp only [if_neg h1, if_neg h2]
     exact ⟨fun b hb => hb.elim, trivial⟩
 ·refine ⟨by simp [aB], fun j hj => ?_, fun j hj hm => ?_, (fun j hj => by cases hj), fun t ht => absurd trivial ht, fun j hj e' t xs' m fu he => ?_⟩
  ·have : j ≠ 2 := by simp at hj; omega
   rw [g0 j this]; exact ⟨rfl, rfl⟩
  ·have h0 : j ≠ 0 := fun h => hm (by simp [h])
   have h1 : j = 1 := by simp at hj; omega
   subst h1
   exact ⟨rfl, g0 1 (by decide)⟩
  ·have he : (aB ⟨[(0, .v (.a (.sl 0))), (1, .v (.a (.fl (.int .i64) i))), (2, .v (.a (.sl 1)))], [.row e u xs .own false, .row e u vs .own false], [], .nil⟩ ⟨[(rB, .v (.a (.sl 2)))], [(0, .gone)], [.row e u y .own false]⟩).ob j = .row e' t xs' m fu := he
   rw [ob] at he
   have hj2 : j < 2 := by simpa using hj
   by_cases h1 : j = 1
   ·subst h1
    simp only [if_true] at he
    exact ⟨e', xs', m, fu, he, rfl⟩
   ·rw [if_neg h1, if_neg (by omega)] at he
    cases he
end Go.Proofs.YtlepjakmadlkjaaGreatDoor
namespace Go.Proofs
open Go.Shelf
open Go.RowKit in
open Go.RowKit in
open Go.RowKit in
open Go.RowKit in
open Go.RowKit in
open Go.RowKit in
def Tryz.lays156_ren : Go.Shelf.Ren := ⟨fun | 156 => 209 | 165 => 226 | 166 => 227 | 169 => 228 | 240 => 241 | 241 => 242 | 276 => 253 | 277 => 254 | n => n, fun | 31 => 220 | 9 => 9 | 3 => 3 | 4 => 4 | 0 => 0 | 20 => 20 | 72 => 241 | 76 => 245 | 70 => 239 | 37 => 193 | 75 => 244 | 127 => 258 | 164 => 268 | 5 => 5 | 80 => 95 | n => n, fun | n => n⟩
theorem Tryz.lays156 : Go.Proofs.Lays.n156 Tryz.prog Tryz.lays156_ren := {
 mixed := by kernel_rfl
 f156 := Tryz.func209.trans (congrArg some (by kernel_rfl))
 f165 := Tryz.func226.trans (congrArg some (by kernel_rfl))
 f166 := Tryz.func227.trans (congrArg some (by kernel_rfl))
 f169 := Tryz.func228.trans (congrArg some (by kernel_rfl))
 f240 := Tryz.func241.trans (congrArg some (by kernel_rfl))
 f241 := Tryz.func242.trans (congrArg some (by kernel_rfl))
 f276 := Tryz.func253.trans (congrArg some (by kernel_rfl))
 f277 := Tryz.func254.trans (congrArg some (by kernel_rfl))
 t0 := Tryz.underlying0
 a0 := Tryz.isAgg0
 z0 := Tryz.sizeOf0
 v0 := Tryz.zeroValue0
 t3 := Tryz.underlying3
 a3 := Tryz.isAgg3
 z3 := Tryz.sizeOf3
 v3 := Tryz.zeroValue3
 t4 := Tryz.underlying4
 a4 := Tryz.isAgg4
 z4 := Tryz.sizeOf4
 v4 := Tryz.zeroValue4
 t9 := Tryz.underlying9
 a9 := Tryz.isAgg9
 z9 := Tryz.sizeOf9
 v9 := Tryz.zeroValue9
 t20 := Tryz.underlying20
 a20 := Tryz.isAgg20
 z20 := Tryz.sizeOf20
 v20 := Tryz.zeroValue20
 t31 := Tryz.underlying220
 a31 := Tryz.isAgg220
 z31 := Tryz.sizeOf220
 v31 := Tryz.zeroValue220
 t37 := Tryz.underlying193
 a37 := Tryz.isAgg193
 z37 := Tryz.sizeOf193
 v37 := Tryz.zeroValue193
 t70 := Tryz.underlying239
 a70 := Tryz.isAgg239
 z70 := Tryz.sizeOf239
 v70 := Tryz.zeroValue239
 t72 := Tryz.underlying241
 a72 := Tryz.isAgg241
 z72 := Tryz.sizeOf241
 v72 := Tryz.zeroValue241
 t75 := Tryz.underlying244
 a75 := Tryz.isAgg244
 z75 := Tryz.sizeOf244
 v75 := Tryz.zeroValue244
 t76 := Tryz.underlying245
 a76 := Tryz.isAgg245
 z76 := Tryz.sizeOf245
 v76 := Tryz.zeroValue245
 t127 := Tryz.underlying258
 a127 := Tryz.isAgg258
 z127 := Tryz.sizeOf258
 v127 := Tryz.zeroValue258
 t164 := Tryz.underlying268
 a164 := Tryz.isAgg268
 z164 := Tryz.sizeOf268
 v164 := Tryz.zeroValue268 }
theorem Tryz.Builder_Extra_156 : Builder.Extra Tryz.prog Tryz.lays156_ren := {
 sizeBuilder := by kernel_rfl
 liesBuilder := by kernel_rfl
 t5 := Tryz.underlying5
 a5 := Tryz.isAgg5
 z5 := Tryz.sizeOf5
 v5 := Tryz.zeroValue5
 infoByte := by kernel_rfl
 cellsByte := by kernel_rfl
 sizeByte := by kernel_rfl
 neB5 := by decide }
open Go.RowKit in
open Go.RowKit in
theorem Tryz.strings_Join (bk o c : Nat) (xs : List ByteArray) (sep : ByteArray) (w : World) (hcells : ∀ (j : Nat) x, xs[j]? = some x → w.cell? ⟨bk, o + j, none⟩ = some (.string x)) (hbk : bk < w.heap.size) (hN : xs.length ≤ 140737488355328) (hcap : xs.length ≤ c) (hlen : (Lib.join (xs.map (·.data.toList)) sep.data.toList).length ≤ 140737488355328) :
 Calls Tryz.prog 209 #[.slice (some ⟨bk, o, none⟩) xs.length c, .string sep] w fun e w' => e = .returned (.string ⟨(Lib.join (xs.map (·.data.toList)) sep.data.toList).toArray⟩) ∧ Below w.heap.size w w' := Any.strings_Join Tryz.lays156 Tryz.Builder_Extra_156 bk o c xs sep w hcells hbk hN hcap hlen
open Go.RowKit in
open Go.RowKit in
open Go.RowKit in
open Go.RowKit in
open Go.RowKit in
open Go.RowKit in
open Go.RowKit in
open Go.RowKit in
open Go.RowKit in
def Tryz.lays129_ren : Go.Shelf.Ren := ⟨fun | 129 => 243 | n => n, fun | 53 => 158 | 3 => 3 | 4 => 4 | 46 => 88 | 5 => 5 | 9 => 9 | n => n, fun | n => n⟩
theorem Tryz.lays129 : Go.Proofs.Lays.n129 Tryz.prog Tryz.lays129_ren := {
 mixed := by kernel_rfl
 f129 := Tryz.func243.trans (congrArg some (by kernel_rfl))
 t3 := Tryz.underlying3
 a3 := Tryz.isAgg3
 z3 := Tryz.sizeOf3
 v3 := Tryz.zeroValue3
 t4 := Tryz.underlying4
 a4 := Tryz.isAgg4
 z4 := Tryz.sizeOf4
 v4 := Tryz.zeroValue4
 t5 := Tryz.underlying5
 a5 := Tryz.isAgg5
 z5 := Tryz.sizeOf5
 v5 := Tryz.zeroValue5
 t9 := Tryz.underlying9
 a9 := Tryz.isAgg9
 z9 := Tryz.sizeOf9
 v9 := Tryz.zeroValue9
 t46 := Tryz.underlying88
 a46 := Tryz.isAgg88
 z46 := Tryz.sizeOf88
 v46 := Tryz.zeroValue88
 t53 := Tryz.underlying158
 a53 := Tryz.isAgg158
 z53 := Tryz.sizeOf158
 v53 := Tryz.zeroValue158 }
theorem Tryz.bits_Len64 (x : Int) (w : World) (h0 : 0 ≤ x) (h1 : x ≤ 18446744073709551615) :
 Calls Tryz.prog 243 #[.int .u64 x] w fun e w' => e = .returned (.int .i64 (Lib.bitLen x.toNat)) ∧ w' = w := Any.bits_Len64 Tryz.lays129 x w h0 h1
open Go.RowKit Go.Lib in
open Go.RowKit Go.Lib in
open Go.RowKit Go.Lib in
def Tryz.lays105_ren : Go.Shelf.Ren := ⟨fun | 105 => 225 | 212 => 238 | 99 => 239 | 165 => 226 | 166 => 227 | 170 => 240 | 169 => 228 | 263 => 250 | 264 => 251 | 206 => 252 | 240 => 241 | 241 => 242 | 276 => 253 | 277 => 254 | n => n, fun | 9 => 9 | 3 => 3 | 4 => 4 | 20 => 20 | 0 => 0 | 46 => 88 | 109 => 255 | 5 => 5 | 72 => 241 | 76 => 245 | 51 => 194 | 146 => 264 | 53 => 158 | 148 => 266 | 70 => 239 | 37 => 193 | 75 => 244 | 127 => 258 | 164 => 268 | 80 => 95 | n => n, fun | n => n⟩
theorem Tryz.lays105 : Go.Proofs.Lays.n105 Tryz.prog Tryz.lays105_ren := {
 mixed := by kernel_rfl
 f99 := Tryz.func239.trans (congrArg some (by kernel_rfl))
 f105 := Tryz.func225.trans (congrArg some (by kernel_rfl))
 f165 := Tryz.func226.trans (congrArg some (by kernel_rfl))
 f166 := Tryz.func227.trans (congrArg some (by kernel_rfl))
 f169 := Tryz.func228.trans (congrArg some (by kernel_rfl))
 f170 := Tryz.func240.trans (congrArg some (by kernel_rfl))
 f206 := Tryz.func252.trans (congrArg some (by kernel_rfl))
 f212 := Tryz.func238.trans (congrArg some (by kernel_rfl))
 f240 := Tryz.func241.trans (congrArg some (by kernel_rfl))
 f241 := Tryz.func242.trans (congrArg some (by kernel_rfl))
 f263 := Tryz.func250.trans (congrArg some (by kernel_rfl))
 f264 := Tryz.func251.trans (congrArg some (by kernel_rfl))
 f276 := Tryz.func253.trans (congrArg some (by kernel_rfl))
 f277 := Tryz.func254.trans (congrArg some (by kernel_rfl))
 t0 := Tryz.underlying0
 a0 := Tryz.isAgg0
 z0 := Tryz.sizeOf0
 v0 := Tryz.zeroValue0
 t3 := Tryz.underlying3
 a3 := Tryz.isAgg3
 z3 := Tryz.sizeOf3
 v3 := Tryz.zeroValue3
 t4 := Tryz.underlying4
 a4 := Tryz.isAgg4
 z4 := Tryz.sizeOf4
 v4 := Tryz.zeroValue4
 t5 := Tryz.underlying5
 a5 := Tryz.isAgg5
 z5 := Tryz.sizeOf5
 v5 := Tryz.zeroValue5
 t9 := Tryz.underlying9
 a9 := Tryz.isAgg9
 z9 := Tryz.sizeOf9
 v9 := Tryz.zeroValue9
 t20 := Tryz.underlying20
 a20 := Tryz.isAgg20
 z20 := Tryz.sizeOf20
 v20 := Tryz.zeroValue20
 t37 := Tryz.underlying193
 a37 := Tryz.isAgg193
 z37 := Tryz.sizeOf193
 v37 := Tryz.zeroValue193
 t46 := Tryz.underlying88
 a46 := Tryz.isAgg88
 z46 := Tryz.sizeOf88
 v46 := Tryz.zeroValue88
 t51 := Tryz.underlying194
 a51 := Tryz.isAgg194
 z51 := Tryz.sizeOf194
 v51 := Tryz.zeroValue194
 t53 := Tryz.underlying158
 a53 := Tryz.isAgg158
 z53 := Tryz.sizeOf158
 v53 := Tryz.zeroValue158
 t70 := Tryz.underlying239
 a70 := Tryz.isAgg239
 z70 := Tryz.sizeOf239
 v70 := Tryz.zeroValue239
 t72 := Tryz.underlying241
 a72 := Tryz.isAgg241
 z72 := Tryz.sizeOf241
 v72 := Tryz.zeroValue241
 t75 := Tryz.underlying244
 a75 := Tryz.isAgg244
 z75 := Tryz.sizeOf244
 v75 := Tryz.zeroValue244
 t76 := Tryz.underlying245
 a76 := Tryz.isAgg245
 z76 := Tryz.sizeOf245
 v76 := Tryz.zeroValue245
 t109 := Tryz.underlying255
 a109 := Tryz.isAgg255
 z109 := Tryz.sizeOf255
 v109 := Tryz.zeroValue255
 t127 := Tryz.underlying258
 a127 := Tryz.isAgg258
 z127 := Tryz.sizeOf258
 v127 := Tryz.zeroValue258
 t146 := Tryz.underlying264
 a146 := Tryz.isAgg264
 z146 := Tryz.sizeOf264
 v146 := Tryz.zeroValue264
 t148 := Tryz.underlying266
 a148 := Tryz.isAgg266
 z148 := Tryz.sizeOf266
 v148 := Tryz.zeroValue266
 t164 := Tryz.underlying268
 a164 := Tryz.isAgg268
 z164 := Tryz.sizeOf268
 v164 := Tryz.zeroValue268 }
theorem Tryz.Builder_Extra_105 : Builder.Extra Tryz.prog Tryz.lays105_ren := {
 sizeBuilder := by kernel_rfl
 liesBuilder := by kernel_rfl
 t5 := Tryz.underlying5
 a5 := Tryz.isAgg5
 z5 := Tryz.sizeOf5
 v5 := Tryz.zeroValue5
 infoByte := by kernel_rfl
 cellsByte := by kernel_rfl
 sizeByte := by kernel_rfl
 neB5 := by decide }
open Go.RowKit Go.Lib in
open Go.RowKit Go.Lib in
open Go.RowKit Go.Lib in
open Go.RowKit Go.Lib in
open Go.RowKit Go.Lib in
theorem Tryz.strings_Repeat (s : ByteArray) (c : Nat) (w : World) (hc : c ≤ 9223372036854775807) (hlen : s.size * c ≤ 140737488355328) :
 Calls Tryz.prog 225 #[.string s, .int .i64 c] w fun e w' => e = .returned (.string ⟨(Lib.repeatL s.data.toList c).toArray⟩) ∧ Below w.heap.size w w' := Any.strings_Repeat Tryz.lays105 Tryz.Builder_Extra_105 s c w hc hlen
end Go.Proofs
namespace Go.Proofs.YtlepjakmadlkjaaGreatDoor
open Go
def zOf (P : Program) (t : TypeId) : Value := match bp P t with
 | some (_, _, _, some z) => z
 | _ => undef
def bB (k : Nat) (x : Int) : Option Int := af (0 ≤ x ∧ x ≤ 18446744073709551615) (some ((Lib.bitLen x.toNat : Nat) : Int))
theorem nP : al Tryz.prog ⟨243, ⟨[(0, .v (.a (.fl (.int .u64))))], [], []⟩, [⟨[(100000, .v (.a (.fl (.int .i64))))], [], []⟩], bB⟩ := by
 refine zB (t := .int .i64) (pat := ⟨[(0, .v (.a (.fl (.int .u64))))], [], []⟩) rfl rfl (by decide) ?_
 intro k x y S w hf hp
 obtain ⟨z, rfl⟩ : ∃ z : Int, z = x := ⟨x, rfl⟩
 obtain rfl : S = ⟨[(0, .v (.a (.fl (.int .u64) z)))], [], [], .nil⟩ := Option.some.inj (hp.symm.trans rfl)
 unfold bB at hf
 obtain ⟨h, hf⟩ := gI.1 hf
 ·cases hf
  refine Calls.mono (Tryz.bits_Len64 z w h.1 h.2) ?_
  rintro e w' ⟨rfl, rfl⟩
  exact ⟨_, rfl, rfl, Fr.refl _ _⟩
def cw (k : Nat) (x : ByteArray × Int) : Option ByteArray :=
 af (0 ≤ x.2 ∧ x.2 ≤ 9223372036854775807 ∧ x.1.size * x.2.toNat ≤ 140737488355328) (some ⟨(Lib.repeatL x.1.data.toList x.2.toNat).toArray⟩)
theorem oY : al Tryz.prog ⟨225, ⟨[(0, .v (.a (.fl .str))), (1, .v (.a (.fl (.int .i64))))], [], []⟩, [⟨[(100000, .v (.a (.fl .str)))], [], []⟩], cw⟩ := by
 refine zB (t := .str) (pat := ⟨[(0, .v (.a (.fl .str))), (1, .v (.a (.fl (.int .i64))))], [], []⟩) rfl rfl (by decide) ?_
 intro k x y S w hf hp
 obtain ⟨s, m⟩ : ByteArray × Int := x
 have hf : cw k (s, m) = some y := hf
 obtain rfl : S = ⟨[(0, .v (.a (.fl .str s))), (1, .v (.a (.fl (.int .i64) m)))], [], [], .nil⟩ := Option.some.inj (hp.symm.trans rfl)
 unfold cw at hf
 obtain ⟨⟨h1, h2, h3⟩, hf⟩ := gI.1 hf
 cases hf
 simp only at h1 h2 h3
 obtain ⟨n, rfl⟩ : ∃ n : Nat, m = (n : Int) := ⟨m.toNat, by omega⟩
 rw [Int.toNat_natCast] at h3
 refine Calls.mono (Tryz.strings_Repeat s n w (by omega) h3) ?_
 rintro e w' ⟨rfl, hb⟩
 exact ⟨_, rfl, by rw [Int.toNat_natCast]; rfl, zC hb⟩
set_option maxRecDepth 20000 in
theorem xV (xs : List (Ty.den (.arr 32 (.int .u8)))) (v : Value) (w : World) (hr : Rds v xs.length (Ty.sz (.arr 32 (.int .u8))) (xs.flatMap (am (.arr 32 (.int .u8))).cells) w) (hb : xs.length * 32 ≤ 140737488355328) :
 Fn Tryz.prog 69 [v] w (fun r w' => Fr nob w w' ∧ w'.ownsRow 0 38 (Ty.sz (.arr 32 (.int .u8))) r xs.length (xs.flatMap (am (.arr 32 (.int .u8))).cells) ∧ ∀ b, r.ownBlock = some b → w.heap.size ≤ b) := by
 obtain ⟨hcs, ao, c, rfl, hc1, hc2, hc3, hrd⟩ := hr
 refine xq (fn := Tryz.f69) (k := 7) rfl rfl rfl fun a hS => ?_
 have hS : Sl 8 [(0, .slice ao xs.length c)] a := hS
 refine bw (by kernel_rfl) (aO (by kernel_rfl) ?_)
 refine aH (j := 1) hS 1 [0] (m' := [(0, .slice ao xs.length c)]) (by kernel_rfl) (by kernel_rfl) fun a hS => bK (by kernel_rfl) (bl ?_)
 cases ao with
 | none =>
   obtain rfl := hc3 rfl
   have hx : xs = [] := List.eq_nil_of_length_eq_zero (by omega)
   subst hx
   refine bw (by kernel_rfl) (bw (by kernel_rfl) (aO (by kernel_rfl) ?_))
   refine aH (j := 1) hS 1 [0, 3] (m' := [(0, .slice none 0 0), (3, .slice none 0 0)]) (by kernel_rfl) (by kernel_rfl) fun a hS => ?_
   refine bz hS (v := .bool true) (d := some 4) (op := .binOp .eql 43 (.tmp 3) (.const (.slice none 0 0)) 43) (g := none) (by kernel_rfl) (by kernel_rfl) (tI (e := 38) (ao := none) rfl rfl (by kernel_rfl)) fun a hS => bK (by kernel_rfl) (bl ?_)
   refine jf (t := true) (by kernel_rfl) (hS.ev (x := .tmp 4) rfl) (fun _ => ?_) (fun h => by cases h)
   refine bw (by kernel_rfl) (aO (by kernel_rfl) ?_)
   refine aH (j := 1) hS 1 [2] (m' := [(2, .slice none 0 0)]) (by kernel_rfl) (by kernel_rfl) fun a hS => bK (by kernel_rfl) (bl ?_)
   exact qu (by kernel_rfl) (tz (sL (vs := [.slice none 0 0]) hS rfl ⟨_, rfl, Fr.refl _ _, World.ownsRow_nil w _ _ _, fun b hb => by cases hb⟩))
 | some ad =>
   refine bw (by kernel_rfl) (bw (by kernel_rfl) (aO (by kernel_rfl) ?_))
   refine aH (j := 1) hS 1 [0, 3] (m' := [(0, .slice (some ad) xs.length c), (3, .slice (some ad) xs.length c)]) (by kernel_rfl) (by kernel_rfl) fun a hS => ?_
   refine bz hS (v := .bool false) (d := some 4) (op := .binOp .eql 43 (.tmp 3) (.const (.slice none 0 0)) 43) (g := none) (by kernel_rfl) (by kernel_rfl) (tI (e := 38) (ao := some ad) rfl rfl (by kernel_rfl)) fun a hS => bK (by kernel_rfl) (bl ?_)
   refine jf (t := false) (by kernel_rfl) (hS.ev (x := .tmp 4) rfl) (fun h => by cases h) (fun _ => nf (by kernel_rfl) (bl ?_))
   refine bw (by kernel_rfl) (aO (by kernel_rfl) ?_)
   refine ma (d := some 5) (op := .buildSlice 43 0 #[]) (g := none) hS (by kernel_rfl) (by kernel_rfl) (qw (e := 38) (sz := Ty.sz (.arr 32 (.int .u8))) (cs := []) (za w) (by kernel_rfl) (by simp) (by omega)) ?_
   rintro _ w1 ⟨⟨b, rfl⟩, C⟩ a hS
   refine aH (j := 2) hS 1 [5, 6] (m' := [(5, .slice (some ⟨b, 0, none⟩) 0 0), (6, .slice (some ad) xs.length c)]) (by kernel_rfl) (by kernel_rfl) fun a hS => ?_
   have hsrc : Rds (.slice (some ad) xs.length c) xs.length (Ty.sz (.arr 32 (.int .u8))) (xs.flatMap (am (.arr 32 (.int .u8))).cells) w1 := (rdE true _ _ _ _).keep ⟨hcs, some ad, c, rfl, hc1, hc2, hc3, hrd⟩ C.fr (fun _ _ h => h)
   refine ma (d := some 7) (op := .call { callee := .builtin .append, args := #[.tmp 5, .tmp 6], argTypes := #[43, 43] }) (g := none) hS (by kernel_rfl) (by kernel_rfl)
    (mc (li := 0) (n := 0) (m := xs.length) (sz := Ty.sz (.arr 32 (.int .u8))) (bytes := 32) (e := 38) (z := zOf Tryz.prog 43) (xs := []) C rfl rfl rfl hsrc (fun u hu => by
     obtain ⟨x, _, hx⟩ := List.mem_flatMap.1 hu
     exact (am (.arr 32 (.int .u8))).one x u hx) (by kernel_rfl) (by kernel_rfl) (by decide) (by omega) (by decide)) ?_
   intro r w2 C2 a hS
   refine aH (j := 4) hS 1 [2] (m' := [(2, r)]) (by kernel_rfl) (by kernel_rfl) fun a hS => bK (by kernel_rfl) (bl ?_)
   have hown : w2.ownsRow 0 38 (Ty.sz (.arr 32 (.int .u8))) r xs.length (xs.flatMap (am (.arr 32 (.int .u8))).cells) := by
    have := (C2.okL 0 _ rfl : (io r 38 (Ty.sz (.arr 32 (.int .u8))) (0 + xs.length) ([] ++ xs.flatMap (am (.arr 32 (.int .u8))).cells)).ok w2)
    rwa [Nat.zero_add, List.nil_append] at this
   refine qu (by kernel_rfl) (sL (vs := [r]) hS rfl ⟨_, rfl, C2.fr, hown, fun b' hb' => ?_⟩)
   rcases C2.mine 0 _ rfl b' hb' with h | h
   ·exact h.elim
   ·exact h
def oO (k : Nat) (x : List (Ty.den (.arr 32 (.int .u8)))) : Option (List (Ty.den (.arr 32 (.int .u8)))) := af (x.length * 32 ≤ 140737488355328) (some x)
theorem xW : al Tryz.prog ⟨69, ⟨[(0, .v (.a (.sl 0)))], [], [.row 38 (.arr 32 (.int .u8)) .lent]⟩, [⟨[(100000, .v (.a (.sl 1)))], [], [.row 38 (.arr 32 (.int .u8)) .own]⟩], oO⟩ := by
 refine uY (pat := ⟨[(0, .v (.a (.sl 0)))], [], [.row 38 (.arr 32 (.int .u8)) .lent]⟩) 1 (by decide) (fun x S h => by obtain rfl := (Option.some.inj (h.symm.trans rfl) : S = ⟨[(0, .v (.a (.sl 0)))], [.row 38 (.arr 32 (.int .u8)) x .lent false], [], .nil⟩); rfl) rfl ?_
 intro k (xs : List (Ty.den (.arr 32 (.int .u8)))) y S g w hf hp CAL _ hR
 obtain rfl : S = ⟨[(0, .v (.a (.sl 0)))], [.row 38 (.arr 32 (.int .u8)) xs .lent false], [], .nil⟩ := Option.some.inj (hp.symm.trans rfl)
 have hf : oO k xs = some y := hf
 unfold oO at hf
 obtain ⟨h1, hf⟩ := gI.1 hf
 cases hf
 have hrep : gn (gL (.arr 32 (.int .u8))) xs (g 0).cs (g 0).fs := (CAL.ob 0).1
 have hcs := ((bN (.arr 32 (.int .u8)) rfl _ _ _).1 hrep).1
 have hrd : Rds (g 0).v xs.length (Ty.sz (.arr 32 (.int .u8))) (xs.flatMap (am (.arr 32 (.int .u8))).cells) w := by
  have := hR 0 (⟨(g 0).v, xs.length, Ty.sz (.arr 32 (.int .u8)), (g 0).cs⟩) (List.mem_cons_self ..)
  rw [hcs] at this
  exact this
 exact xV xs (g 0).v w hrd h1
def aV (k : Nat) (x : ByteArray × List ByteArray) : Option ByteArray :=
 af (2 ≤ x.2.length ∧ x.2.length ≤ 1000000 ∧ (Lib.join (x.2.map (·.data.toList)) x.1.data.toList).length ≤ 140737488355328) (some ⟨(Lib.join (x.2.map (·.data.toList)) x.1.data.toList).toArray⟩)
theorem wS : ∀ xs : List ByteArray, xs.flatMap (am .str).cells = xs.map Value.string
 | [] => rfl
 | x :: xs => by rw [List.flatMap_cons, wS xs]; rfl
theorem qW : al Tryz.prog ⟨209, ⟨[(0, .v (.a (.sl 0))), (1, .v (.a (.fl .str)))], [], [.row 9 .str .lent]⟩, [⟨[(100000, .v (.a (.fl .str)))], [], []⟩], aV⟩ := by
 refine FM (t := .str) (pat := ⟨[(0, .v (.a (.sl 0))), (1, .v (.a (.fl .str)))], [], [.row 9 .str .lent]⟩) (by decide) ?_
 intro k x y S g w hf hp CAL _ hR
 obtain ⟨sep, xs⟩ : ByteArray × List ByteArray := x
 have hf : aV k (sep, xs) = some y := hf
 obtain rfl : S = ⟨[(0, .v (.a (.sl 0))), (1, .v (.a (.fl .str sep)))], [.row 9 .str xs .lent false], [], .nil⟩ := Option.some.inj (hp.symm.trans rfl)
 unfold aV at hf
 obtain ⟨⟨h1, h2, h3⟩, hf⟩ := gI.1 hf
 cases hf
 simp only at h1 h2 h3
 have hrep : gn (gL .str) xs (g 0).cs (g 0).fs := (CAL.ob 0).1
 have hcs := ((bN .str rfl _ _ _).1 hrep).1
 rw [wS] at hcs
 have hrd : Rds (g 0).v xs.length 1 (xs.map Value.string) w := by
  have := hR 0 (⟨(g 0).v, xs.length, 1, (g 0).cs⟩) (List.mem_cons_self ..)
  rw [hcs] at this
  exact this
 obtain ⟨_, ao, c, hv, hc1, hc2, hc3, hcell⟩ := hrd
 obtain ⟨ad, rfl, h0⟩ := hcell 0 (Value.string xs[0]) (by rw [List.getElem?_map, List.getElem?_eq_getElem (by omega)]; rfl)
 obtain ⟨bk, o, spot⟩ := ad
 have hsp : spot = none := by
  cases spot with
  | none => rfl
  | some s =>
    unfold World.cell? at h0
    simp only [Addr.add] at h0
    split at h0
    ·simp at h0
    ·cases h0
 subst hsp
 have hcells : ∀ (j : Nat) x, xs[j]? = some x → w.cell? ⟨bk, o + j, none⟩ = some (.string x) := fun j x hj => by
  obtain ⟨ad', ha, hc⟩ := hcell j (.string x) (by rw [List.getElem?_map, hj]; rfl)
  cases ha
  rw [bG] at hc
  exact hc
 have hbk : bk < w.heap.size := World.block_lt_of_cell? w _ (hcells 0 xs[0] (List.getElem?_eq_getElem (by omega)))
 have hgo := Tryz.strings_Join bk o c xs sep w hcells hbk (by omega) hc1 h3
 have harg : (List.map (fun p => aq g p.2) (⟨[(0, .v (.a (.sl 0))), (1, .v (.a (.fl .str sep)))], [.row 9 .str xs .lent false], [], .nil⟩ : St).slots) = [.slice (some ⟨bk, o, none⟩) xs.length c, .string sep] := by
  simp [aq, aU, aJ, hv]
 rw [harg]
 refine Calls.mono hgo ?_
 rintro e w' ⟨rfl, hb⟩
 exact ⟨_, rfl, rfl, zC hb⟩
set_option maxRecDepth 20000 in
theorem xX (xs : List (Ty.den (.pair (.int .i64) (.pair (.int .i64) (.pair (.int .i64) .str))))) (v : Value) (w : World) (hr : Rds v xs.length (Ty.sz (.pair (.int .i64) (.pair (.int .i64) (.pair (.int .i64) .str)))) (xs.flatMap (am (.pair (.int .i64) (.pair (.int .i64) (.pair (.int .i64) .str)))).cells) w) (hb : xs.length * 40 ≤ 140737488355328) :
 Fn Tryz.prog 77 [v] w (fun r w' => Fr nob w w' ∧ w'.ownsRow 0 36 (Ty.sz (.pair (.int .i64) (.pair (.int .i64) (.pair (.int .i64) .str)))) r xs.length (xs.flatMap (am (.pair (.int .i64) (.pair (.int .i64) (.pair (.int .i64) .str)))).cells) ∧ ∀ b, r.ownBlock = some b → w.heap.size ≤ b) := by
 obtain ⟨hcs, ao, c, rfl, hc1, hc2, hc3, hrd⟩ := hr
 refine xq (fn := Tryz.f77) (k := 7) rfl rfl rfl fun a hS => ?_
 have hS : Sl 8 [(0, .slice ao xs.length c)] a := hS
 refine bw (by kernel_rfl) (aO (by kernel_rfl) ?_)
 refine aH (j := 1) hS 1 [0] (m' := [(0, .slice ao xs.length c)]) (by kernel_rfl) (by kernel_rfl) fun a hS => bK (by kernel_rfl) (bl ?_)
 cases ao with
 | none =>
   obtain rfl := hc3 rfl
   have hx : xs = [] := List.eq_nil_of_length_eq_zero (by omega)
   subst hx
   refine bw (by kernel_rfl) (bw (by kernel_rfl) (aO (by kernel_rfl) ?_))
   refine aH (j := 1) hS 1 [0, 3] (m' := [(0, .slice none 0 0), (3, .slice none 0 0)]) (by kernel_rfl) (by kernel_rfl) fun a hS => ?_
   refine bz hS (v := .bool true) (d := some 4) (op := .binOp .eql 27 (.tmp 3) (.const (.slice none 0 0)) 27) (g := none) (by kernel_rfl) (by kernel_rfl) (tI (e := 36) (ao := none) rfl rfl (by kernel_rfl)) fun a hS => bK (by kernel_rfl) (bl ?_)
   refine jf (t := true) (by kernel_rfl) (hS.ev (x := .tmp 4) rfl) (fun _ => ?_) (fun h => by cases h)
   refine bw (by kernel_rfl) (aO (by kernel_rfl) ?_)
   refine aH (j := 1) hS 1 [2] (m' := [(2, .slice none 0 0)]) (by kernel_rfl) (by kernel_rfl) fun a hS => bK (by kernel_rfl) (bl ?_)
   exact qu (by kernel_rfl) (tz (sL (vs := [.slice none 0 0]) hS rfl ⟨_, rfl, Fr.refl _ _, World.ownsRow_nil w _ _ _, fun b hb => by cases hb⟩))
 | some ad =>
   refine bw (by kernel_rfl) (bw (by kernel_rfl) (aO (by kernel_rfl) ?_))
   refine aH (j := 1) hS 1 [0, 3] (m' := [(0, .slice (some ad) xs.length c), (3, .slice (some ad) xs.length c)]) (by kernel_rfl) (by kernel_rfl) fun a hS => ?_
   refine bz hS (v := .bool false) (d := some 4) (op := .binOp .eql 27 (.tmp 3) (.const (.slice none 0 0)) 27) (g := none) (by kernel_rfl) (by kernel_rfl) (tI (e := 36) (ao := some ad) rfl rfl (by kernel_rfl)) fun a hS => bK (by kernel_rfl) (bl ?_)
   refine jf (t := false) (by kernel_rfl) (hS.ev (x := .tmp 4) rfl) (fun h => by cases h) (fun _ => nf (by kernel_rfl) (bl ?_))
   refine bw (by kernel_rfl) (aO (by kernel_rfl) ?_)
   refine ma (d := some 5) (op := .buildSlice 27 0 #[]) (g := none) hS (by kernel_rfl) (by kernel_rfl) (qw (e := 36) (sz := Ty.sz (.pair (.int .i64) (.pair (.int .i64) (.pair (.int .i64) .str)))) (cs := []) (za w) (by kernel_rfl) (by simp) (by omega)) ?_
   rintro _ w1 ⟨⟨b, rfl⟩, C⟩ a hS
   refine aH (j := 2) hS 1 [5, 6] (m' := [(5, .slice (some ⟨b, 0, none⟩) 0 0), (6, .slice (some ad) xs.length c)]) (by kernel_rfl) (by kernel_rfl) fun a hS => ?_
   have hsrc : Rds (.slice (some ad) xs.length c) xs.length (Ty.sz (.pair (.int .i64) (.pair (.int .i64) (.pair (.int .i64) .str)))) (xs.flatMap (am (.pair (.int .i64) (.pair (.int .i64) (.pair (.int .i64) .str)))).cells) w1 := (rdE true _ _ _ _).keep ⟨hcs, some ad, c, rfl, hc1, hc2, hc3, hrd⟩ C.fr (fun _ _ h => h)
   refine ma (d := some 7) (op := .call { callee := .builtin .append, args := #[.tmp 5, .tmp 6], argTypes := #[27, 27] }) (g := none) hS (by kernel_rfl) (by kernel_rfl)
    (mc (li := 0) (n := 0) (m := xs.length) (sz := Ty.sz (.pair (.int .i64) (.pair (.int .i64) (.pair (.int .i64) .str)))) (bytes := 40) (e := 36) (z := zOf Tryz.prog 27) (xs := []) C rfl rfl rfl hsrc (fun u hu => by
     obtain ⟨x, _, hx⟩ := List.mem_flatMap.1 hu
     exact (am (.pair (.int .i64) (.pair (.int .i64) (.pair (.int .i64) .str)))).one x u hx) (by kernel_rfl) (by kernel_rfl) (by decide) (by omega) (by decide)) ?_
   intro r w2 C2 a hS
   refine aH (j := 4) hS 1 [2] (m' := [(2, r)]) (by kernel_rfl) (by kernel_rfl) fun a hS => bK (by kernel_rfl) (bl ?_)
   have hown : w2.ownsRow 0 36 (Ty.sz (.pair (.int .i64) (.pair (.int .i64) (.pair (.int .i64) .str)))) r xs.length (xs.flatMap (am (.pair (.int .i64) (.pair (.int .i64) (.pair (.int .i64) .str)))).cells) := by
    have := (C2.okL 0 _ rfl : (io r 36 (Ty.sz (.pair (.int .i64) (.pair (.int .i64) (.pair (.int .i64) .str)))) (0 + xs.length) ([] ++ xs.flatMap (am (.pair (.int .i64) (.pair (.int .i64) (.pair (.int .i64) .str)))).cells)).ok w2)
    rwa [Nat.zero_add, List.nil_append] at this
   refine qu (by kernel_rfl) (sL (vs := [r]) hS rfl ⟨_, rfl, C2.fr, hown, fun b' hb' => ?_⟩)
   rcases C2.mine 0 _ rfl b' hb' with h | h
   ·exact h.elim
   ·exact h
def oP (k : Nat) (x : List (Ty.den (.pair (.int .i64) (.pair (.int .i64) (.pair (.int .i64) .str))))) : Option (List (Ty.den (.pair (.int .i64) (.pair (.int .i64) (.pair (.int .i64) .str))))) := af (x.length * 40 ≤ 140737488355328) (some x)
theorem xY : al Tryz.prog ⟨77, ⟨[(0, .v (.a (.sl 0)))], [], [.row 36 (.pair (.int .i64) (.pair (.int .i64) (.pair (.int .i64) .str))) .lent]⟩, [⟨[(100000, .v (.a (.sl 1)))], [], [.row 36 (.pair (.int .i64) (.pair (.int .i64) (.pair (.int .i64) .str))) .own]⟩], oP⟩ := by
 refine uY (pat := ⟨[(0, .v (.a (.sl 0)))], [], [.row 36 (.pair (.int .i64) (.pair (.int .i64) (.pair (.int .i64) .str))) .lent]⟩) 1 (by decide) (fun x S h => by obtain rfl := (Option.some.inj (h.symm.trans rfl) : S = ⟨[(0, .v (.a (.sl 0)))], [.row 36 (.pair (.int .i64) (.pair (.int .i64) (.pair (.int .i64) .str))) x .lent false], [], .nil⟩); rfl) rfl ?_
 intro k (xs : List (Ty.den (.pair (.int .i64) (.pair (.int .i64) (.pair (.int .i64) .str))))) y S g w hf hp CAL _ hR
 obtain rfl : S = ⟨[(0, .v (.a (.sl 0)))], [.row 36 (.pair (.int .i64) (.pair (.int .i64) (.pair (.int .i64) .str))) xs .lent false], [], .nil⟩ := Option.some.inj (hp.symm.trans rfl)
 have hf : oP k xs = some y := hf
 unfold oP at hf
 obtain ⟨h1, hf⟩ := gI.1 hf
 cases hf
 have hrep : gn (gL (.pair (.int .i64) (.pair (.int .i64) (.pair (.int .i64) .str)))) xs (g 0).cs (g 0).fs := (CAL.ob 0).1
 have hcs := ((bN (.pair (.int .i64) (.pair (.int .i64) (.pair (.int .i64) .str))) rfl _ _ _).1 hrep).1
 have hrd : Rds (g 0).v xs.length (Ty.sz (.pair (.int .i64) (.pair (.int .i64) (.pair (.int .i64) .str)))) (xs.flatMap (am (.pair (.int .i64) (.pair (.int .i64) (.pair (.int .i64) .str)))).cells) w := by
  have := hR 0 (⟨(g 0).v, xs.length, Ty.sz (.pair (.int .i64) (.pair (.int .i64) (.pair (.int .i64) .str))), (g 0).cs⟩) (List.mem_cons_self ..)
  rw [hcs] at this
  exact this
 exact xX xs (g 0).v w hrd h1
set_option maxRecDepth 20000 in
theorem uZ (xs : List (Ty.den (.arr 32 (.int .u8)))) (x : Ty.den (.arr 32 (.int .u8))) (q cap : Nat) (cur : Array Value) (vq vcap : Nat) (vcur : Array Value) (w : World)
 (hg : w.heap[q]? = some (.cells cur 38 (0, 0))) (hvg : w.heap[vq]? = some (.cells vcur 38 (0, 0))) (hne : vq ≠ q) (h1 : 1 ≤ xs.length) (hcap : xs.length ≤ cap) (hcm : cap ≤ maxLen) (hcs : cur.size = cap * Ty.sz (.arr 32 (.int .u8))) (htk : cur.toList.take (xs.length * Ty.sz (.arr 32 (.int .u8))) = xs.flatMap (am (.arr 32 (.int .u8))).cells)
 (hv1 : 1 ≤ vcap) (hvm : vcap ≤ maxLen) (hvs : vcur.size = vcap * Ty.sz (.arr 32 (.int .u8))) (hvt : vcur.toList.take (1 * Ty.sz (.arr 32 (.int .u8))) = [x].flatMap (am (.arr 32 (.int .u8))).cells) (hb : (xs.length + 1) * 32 ≤ 140737488355328) :
 Fn Tryz.prog 201 [.slice (some ⟨q, 0, none⟩) xs.length cap, .int .i64 0, .slice (some ⟨vq, 0, none⟩) 1 vcap] w (fun r w' => Fr (fun b => b = q) w w' ∧ w'.ownsRow 0 38 (Ty.sz (.arr 32 (.int .u8))) r (x :: xs).length ((x :: xs).flatMap (am (.arr 32 (.int .u8))).cells) ∧ ∀ b, r.ownBlock = some b → b = q ∨ w.heap.size ≤ b) := by
 have hz : Ty.sz (.arr 32 (.int .u8)) = 32 := rfl
 have hML : maxLen = 9223372036854775807 := rfl
 obtain ⟨n, hn⟩ : ∃ n, n = xs.length := ⟨_, rfl⟩
 rw [← hn] at h1 hcap htk hb ⊢
 obtain ⟨X, hX⟩ : ∃ X, X = xs.flatMap (am (.arr 32 (.int .u8))).cells := ⟨_, rfl⟩
 obtain ⟨Y, hY⟩ : ∃ Y, Y = [x].flatMap (am (.arr 32 (.int .u8))).cells := ⟨_, rfl⟩
 have hXl : X.length = n * Ty.sz (.arr 32 (.int .u8)) := by rw [hX, gR, hn, aK]
 have hYl : Y.length = Ty.sz (.arr 32 (.int .u8)) := by rw [hY, gR, aK]; simp
 have hX1 : ∀ v ∈ X, v.oneCell' = true := by rw [hX]; exact tX _ _
 have hY1 : ∀ v ∈ Y, v.oneCell' = true := by rw [hY]; exact tX _ _
 have hXY : (x :: xs).flatMap (am (.arr 32 (.int .u8))).cells = Y ++ X := by rw [hY, hX]; simp
 have hnl : (x :: xs).length = n + 1 := by rw [hn]; rfl
 rw [← hX] at htk
 rw [← hY] at hvt
 rw [hXY, hnl]
 rw [hz] at hXl hYl hcs hvs htk hvt ⊢
 have hqlt : q < w.heap.size := (Array.getElem?_eq_some_iff.1 hg).1
 have hvlt : vq < w.heap.size := (Array.getElem?_eq_some_iff.1 hvg).1
 -- cells of the row, of what is put ahead
 have rdX : ∀ {w' : World}, w'.heap[q]? = some (.cells cur 38 (0, 0)) → ∀ (j : Nat) u, X[j]? = some u → w'.cell? ((⟨q, 0, none⟩ : Addr).add j) = some u := by
  intro w' hw j u hj
  rw [bG]
  unfold World.cell?
  simp only [hw, Option.isSome_none, Bool.false_eq_true, if_false, Nat.zero_add]
  have hj' := hj
  rw [← htk, List.getElem?_take] at hj'
  split at hj'
  ·simpa using hj'
  ·cases hj'
 have rdY : ∀ {w' : World}, w'.heap[vq]? = some (.cells vcur 38 (0, 0)) → ∀ (j : Nat) u, Y[j]? = some u → w'.cell? ((⟨vq, 0, none⟩ : Addr).add j) = some u := by
  intro w' hw j u hj
  rw [bG]
  unfold World.cell?
  simp only [hw, Option.isSome_none, Bool.false_eq_true, if_false, Nat.zero_add]
  have hj' := hj
  rw [← hvt, List.getElem?_take] at hj'
  split at hj'
  ·simpa using hj'
  ·cases hj'
 have hshp : Shp (.slice (some ⟨q, 0, none⟩) n cap) n := ⟨_, cap, rfl, hcap, by omega, fun h => by cases h⟩
 have hvshp : Shp (.slice (some ⟨vq, 0, none⟩) 1 vcap) 1 := ⟨_, vcap, rfl, hv1, by omega, fun h => by cases h⟩
 have hnb : n + 1 ≤ 140737488355328 := Nat.le_trans (Nat.le_mul_of_pos_right _ (by decide : 0 < 32)) hb
 refine xq (fn := Tryz.f201) (k := 92) rfl rfl rfl fun a hS => ?_
 have hS : Sl 95 [(0, .slice (some ⟨q, 0, none⟩) n cap), (1, .int .i64 0), (2, .slice (some ⟨vq, 0, none⟩) 1 vcap)] a := hS
 refine bw (by kernel_rfl) (aO (by kernel_rfl) ?_)
 refine aH (j := 1) hS 1 [0, 1, 2] (m' := [(0, .slice (some ⟨q, 0, none⟩) n cap), (1, .int .i64 0), (2, .slice (some ⟨vq, 0, none⟩) 1 vcap)]) (by kernel_rfl) (by kernel_rfl) fun a hS => bK (by kernel_rfl) (bl ?_)
 refine bw (by kernel_rfl) (aO (by kernel_rfl) ?_)
 refine aH (j := 2) hS 2 [0, 1, 2, 10, 11] (m' := [(0, .slice (some ⟨q, 0, none⟩) n cap), (1, .int .i64 0), (2, .slice (some ⟨vq, 0, none⟩) 1 vcap), (10, .slice (some ⟨q, 0, none⟩) n cap), (11, .int .i64 0)]) (by kernel_rfl) (by kernel_rfl) fun a hS => ?_
 refine bz hS (v := ik (.slice (some ⟨q, 0, none⟩) n cap) 0 n 32) (d := some 12) (op := .slice 43 (.tmp 10) (some (.tmp 11)) none none) (g := none) (by kernel_rfl) (by kernel_rfl) (nq (hi := none) (lo := some (.tmp 11)) (h := n) (l := 0) hshp rfl (by kernel_rfl) (by simp [jt]) (by exact qy .i64 0 (by omega) (by omega))) fun a hS => bK (by kernel_rfl) (bl ?_)
 refine bw (by kernel_rfl) (aO (by kernel_rfl) ?_)
 refine aH (j := 1) hS 1 [0, 1, 2, 13] (m' := [(0, .slice (some ⟨q, 0, none⟩) n cap), (1, .int .i64 0), (2, .slice (some ⟨vq, 0, none⟩) 1 vcap), (13, .slice (some ⟨vq, 0, none⟩) 1 vcap)]) (by kernel_rfl) (by kernel_rfl) fun a hS => ?_
 refine bz hS (v := .int .i64 1) (d := some 14) (op := .call { callee := .builtin .len, args := #[.tmp 13], argTypes := #[43] }) (g := none) (by kernel_rfl) (by kernel_rfl) (sP hvshp rfl (by kernel_rfl)) fun a hS => ?_
 refine aH (j := 3) hS 1 [0, 1, 2, 7] (m' := [(0, .slice (some ⟨q, 0, none⟩) n cap), (1, .int .i64 0), (2, .slice (some ⟨vq, 0, none⟩) 1 vcap), (7, .int .i64 1)]) (by kernel_rfl) (by kernel_rfl) fun a hS => bK (by kernel_rfl) (bl ?_)
 refine bw (by kernel_rfl) (bw (by kernel_rfl) (aO (by kernel_rfl) ?_))
 refine aH (j := 2) hS 2 [0, 1, 2, 7, 16] (m' := [(0, .slice (some ⟨q, 0, none⟩) n cap), (1, .int .i64 0), (2, .slice (some ⟨vq, 0, none⟩) 1 vcap), (7, .int .i64 1), (16, .bool false)]) (by kernel_rfl) (by kernel_rfl) fun a hS => bK (by kernel_rfl) (bl ?_)
 refine jf (t := false) (by kernel_rfl) (hS.ev (x := .tmp 16) rfl) (fun h => by cases h) (fun _ => nf (by kernel_rfl) (bl ?_))
 refine bw (by kernel_rfl) (aO (by kernel_rfl) ?_)
 refine aH (j := 1) hS 1 [0, 1, 2, 7, 18] (m' := [(0, .slice (some ⟨q, 0, none⟩) n cap), (1, .int .i64 0), (2, .slice (some ⟨vq, 0, none⟩) 1 vcap), (7, .int .i64 1), (18, .slice (some ⟨q, 0, none⟩) n cap)]) (by kernel_rfl) (by kernel_rfl) fun a hS => ?_
 refine bz hS (v := .int .i64 (n : Int)) (d := some 19) (op := .call { callee := .builtin .len, args := #[.tmp 18], argTypes := #[43] }) (g := none) (by kernel_rfl) (by kernel_rfl) (sP hshp rfl (by kernel_rfl)) fun a hS => ?_
 refine aH (j := 3) hS 1 [0, 1, 2, 7, 8] (m' := [(0, .slice (some ⟨q, 0, none⟩) n cap), (1, .int .i64 0), (2, .slice (some ⟨vq, 0, none⟩) 1 vcap), (7, .int .i64 1), (8, .int .i64 (n : Int))]) (by kernel_rfl) (by kernel_rfl) fun a hS => bK (by kernel_rfl) (bl ?_)
 refine bw (by kernel_rfl) (bw (by kernel_rfl) (aO (by kernel_rfl) ?_))
 refine aH (j := 3) hS 3 [0, 1, 2, 7, 8, 22] (m' := [(0, .slice (some ⟨q, 0, none⟩) n cap), (1, .int .i64 0), (2, .slice (some ⟨vq, 0, none⟩) 1 vcap), (7, .int .i64 1), (8, .int .i64 (n : Int)), (22, .bool (decide ((0 : Int) = (n : Int))))]) (by kernel_rfl) (by kernel_rfl) fun a hS => bK (by kernel_rfl) (bl ?_)
 refine jf (t := decide ((0 : Int) = (n : Int))) (by kernel_rfl) (hS.ev (x := .tmp 22) rfl) (fun h => by simp at h; omega) (fun _ => nf (by kernel_rfl) (bl ?_))
 refine bw (by kernel_rfl) (bw (by kernel_rfl) (aO (by kernel_rfl) ?_))
 have hw1 : WK .i64 ((n : Int) + 1) = ((n + 1 : Nat) : Int) := by rw [show ((n + 1 : Nat) : Int) = (n : Int) + 1 by omega]; exact jO (by omega) (by omega)
 refine aH (j := 4) hS 4 [0, 1, 2, 7, 8, 28, 29] (m' := [(0, .slice (some ⟨q, 0, none⟩) n cap), (1, .int .i64 0), (2, .slice (some ⟨vq, 0, none⟩) 1 vcap), (7, .int .i64 1), (8, .int .i64 (n : Int)), (28, .int .i64 (WK .i64 ((n : Int) + 1))), (29, .slice (some ⟨q, 0, none⟩) n cap)]) (by kernel_rfl) (by kernel_rfl) fun a hS => ?_
 rw [hw1] at hS
 refine bz hS (v := .int .i64 (cap : Int)) (d := some 30) (op := .call { callee := .builtin .cap, args := #[.tmp 29], argTypes := #[43] }) (g := none) (by kernel_rfl) (by kernel_rfl) (Lf (e := 38) rfl (by kernel_rfl)) fun a hS => ?_
 refine aH (j := 6) hS 1 [0, 1, 2, 7, 8, 31] (m' := [(0, .slice (some ⟨q, 0, none⟩) n cap), (1, .int .i64 0), (2, .slice (some ⟨vq, 0, none⟩) 1 vcap), (7, .int .i64 1), (8, .int .i64 (n : Int)), (31, .bool (decide (((n + 1 : Nat) : Int) > (cap : Int))))]) (by kernel_rfl) (by kernel_rfl) fun a hS => bK (by kernel_rfl) (bl ?_)
 refine jf (t := decide (((n + 1 : Nat) : Int) > (cap : Int))) (by kernel_rfl) (hS.ev (x := .tmp 31) rfl) (fun ht => ?_) (fun ht => nf (by kernel_rfl) (bl ?_))
 ·-- no room: a new row
  have hno : cap < n + 1 := by simp at ht; omega
  refine bw (by kernel_rfl) (aO (by kernel_rfl) ?_)
  refine aH (j := 2) hS 2 [0, 1, 2, 7, 8, 32, 33] (m' := [(0, .slice (some ⟨q, 0, none⟩) n cap), (1, .int .i64 0), (2, .slice (some ⟨vq, 0, none⟩) 1 vcap), (7, .int .i64 1), (8, .int .i64 (n : Int)), (32, .slice (some ⟨q, 0, none⟩) n cap), (33, .int .i64 0)]) (by kernel_rfl) (by kernel_rfl) fun a hS => ?_
  refine bz hS (v := .slice (some ⟨q, 0, none⟩) 0 cap) (d := some 34) (op := .slice 43 (.tmp 32) none (some (.tmp 33)) none) (g := none) (by kernel_rfl) (by kernel_rfl) (by have := nq (P := Tryz.prog) (w := w) (ρ := ev [(0, .slice (some ⟨q, 0, none⟩) n cap), (1, .int .i64 0), (2, .slice (some ⟨vq, 0, none⟩) 1 vcap), (7, .int .i64 1), (8, .int .i64 (n : Int)), (32, .slice (some ⟨q, 0, none⟩) n cap), (33, .int .i64 0)]) (t := 43) (x := .tmp 32) (sz := 32) (hi := some (.tmp 33)) (lo := none) (h := 0) (l := 0) hshp rfl (by kernel_rfl) (by exact Er .i64 0 (by omega) (by omega)) (by simp [kr]); rwa [oN] at this) fun a hS => ?_
  refine aH (j := 8) hS 5 [0, 1, 2, 7, 34, 39] (m' := [(0, .slice (some ⟨q, 0, none⟩) n cap), (1, .int .i64 0), (2, .slice (some ⟨vq, 0, none⟩) 1 vcap), (7, .int .i64 1), (34, .slice (some ⟨q, 0, none⟩) 0 cap), (39, .int .i64 (WK .i64 (WK .i64 ((n : Int) + 1) - 0)))]) (by kernel_rfl) (by kernel_rfl) fun a hS => ?_
  have hw2 : WK .i64 (WK .i64 ((n : Int) + 1) - 0) = ((n + 1 : Nat) : Int) := by rw [hw1, Int.sub_zero]; exact jO (by omega) (by omega)
  rw [hw2] at hS
  refine ma (d := some 40) (op := .call { callee := .builtin .append, args := #[.tmp 34, .tmp 39], argTypes := #[43, 3] }) (g := none) hS (by kernel_rfl) (by kernel_rfl) (Dp (e := 38) (sz := 32) (bytes := 32) (ki := .i64) (z := zOf Tryz.prog 43) (by kernel_rfl) (by kernel_rfl) (by kernel_rfl) (by decide) rfl rfl hno hb (by omega)) ?_
  rintro _ w1 ⟨cap1, cur1, rfl, k1, k2, k3, k4, k5⟩ a hS
  obtain ⟨b, hbe⟩ : ∃ b, b = w.heap.size := ⟨_, rfl⟩
  rw [← hbe] at k4 hS
  have hg1 : w1.heap[q]? = some (.cells cur 38 (0, 0)) := (k5.block q hqlt (fun h => h)).trans hg
  have hvg1 : w1.heap[vq]? = some (.cells vcur 38 (0, 0)) := (k5.block vq hvlt (fun h => h)).trans hvg
  refine aH (j := 10) hS 1 [0, 1, 2, 7, 9] (m' := [(0, .slice (some ⟨q, 0, none⟩) n cap), (1, .int .i64 0), (2, .slice (some ⟨vq, 0, none⟩) 1 vcap), (7, .int .i64 1), (9, .slice (some ⟨b, 0, none⟩) (n + 1) cap1)]) (by kernel_rfl) (by kernel_rfl) fun a hS => bK (by kernel_rfl) (bl ?_)
  have hshb : Shp (.slice (some ⟨b, 0, none⟩) (n + 1) cap1) (n + 1) := ⟨_, cap1, rfl, k1, by omega, fun h => by cases h⟩
  refine bw (by kernel_rfl) (aO (by kernel_rfl) ?_)
  refine aH (j := 2) hS 2 [0, 1, 2, 7, 9, 41, 42] (m' := [(0, .slice (some ⟨q, 0, none⟩) n cap), (1, .int .i64 0), (2, .slice (some ⟨vq, 0, none⟩) 1 vcap), (7, .int .i64 1), (9, .slice (some ⟨b, 0, none⟩) (n + 1) cap1), (41, .slice (some ⟨b, 0, none⟩) (n + 1) cap1), (42, .int .i64 0)]) (by kernel_rfl) (by kernel_rfl) fun a hS => ?_
  refine bz hS (v := ik (.slice (some ⟨b, 0, none⟩) (n + 1) cap1) 0 (n + 1) 32) (d := some 43) (op := .slice 43 (.tmp 41) (some (.tmp 42)) none none) (g := none) (by kernel_rfl) (by kernel_rfl) (nq (hi := none) (lo := some (.tmp 42)) (h := n + 1) (l := 0) hshb rfl (by kernel_rfl) (by simp [jt]) (by exact qy .i64 0 (by omega) (by omega))) fun a hS => ?_
  rw [oN] at hS
  refine aH (j := 4) hS 1 [0, 1, 2, 7, 9, 43, 44] (m' := [(0, .slice (some ⟨q, 0, none⟩) n cap), (1, .int .i64 0), (2, .slice (some ⟨vq, 0, none⟩) 1 vcap), (7, .int .i64 1), (9, .slice (some ⟨b, 0, none⟩) (n + 1) cap1), (43, .slice (some ⟨b, 0, none⟩) (n + 1) cap1), (44, .slice (some ⟨vq, 0, none⟩) 1 vcap)]) (by kernel_rfl) (by kernel_rfl) fun a hS => ?_
  have hm1 : Nat.min 1 (n + 1) = 1 := Nat.min_eq_left (by omega)
  refine ma (d := some 45) (op := .call { callee := .builtin .copy, args := #[.tmp 43, .tmp 44], argTypes := #[43, 43] }) (g := none) hS (by kernel_rfl) (by kernel_rfl) (tJ (sz := 32) (q := b) (o := 0) (dl := n + 1) (sl := 1) (cs := Y) (by kernel_rfl) rfl rfl k4 (by rw [hm1, hYl]) (rdY hvg1) (by rw [hYl, k3]; omega) hY1) ?_
  rintro _ w2 rfl a hS
  obtain ⟨cur2, hcur2⟩ : ∃ cur2, cur2 = (cur1.toList.take 0 ++ Y ++ cur1.toList.drop (0 + Y.length)).toArray := ⟨_, rfl⟩
  rw [← hcur2]
  have hs2 : cur2.size = cap1 * 32 := by rw [hcur2]; simp [hYl]; omega
  have ht2 : cur2.toList.take 32 = Y := by rw [hcur2]; simp only [List.toList_toArray, List.take_zero, List.nil_append]; exact List.take_left' hYl
  have hbq : q ≠ b := by omega
  have hbv : vq ≠ b := by omega
  have hg2 : (w1.setRow b cur2).heap[b]? = some (.cells cur2 38 (0, 0)) := setRow_heap w1 b cur1 cur2 _ _ k4
  have hgq2 : (w1.setRow b cur2).heap[q]? = some (.cells cur 38 (0, 0)) := (setRow_other w1 b q cur2 hbq).trans hg1
  have hfr2 : Fr nob w (w1.setRow b cur2) := k5.trans (gB w1 b cur2) (fun x hx => .inr (by omega))
  refine bK (by kernel_rfl) (bl ?_)
  refine bw (by kernel_rfl) (BJ (N := 9) 8 (by kernel_rfl) (by kernel_rfl) (fun _ => True) (by kernel_rfl) (by kernel_rfl) (fun w3 hw3 => ?_))
  have hblt : b < (w1.setRow b cur2).heap.size := (Array.getElem?_eq_some_iff.1 hg2).1
  have hqlt2 : q < (w1.setRow b cur2).heap.size := (Array.getElem?_eq_some_iff.1 hgq2).1
  have hg3 : w3.heap[b]? = some (.cells cur2 38 (0, 0)) := (hw3.block b hblt (fun h => h)).trans hg2
  have hgq3 : w3.heap[q]? = some (.cells cur 38 (0, 0)) := (hw3.block q hqlt2 (fun h => h)).trans hgq2
  refine yo (fuel := 3) (l' := [6, 5, 3, 2, 1, 0]) hS trivial [0, 1, 2, 3, 5, 6] [9, 46, 49, 51, 52] (m' := [(9, .slice (some ⟨b, 0, none⟩) (n + 1) cap1), (46, .slice (some ⟨b, 0, none⟩) (n + 1) cap1), (49, .int .i64 1), (51, .slice (some ⟨q, 0, none⟩) n cap), (52, .int .i64 0)]) (by kernel_rfl) (by kernel_rfl) (by kernel_rfl) (fun a hS => ?_)
  refine tA (fuel := 2) (j := 4) (v := ik (.slice (some ⟨b, 0, none⟩) (n + 1) cap1) 1 (n + 1) 32) (d := some 50) (op := .slice 43 (.tmp 46) (some (.tmp 49)) none none) (g := none) hS (by kernel_rfl) (by kernel_rfl)
   (fun w' _ => nq (hi := none) (lo := some (.tmp 49)) (h := n + 1) (l := 1) hshb rfl (by kernel_rfl) (by simp [jt]) (by exact qy .i64 1 (by omega) (by omega))) trivial (fun a hS => ?_)
  refine tA (fuel := 1) (j := 7) (v := ik (.slice (some ⟨q, 0, none⟩) n cap) 0 n 32) (d := some 53) (op := .slice 43 (.tmp 51) (some (.tmp 52)) none none) (g := none) hS (by kernel_rfl) (by kernel_rfl)
   (fun w' _ => nq (hi := none) (lo := some (.tmp 52)) (h := n) (l := 0) hshp rfl (by kernel_rfl) (by simp [jt]) (by exact qy .i64 0 (by omega) (by omega))) trivial (fun a hS => ?_)
  rw [oN, xU (by omega)] at hS
  have hmn : Nat.min n (n + 1 - 1) = n := Nat.min_eq_left (by omega)
  refine Ej (fuel := 0) (j := 8) (d := some 54) (op := .call { callee := .builtin .copy, args := #[.tmp 50, .tmp 53], argTypes := #[43, 43] }) (g := none) hS (by kernel_rfl) (by kernel_rfl) (by kernel_rfl)
   (tJ (sz := 32) (q := b) (o := 32) (dl := n + 1 - 1) (sl := n) (cs := X) (by kernel_rfl) rfl rfl hg3 (by rw [hmn, hXl]) (rdX hgq3) (by rw [hXl, hs2]; omega) hX1) ?_
  rintro _ w4 rfl
  refine ⟨.inr trivial, fun a hS => BK (by kernel_rfl) (bl ?_)⟩
  obtain ⟨cur3, hcur3⟩ : ∃ cur3, cur3 = (cur2.toList.take 32 ++ X ++ cur2.toList.drop (32 + X.length)).toArray := ⟨_, rfl⟩
  rw [← hcur3]
  have hs3 : cur3.size = cap1 * 32 := by rw [hcur3]; simp [hXl]; omega
  have ht3 : cur3.toList.take ((n + 1) * 32) = Y ++ X := by
   rw [hcur3, List.toList_toArray, ht2]
   exact List.take_left' (by rw [List.length_append, hYl, hXl]; omega)
  have hg4 : (w3.setRow b cur3).heap[b]? = some (.cells cur3 38 (0, 0)) := setRow_heap w3 b cur2 cur3 _ _ hg3
  refine bw (by kernel_rfl) (aO (by kernel_rfl) ?_)
  refine aH (j := 2) hS 2 [6] (m' := [(6, .slice (some ⟨b, 0, none⟩) (n + 1) cap1)]) (by kernel_rfl) (by kernel_rfl) fun a hS => bK (by kernel_rfl) (bl ?_)
  refine qu (by kernel_rfl) (tz (sL (vs := [.slice (some ⟨b, 0, none⟩) (n + 1) cap1]) hS rfl ⟨_, rfl, ?_, ⟨?_, .inr ⟨b, cap1, cur3, rfl, Nat.zero_le _, hg4, k1, k2, hs3, ht3⟩⟩, fun b' hb' => .inr ?_⟩))
  ·exact (((hfr2.trans hw3 (fun x hx => hx.elim)).trans (gB w3 b cur3) (fun x hx => .inr (by omega))) : Fr nob w (w3.setRow b cur3)).mono (fun x hx => hx.elim)
  ·rw [List.length_append, hYl, hXl]; omega
  ·have : b = b' := Option.some.inj hb'
   omega
 ·have hroom : n + 1 ≤ cap := by simp at ht; omega
  refine bw (by kernel_rfl) (aO (by kernel_rfl) ?_)
  refine aH (j := 4) hS 4 [1, 2, 7, 56, 59] (m' := [(1, .int .i64 0), (2, .slice (some ⟨vq, 0, none⟩) 1 vcap), (7, .int .i64 1), (56, .slice (some ⟨q, 0, none⟩) n cap), (59, .int .i64 (WK .i64 ((n : Int) + 1)))]) (by kernel_rfl) (by kernel_rfl) fun a hS => ?_
  rw [hw1] at hS
  refine bz hS (v := ik (.slice (some ⟨q, 0, none⟩) n cap) 0 (((n + 1 : Nat) : Int).toNat) 32) (d := some 60) (op := .slice 43 (.tmp 56) none (some (.tmp 59)) none) (g := none) (by kernel_rfl) (by kernel_rfl) (Ku rfl (by kernel_rfl) rfl (by omega) (by omega)) fun a hS => ?_
  rw [oN, Int.toNat_natCast] at hS
  have hshc : Shp (.slice (some ⟨q, 0, none⟩) (n + 1) cap) (n + 1) := ⟨_, cap, rfl, hroom, by omega, fun h => by cases h⟩
  refine aH (j := 6) hS 1 [0, 1, 2, 7] (m' := [(0, .slice (some ⟨q, 0, none⟩) (n + 1) cap), (1, .int .i64 0), (2, .slice (some ⟨vq, 0, none⟩) 1 vcap), (7, .int .i64 1)]) (by kernel_rfl) (by kernel_rfl) fun a hS => bK (by kernel_rfl) (bl ?_)
  refine bw (by kernel_rfl) (bw (by kernel_rfl) (aO (by kernel_rfl) ?_))
  refine aH (j := 5) hS 5 [0, 1, 2, 7, 61, 62, 65] (m' := [(0, .slice (some ⟨q, 0, none⟩) (n + 1) cap), (1, .int .i64 0), (2, .slice (some ⟨vq, 0, none⟩) 1 vcap), (7, .int .i64 1), (61, .slice (some ⟨vq, 0, none⟩) 1 vcap), (62, .slice (some ⟨q, 0, none⟩) (n + 1) cap), (65, .int .i64 1)]) (by kernel_rfl) (by kernel_rfl) fun a hS => ?_
  refine bz hS (v := ik (.slice (some ⟨q, 0, none⟩) (n + 1) cap) 1 (n + 1) 32) (d := some 66) (op := .slice 43 (.tmp 62) (some (.tmp 65)) none none) (g := none) (by kernel_rfl) (by kernel_rfl) (nq (hi := none) (lo := some (.tmp 65)) (h := n + 1) (l := 1) hshc rfl (by kernel_rfl) (by simp [jt]) (by exact qy .i64 1 (by omega) (by omega))) fun a hS => ?_
  rw [xU (by omega)] at hS
  refine ma (d := some 67) (op := .call { callee := .value (.func 220), args := #[.tmp 61, .tmp 66], argTypes := #[43, 43] }) (g := none) hS (by kernel_rfl) (by kernel_rfl)
   (Dq (tS := 43) (tR := 4) (e := 38) (sz := 32) (a := ⟨vq, 0, none⟩) (b := ⟨q, 32, none⟩) (fn := Tryz.f220) Tryz.func220 (by kernel_rfl) (by kernel_rfl) (by kernel_rfl) (by kernel_rfl) (by kernel_rfl) (by kernel_rfl) rfl rfl rfl hne hvg hg (by rw [hcs]; omega)) ?_
  rintro _ _ ⟨rfl, rfl⟩ a hS
  refine aH (j := 8) hS 1 [0, 1, 2, 7, 68] (m' := [(0, .slice (some ⟨q, 0, none⟩) (n + 1) cap), (1, .int .i64 0), (2, .slice (some ⟨vq, 0, none⟩) 1 vcap), (7, .int .i64 1), (68, .bool true)]) (by kernel_rfl) (by kernel_rfl) fun a hS => bK (by kernel_rfl) (bl ?_)
  refine jf (t := true) (by kernel_rfl) (hS.ev (x := .tmp 68) rfl) (fun _ => ?_) (fun h => by cases h)
  refine bw (by kernel_rfl) (BJ (N := 9) 8 (by kernel_rfl) (by kernel_rfl) (fun _ => True) (by kernel_rfl) (by kernel_rfl) (fun w3 hw3 => ?_))
  have hg3 : w3.heap[q]? = some (.cells cur 38 (0, 0)) := (hw3.block q hqlt (fun h => h)).trans hg
  have hvg3 : w3.heap[vq]? = some (.cells vcur 38 (0, 0)) := (hw3.block vq hvlt (fun h => h)).trans hvg
  refine yo (fuel := 3) (l' := [6, 5, 3, 2, 1, 0]) hS trivial [0, 1, 2, 3, 5, 6] [0, 1, 2, 69, 72, 74, 75] (m' := [(0, .slice (some ⟨q, 0, none⟩) (n + 1) cap), (1, .int .i64 0), (2, .slice (some ⟨vq, 0, none⟩) 1 vcap), (69, .slice (some ⟨q, 0, none⟩) (n + 1) cap), (72, .int .i64 1), (74, .slice (some ⟨q, 0, none⟩) (n + 1) cap), (75, .int .i64 0)]) (by kernel_rfl) (by kernel_rfl) (by kernel_rfl) (fun a hS => ?_)
  refine tA (fuel := 2) (j := 4) (v := ik (.slice (some ⟨q, 0, none⟩) (n + 1) cap) 1 (n + 1) 32) (d := some 73) (op := .slice 43 (.tmp 69) (some (.tmp 72)) none none) (g := none) hS (by kernel_rfl) (by kernel_rfl)
   (fun w' _ => nq (hi := none) (lo := some (.tmp 72)) (h := n + 1) (l := 1) hshc rfl (by kernel_rfl) (by simp [jt]) (by exact qy .i64 1 (by omega) (by omega))) trivial (fun a hS => ?_)
  refine tA (fuel := 1) (j := 7) (v := ik (.slice (some ⟨q, 0, none⟩) (n + 1) cap) 0 (n + 1) 32) (d := some 76) (op := .slice 43 (.tmp 74) (some (.tmp 75)) none none) (g := none) hS (by kernel_rfl) (by kernel_rfl)
   (fun w' _ => nq (hi := none) (lo := some (.tmp 75)) (h := n + 1) (l := 0) hshc rfl (by kernel_rfl) (by simp [jt]) (by exact qy .i64 0 (by omega) (by omega))) trivial (fun a hS => ?_)
  rw [oN, xU (by omega)] at hS
  have hmn : Nat.min (n + 1) (n + 1 - 1) = n := Nat.min_eq_right (by omega)
  refine Ej (fuel := 0) (j := 8) (d := some 77) (op := .call { callee := .builtin .copy, args := #[.tmp 73, .tmp 76], argTypes := #[43, 43] }) (g := none) hS (by kernel_rfl) (by kernel_rfl) (by kernel_rfl)
   (tJ (sz := 32) (q := q) (o := 32) (dl := n + 1 - 1) (sl := n + 1) (cs := X) (by kernel_rfl) rfl rfl hg3 (by rw [hmn, hXl]) (rdX hg3) (by rw [hXl, hcs]; omega) hX1) ?_
  rintro _ w4 rfl
  refine ⟨.inr trivial, fun a hS => BK (by kernel_rfl) (bl ?_)⟩
  obtain ⟨cur2, hcur2⟩ : ∃ cur2, cur2 = (cur.toList.take 32 ++ X ++ cur.toList.drop (32 + X.length)).toArray := ⟨_, rfl⟩
  rw [← hcur2]
  have hs2 : cur2.size = cap * 32 := by rw [hcur2]; simp [hXl]; omega
  have hg4 : (w3.setRow q cur2).heap[q]? = some (.cells cur2 38 (0, 0)) := setRow_heap w3 q cur cur2 _ _ hg3
  have hvg4 : (w3.setRow q cur2).heap[vq]? = some (.cells vcur 38 (0, 0)) := (setRow_other w3 q vq cur2 hne).trans hvg3
  have hfr4 := (hw3.mono (E := fun b => b = q) (fun x hx => hx.elim)).trans (gB w3 q cur2) (fun x hx => .inl hx)
  refine bw (by kernel_rfl) (aO (by kernel_rfl) ?_)
  refine aH (j := 2) hS 2 [0, 2, 78, 79] (m' := [(0, .slice (some ⟨q, 0, none⟩) (n + 1) cap), (2, .slice (some ⟨vq, 0, none⟩) 1 vcap), (78, .slice (some ⟨q, 0, none⟩) (n + 1) cap), (79, .int .i64 0)]) (by kernel_rfl) (by kernel_rfl) fun a hS => ?_
  refine bz hS (v := ik (.slice (some ⟨q, 0, none⟩) (n + 1) cap) 0 (n + 1) 32) (d := some 80) (op := .slice 43 (.tmp 78) (some (.tmp 79)) none none) (g := none) (by kernel_rfl) (by kernel_rfl) (nq (hi := none) (lo := some (.tmp 79)) (h := n + 1) (l := 0) hshc rfl (by kernel_rfl) (by simp [jt]) (by exact qy .i64 0 (by omega) (by omega))) fun a hS => ?_
  rw [oN] at hS
  refine aH (j := 4) hS 1 [0, 80, 81] (m' := [(0, .slice (some ⟨q, 0, none⟩) (n + 1) cap), (80, .slice (some ⟨q, 0, none⟩) (n + 1) cap), (81, .slice (some ⟨vq, 0, none⟩) 1 vcap)]) (by kernel_rfl) (by kernel_rfl) fun a hS => ?_
  have hm1 : Nat.min 1 (n + 1) = 1 := Nat.min_eq_left (by omega)
  refine ma (d := some 82) (op := .call { callee := .builtin .copy, args := #[.tmp 80, .tmp 81], argTypes := #[43, 43] }) (g := none) hS (by kernel_rfl) (by kernel_rfl) (tJ (sz := 32) (q := q) (o := 0) (dl := n + 1) (sl := 1) (cs := Y) (by kernel_rfl) rfl rfl hg4 (by rw [hm1, hYl]) (rdY hvg4) (by rw [hYl, hs2]; omega) hY1) ?_
  rintro _ w5 rfl a hS
  obtain ⟨cur3, hcur3⟩ : ∃ cur3, cur3 = (cur2.toList.take 0 ++ Y ++ cur2.toList.drop (0 + Y.length)).toArray := ⟨_, rfl⟩
  rw [← hcur3]
  have hs3 : cur3.size = cap * 32 := by rw [hcur3]; simp [hYl]; omega
  have ht3 : cur3.toList.take ((n + 1) * 32) = Y ++ X := by
   have e1 : (cur.toList.take 32).length = 32 := by rw [List.length_take, Array.length_toList, hcs]; omega
   rw [hcur3, List.toList_toArray, List.take_zero, List.nil_append, Nat.zero_add, hYl, hcur2, List.toList_toArray, List.append_assoc, List.drop_left' e1]
   rw [show (n + 1) * 32 = 32 + n * 32 by omega, ← hYl, List.take_length_add_append, hYl]
   congr 1
   exact List.take_left' hXl
  have hg5 : ((w3.setRow q cur2).setRow q cur3).heap[q]? = some (.cells cur3 38 (0, 0)) := setRow_heap _ q cur2 cur3 _ _ hg4
  refine bK (by kernel_rfl) (bl ?_)
  refine bw (by kernel_rfl) (aO (by kernel_rfl) ?_)
  refine aH (j := 2) hS 2 [6] (m' := [(6, .slice (some ⟨q, 0, none⟩) (n + 1) cap)]) (by kernel_rfl) (by kernel_rfl) fun a hS => bK (by kernel_rfl) (bl ?_)
  refine qu (by kernel_rfl) (tz (sL (vs := [.slice (some ⟨q, 0, none⟩) (n + 1) cap]) hS rfl ⟨_, rfl, ?_, ⟨?_, .inr ⟨q, cap, cur3, rfl, Nat.zero_le _, hg5, hroom, hcm, hs3, ht3⟩⟩, fun b' hb' => .inl ?_⟩))
  ·exact hfr4.trans (gB _ q cur3) (fun x hx => .inl hx)
  ·rw [List.length_append, hYl, hXl]; omega
  ·have : q = b' := Option.some.inj hb'
   exact this.symm
def nQ (k : Nat) (x : Int × List (Ty.den (.arr 32 (.int .u8))) × List (Ty.den (.arr 32 (.int .u8)))) : Option (List (Ty.den (.arr 32 (.int .u8)))) :=
 match x.2.2 with
 | [v] => af (x.1 = 0 ∧ 1 ≤ x.2.1.length ∧ (x.2.1.length + 1) * 32 ≤ 140737488355328) (some (v :: x.2.1))
 | _ => none
theorem va : al Tryz.prog ⟨201, ⟨[(0, .v (.a (.sl 0))), (1, .v (.a (.fl (.int .i64)))), (2, .v (.a (.sl 1)))], [], [.row 38 (.arr 32 (.int .u8)) .own, .row 38 (.arr 32 (.int .u8)) .own]⟩, [⟨[(100000, .v (.a (.sl 2)))], [(0, .gone)], [.row 38 (.arr 32 (.int .u8)) .own]⟩], nQ⟩ := by
 refine zE (u := .arr 32 (.int .u8)) rfl ?_
 intro k i xs vs ys v1 v2 w hf h1 h2 hsep
 unfold nQ at hf
 split at hf
 ·rename_i v hv
  obtain ⟨⟨h3, h4, h5⟩, hf⟩ := gI.1 hf
  cases hf
  simp only at hv h3 h4 h5
  subst hv h3
  rcases h1.2 with ⟨_, h0⟩ | ⟨q, cap, cur, rfl, _, hg, a1, a2, a3, a4⟩
  ·omega
  ·rcases h2.2 with ⟨_, h0⟩ | ⟨vq, vcap, vcur, rfl, _, hvg, b1, b2, b3, b4⟩
   ·simp at h0
   ·have hne : vq ≠ q := fun h => hsep q rfl (by rw [h]; rfl)
    refine Calls.mono (uZ xs v q cap cur vq vcap vcur w hg hvg hne h4 a1 a2 a3 a4 (by simpa using b1) b2 b3 (by simpa using b4) h5) ?_
    rintro e w' ⟨r, rfl, hfr, hown, hnew⟩
    exact ⟨r, rfl, hfr.mono (fun b hb => by rw [hb]; rfl), hown, fun b hb => (hnew b hb).imp (fun h => by rw [h]; rfl) id⟩
 ·cases hf
end Go.Proofs.YtlepjakmadlkjaaGreatDoor
