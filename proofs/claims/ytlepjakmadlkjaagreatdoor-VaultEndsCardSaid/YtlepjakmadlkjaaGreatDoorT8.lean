/- Texts of the proof, put together: part 8. No condition. -/
import Derived.Test.YtlepjakmadlkjaaGreatDoorT7
import Derived.Test.YtlepjakmadlkjaaGreatDoorRows
import Derived.WalkKit
import Derived.ProofKit
import Derived.OpenShut
import Derived.ShutString
import Derived.ChangeOld
import Derived.SizedLaws
import Derived.Deep.Slices
import Derived.LaidMore
import Derived.Lib.LaidTab
import Derived.Stop.Joined
import Derived.Lib.BitFns
import Derived.Lib.ItoaNum
set_option linter.unusedVariables false
set_option linter.unusedSimpArgs false
namespace Go.Proofs.YtlepjakmadlkjaaGreatDoor
open Go Go.WideShapes Go.ChangeShapes
mutual
def zo (P : Program) : Nat → TypeId → Ty → Bool
 | 0, _, _ => false
 | d + 1, t, u => match P.underlying t with
   | some .bool => decide (u = .bool)
   | some (.int k) => decide (u = .int k)
   | some .string => decide (u = .str)
   | some (.array n e) => match u with
     | .arr m v => decide (n = m) && v.flat && zo P d e v && decide (n * P.cellsOf e = P.cellsOf t) && decide (P.cellsOf e = v.sz)
     | _ => false
   | some (.slice e) => match u with
     | .sl e' v => decide (e = e') && zo P d e v && decide (P.cellsOf e = v.sz)
     | _ => false
   | some (.struct fs) => chkF P d 0 fs.toList u (P.cellsOf t)
   | _ => false
def chkF (P : Program) : Nat → Nat → List Field → Ty → Nat → Bool
 | 0, _, _, _, _ => false
 | _ + 1, off, [], u, n => decide (u = .unit) && decide (off = n)
 | d + 1, off, [f], u, n => decide (f.offset = off) && zo P d f.type u && decide (off + P.cellsOf f.type = n)
 | d + 1, off, f :: g :: fs, u, n => match u with
   | .pair a b => decide (f.offset = off) && zo P d f.type a && chkF P d (off + P.cellsOf f.type) (g :: fs) b n
   | _ => false
end
def wfT : (u : Ty) → u.den → Prop
 | .int k, x => (Lit.int k x).wf = true
 | .bool, _ => True
 | .str, s => s.size ≤ 9223372036854775807
 | .unit, _ => True
 | .arr n t, v => ∀ i : Fin n, wfT t (v.get i)
 | .pair a b, x => wfT a x.1 ∧ wfT b x.2
 | .sl _ t, l => l.length ≤ 9223372036854775807 ∧ ∀ x ∈ l, wfT t x
def sD (F : List Fact) (w : World) : Prop := ∀ f ∈ F, Rds f.v f.n f.sz f.cs w
section
variable {H : Type} {enc : TypeId × Value → H} {P : Program} {w : World} {base : Nat} {held : Bool}
theorem wA {F G : List Fact} (h : sD F w) (k : sD G w) : sD (F ++ G) w := fun f hf => by
 rcases List.mem_append.1 hf with hf | hf
 ·exact h f hf
 ·exact k f hf
mutual
theorem nF : ∀ (d fuel : Nat) (t : TypeId) (u : Ty) (cs : List Value) (x : DataW H × List MemPlace), zo P d t u = true → DataW.trod enc P w base (fun _ => true) held fuel t cs = some x →
 ∃ (y : u.den) (F : List Fact), gH u y cs F ∧ sD F w ∧ wfT u y
 | 0, _, _, _, _, _, h, _ => by simp [zo] at h
 | d + 1, fuel, t, u, cs, x, h, hx => by
   simp only [zo] at h
   split at h
   ·rename_i hu
    obtain rfl := of_decide_eq_true h
    obtain ⟨b, rfl, _⟩ := DataW.trod_bool hu hx
    exact ⟨b, [], ⟨rfl, rfl⟩, (fun f hf => by cases hf), trivial⟩
   ·rename_i k hu
    obtain rfl := of_decide_eq_true h
    obtain ⟨n, rfl, _, hw⟩ := DataW.trod_int hu hx
    exact ⟨n, [], ⟨rfl, rfl⟩, (fun f hf => by cases hf), hw⟩
   ·rename_i hu
    obtain rfl := of_decide_eq_true h
    obtain ⟨s, rfl, _, hw⟩ := DataW.trod_string hu hx
    exact ⟨s, [], ⟨rfl, rfl⟩, (fun f hf => by cases hf), hw⟩
   ·rename_i n e hu
    split at h
    ·rename_i m v
     simp only [Bool.and_eq_true, decide_eq_true_eq] at h
     obtain ⟨⟨⟨⟨rfl, hfl⟩, hc⟩, hsz⟩, hv⟩ := h
     obtain ⟨xs, m, rfl, _, hl, hlen, hm⟩ := DataW.trod_array hu hx
     have one : ∀ i, i < n → ∃ y : v.den, (cs.drop (i * v.sz)).take v.sz = (am v).cells y ∧ wfT v y := by
      intro i hi
      have hlt : i < xs.length := by omega
      obtain ⟨y, F, h1, h2, h3⟩ := nF d m e v _ xs[i] hc (by rw [hm i hi, List.getElem?_eq_getElem hlt])
      rw [hv] at h1
      exact ⟨y, ((dE v hfl _ _ _).1 h1).1, h3⟩
     haveI : Inhabited v.den := ⟨v.dflt⟩
     obtain ⟨f, hf⟩ := Go.Deep.choose_lt one
     refine ⟨Vector.ofFn (fun i : Fin n => f i.1), [], ⟨?_, rfl⟩, (fun f hf => by cases hf), fun i => ?_⟩
     ·have har : arL (am v).dflt n (Vector.ofFn (fun i : Fin n => f i.1)) = (List.range n).map f := by
       unfold arL
       apply List.map_congr_left
       intro i hi
       have hi : i < n := by simpa using hi
       have h1 : (Vector.ofFn (fun i : Fin n => f i.1)).toArray.size = n := by simp
       simp only [Array.getD, h1, hi, dif_pos]
       simp [Array.getInternal_eq_getElem]
      have hcs : ∀ k, k ≤ n → ((List.range k).map f).flatMap (am v).cells = cs.take (k * v.sz) := by
       intro k
       induction k with
       | zero => intro _; simp
       | succ k ih =>
         intro hk
         rw [List.range_succ, List.map_append, List.flatMap_append, ih (by omega)]
         simp only [List.map_cons, List.map_nil, List.flatMap_cons, List.flatMap_nil, List.append_nil]
         rw [← (hf k (by omega)).1, Nat.add_mul, Nat.one_mul, List.take_add]
      show cs = (arL (am v).dflt n _).flatMap (am v).cells
      rw [har, hcs n (Nat.le_refl _), List.take_of_length_le]
      rw [hl, ← hsz, hv]; exact Nat.le_refl _
     ·have : (Vector.ofFn (fun i : Fin n => f i.1)).get i = f i.1 := by
       simp only [Vector.get]
       simp
       first | rfl | done
      rw [this]; exact (hf i.1 i.2).2
    ·cases h
   ·rename_i e hu
    split at h
    ·rename_i e' v
     simp only [Bool.and_eq_true, decide_eq_true_eq] at h
     obtain ⟨⟨rfl, hc⟩, hv⟩ := h
     rcases Go.Deep.open_slice hu hx with ⟨h0, _⟩ | ⟨a, len, cap, m, n, D, Pl, hcs, hb, hl, hm, hmm, _, hel⟩
     ·subst h0
      exact ⟨[], [⟨.slice none 0 0, 0, v.sz, []⟩], ⟨_, [], [], rfl, ⟨none, 0, rfl, fun _ => rfl⟩, rfl, rfl, rfl⟩, (fun f hf => by
       simp only [List.mem_singleton] at hf; subst hf; exact lB _ _), by simp, by simp⟩
     ·subst hcs
      have hm' : len ≤ m := by rw [hmm]; split <;> omega
      have one : ∀ i, i < len → ∃ y : v.den × List Value × List Fact, w.cells? base (a.add (i * v.sz)) v.sz = some y.2.1 ∧ gH v y.1 y.2.1 y.2.2 ∧ sD y.2.2 w ∧ wfT v y.1 := by
       intro i hi
       obtain ⟨cs', h1, h2⟩ := hel i (by omega)
       rw [hv] at h1
       obtain ⟨y, F, k1, k2, k3⟩ := nF d n e v cs' _ hc h2
       exact ⟨(y, cs', F), h1, k1, k2, k3⟩
      haveI : Inhabited (v.den × List Value × List Fact) := ⟨(v.dflt, [], [])⟩
      obtain ⟨f, hf⟩ := Go.Deep.choose_lt one
      have build : ∀ k, k ≤ len → ∃ css F, gh (gH v) ((List.range k).map fun i => (f i).1) css F ∧ sD F w ∧ css.length = k * v.sz ∧ ∀ j c, css[j]? = some c → w.cell? (a.add j) = some c := by
       intro k
       induction k with
       | zero => intro _; exact ⟨[], [], ⟨rfl, rfl⟩, (fun f hf => by cases hf), by simp, by simp⟩
       | succ k ih =>
         intro hk
         obtain ⟨css, F, r1, r2, r3, r4⟩ := ih (by omega)
         obtain ⟨c1, c2, c3, _⟩ := hf k (by omega)
         obtain ⟨_, hcl, hce⟩ := World.cells?_some c1
         refine ⟨css ++ (f k).2.1, F ++ (f k).2.2, ?_, wA r2 c3, ?_, fun j c hj => ?_⟩
         ·rw [List.range_succ, List.map_append]
          refine tH _ _ _ _ _ _ r1 ?_
          exact ⟨(f k).2.1, [], (f k).2.2, [], by simp, by simp, c2, rfl, rfl⟩
         ·rw [List.length_append, r3, gL v _ _ _ c2, Nat.add_mul, Nat.one_mul]
         ·by_cases hlt : j < k * v.sz
          ·rw [List.getElem?_append_left (by omega)] at hj
           exact r4 j c hj
          ·rw [List.getElem?_append_right (by omega), r3] at hj
           have hlt2 := (List.getElem?_eq_some_iff.1 hj).1
           rw [gL v _ _ _ c2] at hlt2
           have := hce (j - k * v.sz) hlt2
           rw [hj, Go.Deep.add_add] at this
           rw [← this]; congr 2; omega
      obtain ⟨css, F, r1, r2, r3, r4⟩ := build len (Nat.le_refl _)
      have hlen : ((List.range len).map fun i => (f i).1).length = len := by simp
      have hmx : cap ≤ 9223372036854775807 := by unfold maxLen at hm; omega
      refine ⟨(List.range len).map fun i => (f i).1, ⟨.slice (some a) len cap, len, v.sz, css⟩ :: F, ⟨_, css, F, rfl, ⟨some a, cap, by rw [hlen], fun h => by cases h⟩, by rw [hlen], r1⟩, fun f0 hf0 => ?_, ?_, ?_⟩
      ·rcases List.mem_cons.1 hf0 with rfl | hf0
       ·exact ⟨r3, some a, cap, rfl, hl, hmx, (fun h => by cases h), fun j u hu => ⟨a, rfl, r4 j u hu⟩⟩
       ·exact r2 f0 hf0
      ·rw [hlen]; omega
      ·intro y hy
       simp only [List.mem_map, List.mem_range] at hy
       obtain ⟨i, hi, rfl⟩ := hy
       exact (hf i hi).2.2.2
    ·cases h
   ·rename_i fs hu
    obtain ⟨xs, m, rfl, _, hl, hlen, hm⟩ := DataW.trod_struct hu hx
    have := open_repF d m 0 fs.toList u (P.cellsOf t) cs h hl (fun i f hi => ?_)
    ·simpa using this
    ·have hi' : fs[i]? = some f := by simpa using hi
     have hlt : i < xs.length := by rw [hlen]; exact (Array.getElem?_eq_some_iff.1 hi').1
     exact ⟨xs[i], by rw [hm i f hi', List.getElem?_eq_getElem hlt]⟩
   ·cases h
theorem open_repF : ∀ (d fuel off : Nat) (fs : List Field) (u : Ty) (n : Nat) (cs : List Value), chkF P d off fs u n = true → cs.length = n →
 (∀ (i : Nat) f, fs[i]? = some f → ∃ y, DataW.trod enc P w base (fun _ => true) held fuel f.type ((cs.drop f.offset).take (P.cellsOf f.type)) = some y) →
 ∃ (y : u.den) (F : List Fact), gH u y (cs.drop off) F ∧ sD F w ∧ wfT u y
 | 0, _, _, _, _, _, _, h, _, _ => by simp [chkF] at h
 | d + 1, fuel, off, [], u, n, cs, h, hl, _ => by
   simp only [chkF, Bool.and_eq_true, decide_eq_true_eq] at h
   obtain ⟨rfl, rfl⟩ := h
   exact ⟨(), [], ⟨by simp [am, FU, ← hl], rfl⟩, (fun f hf => by cases hf), trivial⟩
 | d + 1, fuel, off, [f], u, n, cs, h, hl, hm => by
   simp only [chkF, Bool.and_eq_true, decide_eq_true_eq] at h
   obtain ⟨⟨ho, hc⟩, hn⟩ := h
   obtain ⟨x, hx⟩ := hm 0 f rfl
   have := nF d fuel f.type u _ x hc hx
   rw [ho, List.take_of_length_le (by rw [List.length_drop]; omega)] at this
   exact this
 | d + 1, fuel, off, f :: g :: fs, u, n, cs, h, hl, hm => by
   simp only [chkF] at h
   split at h
   ·rename_i a b
    simp only [Bool.and_eq_true, decide_eq_true_eq] at h
    obtain ⟨⟨ho, hc⟩, hn⟩ := h
    obtain ⟨x, hx⟩ := hm 0 f rfl
    obtain ⟨y1, F1, a1, a2, a3⟩ := nF d fuel f.type a _ x hc hx
    obtain ⟨y2, F2, b1, b2, b3⟩ := open_repF d fuel (off + P.cellsOf f.type) (g :: fs) b n cs hn hl (fun i f' hi => hm (i + 1) f' hi)
    refine ⟨(y1, y2), F1 ++ F2, ⟨_, _, F1, F2, ?_, rfl, a1, b1⟩, wA a2 b2, a3, b3⟩
    rw [ho, ← List.drop_drop, List.take_append_drop]
   ·cases h
end
def Fo : Ty → List Value → Value
 | .arr _ _, cs => .agg cs.toArray
 | .pair _ _, cs => .agg cs.toArray
 | .unit, cs => .agg cs.toArray
 | _, cs => cs.headD .nilFunc
def Jn (P : Program) (t : TypeId) (u : Ty) : Bool :=
 match P.underlying t, u with
 | some (.struct _), .pair _ _ => true
 | some (.struct _), .unit => true
 | some (.array _ _), .arr _ _ => true
 | some (.slice _), .sl _ _ => true
 | some .bool, .bool => true
 | some (.int _), .int _ => true
 | some .string, .str => true
 | _, _ => false
structure RepOk (w : World) (d : Dyn) (v : Value) : Prop where
 rep : ∃ F, gH d.1 d.2 v.cells.toList F ∧ sD F w
 val : v = Fo d.1 v.cells.toList
theorem zp {b0 : Nat} {t : TypeId} {u : Ty} {v : Value} {d : DataW H} {ps : List MemPlace} (hc : zo P 12 t u = true) (ha : Jn P t u = true) (hval : Value.okWide P w .any b0 t v) (hd : DataW.Trod enc P w base (fun _ => true) held t v d ps) :
 ∃ y : u.den, RepOk w ⟨u, y⟩ v ∧ wfT u y := by
 obtain ⟨fuel, hf⟩ := hd
 obtain ⟨y, F, h1, h2, h3⟩ := nF 12 fuel t u _ _ hc hf
 refine ⟨y, ⟨⟨F, h1, h2⟩, ?_⟩, h3⟩
 have agg : (∃ cs, v = .agg cs) → ∀ u, (match u with | .arr _ _ => true | .pair _ _ => true | .unit => true | _ => false) = true → v = Fo u v.cells.toList := by
  rintro ⟨cs, rfl⟩ u hu
  cases u <;> simp_all [Fo, Value.cells]
 unfold Jn at ha
 split at ha
 ·rename_i fs e
  exact agg (by unfold Value.okWide at hval; rw [e] at hval; obtain ⟨cs, h, _⟩ := hval; exact ⟨cs, h⟩) _ rfl
 ·rename_i fs e
  exact agg (by unfold Value.okWide at hval; rw [e] at hval; obtain ⟨cs, h, _⟩ := hval; exact ⟨cs, h⟩) _ rfl
 ·rename_i n e' e
  exact agg (by unfold Value.okWide at hval; rw [e] at hval; obtain ⟨cs, h, _⟩ := hval; exact ⟨cs, h⟩) _ rfl
 ·rename_i e
  obtain ⟨a, l, c, rfl⟩ := okWide_slice e hval
  rfl
 ·rename_i e
  obtain ⟨b, rfl⟩ := okWide_bool e hval
  rfl
 ·rename_i e
  obtain ⟨b, rfl⟩ := okWide_int e hval
  rfl
 ·rename_i e
  obtain ⟨b, rfl⟩ := okWide_string e hval
  rfl
 ·cases ha
end
inductive Args (w : World) : List Dyn → List Value → Prop where
 | nil : Args w [] []
 | cons {d : Dyn} {v : Value} {ds : List Dyn} {vs : List Value} : RepOk w d v → Args w ds vs → Args w (d :: ds) (v :: vs)
def px (u : Ty) (ls : List At) : SV :=
 match u, ls with
 | .pair _ _, ls => .v (.st ls)
 | .unit, ls => .v (.st ls)
 | _, [a] => .v (.a a)
 | _, ls => .v (.st ls)
def gc : List Dyn → Nat → List (Nat × SV) × List Ob → List (Nat × SV) × List Ob
 | [], _, s => s
 | d :: ds, i, s => gc ds (i + 1) (s.1 ++ [(i, px d.1 (bm .lent d.1 d.2 s.2.length).1)], s.2 ++ (bm .lent d.1 d.2 s.2.length).2)
theorem uU (m : Md) : ∀ (u : Ty) (x : u.den) (n : Nat), (bm m u x n).1.all vw = true
 | .pair a b, x, n => by simp only [bm, List.all_append, uU m a x.1 n, uU m b x.2 _, Bool.and_self]
 | .int k, x, n => rfl
 | .bool, x, n => rfl
 | .str, x, n => rfl
 | .unit, x, n => rfl
 | .arr q t, x, n => rfl
 | .sl e t, x, n => rfl
theorem Fq (u : Ty) (x : u.den) (m : Md) (n : Nat) (g : Env) : aq g (px u (bm m u x n).1) = Fo u (av g (bm m u x n).1) ∧ jX (px u (bm m u x n).1) = true ∧ aM (px u (bm m u x n).1) = (bm m u x n).1.flatMap aN := by
 cases u with
 | int k => exact ⟨rfl, rfl, rfl⟩
 | bool => exact ⟨rfl, rfl, rfl⟩
 | str => exact ⟨rfl, rfl, rfl⟩
 | unit => exact ⟨rfl, rfl, rfl⟩
 | arr q t => exact ⟨by simp [px, bm, aq, aU, aJ, Fo, av, ba], rfl, rfl⟩
 | pair a b => exact ⟨rfl, uU m _ x n, rfl⟩
 | sl e t => exact ⟨rfl, rfl, rfl⟩
structure Started (w : World) (g : Env) (vs : List Value) (s : List (Nat × SV) × List Ob) : Prop where
 enc : s.1.map (fun p => aq g p.2) = vs
 keys : s.1.map (·.1) = List.range s.1.length
 ok : ∀ p ∈ s.1, jX p.2 = true
 rs : ∀ p ∈ s.1, ∀ o ∈ aM p.2, o < s.2.length
 ob : ∀ i ob, s.2[i]? = some ob → obP g i ob ∧ ∃ e u xs, ob = .row e u xs .lent false ∧ ∀ f ∈ (⟨(g i).v, xs.length, u.sz, (g i).cs⟩ :: (g i).fs : List Fact), Rds f.v f.n f.sz f.cs w
theorem zq {w : World} : ∀ (ds : List Dyn) (vs : List Value) (i : Nat) (s : List (Nat × SV) × List Ob) (us : List Value) (g : Env), Args w ds vs → Started w g us s → i = s.1.length →
 ∃ g', Started w g' (us ++ vs) (gc ds i s)
 | [], [], i, s, us, g, .nil, h, hi => ⟨g, by simpa [gc] using h⟩
 | d :: ds, v :: vs, i, s, us, g, .cons hd hds, h, hi => by
   obtain ⟨F, hrep, hfa⟩ := hd.rep
   obtain ⟨g1, e1, e2, e3, e4, e5⟩ := lf .lent (by decide) d.1 d.2 s.2.length g _ F hrep
   obtain ⟨s1, s2, s3⟩ := Fq d.1 d.2 .lent s.2.length g1
   have hsl : ∀ o ∈ aM (px d.1 (bm .lent d.1 d.2 s.2.length).1), o < (s.2 ++ (bm .lent d.1 d.2 s.2.length).2).length := by
    rw [s3]
    intro o ho
    have := (e4 o ho).2
    rw [List.length_append]; exact this
   have := zq ds vs (i + 1) (s.1 ++ [(i, px d.1 (bm .lent d.1 d.2 s.2.length).1)], s.2 ++ (bm .lent d.1 d.2 s.2.length).2) (us ++ [v]) g1 hds ?_ (by simp [hi])
   ·obtain ⟨g', h'⟩ := this
    exact ⟨g', by simpa [gc] using h'⟩
   ·refine ⟨?_, ?_, ?_, ?_, ?_⟩
    ·simp only [List.map_append, List.map_cons, List.map_nil]
     congr 1
     ·rw [← h.enc]
      apply List.map_congr_left
      intro p hp
      exact ep _ (fun o ho => e1 o (.inl (h.rs p hp o ho)))
     ·rw [s1, e2, ← hd.val]
    ·simp only [List.map_append, List.map_cons, List.map_nil, List.length_append, List.length_singleton, List.range_succ, h.keys, hi]
    ·intro p hp
     rcases List.mem_append.1 hp with hp | hp
     ·exact h.ok p hp
     ·simp only [List.mem_singleton] at hp; subst hp; exact s2
    ·intro p hp o ho
     rcases List.mem_append.1 hp with hp | hp
     ·have := h.rs p hp o ho
      simp only [List.length_append]; omega
     ·simp only [List.mem_singleton] at hp; subst hp; exact hsl o ho
    ·intro j ob hj
     rcases Nat.lt_or_ge j s.2.length with hlt | hge
     ·simp only at hj
      rw [List.getElem?_append_left hlt] at hj
      have := h.ob j ob hj
      have hg : g1 j = g j := e1 j (.inl hlt)
      obtain ⟨a1, e, u, xs, rfl, a2⟩ := this
      exact ⟨iF hg a1, e, u, xs, rfl, by rw [hg]; exact a2⟩
     ·simp only at hj
      rw [List.getElem?_append_right hge] at hj
      obtain ⟨p1, e, u, xs, he, hf⟩ := e5 _ ob hj
      have hn : s.2.length + (j - s.2.length) = j := by omega
      rw [hn] at p1 hf
      exact ⟨p1, e, u, xs, he, fun f hf' => hfa f (hf f hf')⟩
end Go.Proofs.YtlepjakmadlkjaaGreatDoor
namespace Go.Proofs.YtlepjakmadlkjaaGreatDoor
open Go Go.WideShapes Go.ChangeShapes
def isK (k : IntKind) : Value → Bool
 | .int k' _ => k' == k
 | _ => false
def noK (k : IntKind) : Ty → Bool
 | .int k' => !(k' == k)
 | .arr _ t => noK k t
 | .pair a b => noK k a && noK k b
 | .sl _ t => noK k t
 | _ => true
theorem eK (k : IntKind) : ∀ (u : Ty) (x : u.den), noK k u = true → ∀ c ∈ (am u).cells x, isK k c = false
 | .int k', x, h, c, hc => by
   have : c = .int k' x := by simpa [am, FK] using hc
   subst this
   simpa [noK, isK] using h
 | .bool, x, h, c, hc => by
   have : c = .bool x := by simpa [am, FB] using hc
   subst this; rfl
 | .str, x, h, c, hc => by
   have : c = .string x := by simpa [am, FS] using hc
   subst this; rfl
 | .unit, x, h, c, hc => by simp [am, FU] at hc
 | .arr n t, x, h, c, hc => by
   simp only [am, FA] at hc
   obtain ⟨y, _, hy⟩ := List.mem_flatMap.1 hc
   exact eK k t y h c hy
 | .pair a b, x, h, c, hc => by
   simp only [noK, Bool.and_eq_true] at h
   simp only [am, FP] at hc
   rcases List.mem_append.1 hc with hc | hc
   ·exact eK k a x.1 h.1 c hc
   ·exact eK k b x.2 h.2 c hc
 | .sl _ t, x, h, c, hc => by
   have : c = .nilFunc := by simpa [am, FL] using hc
   subst this; rfl
theorem py {k : IntKind} {α : Type} {R : α → List Value → List Fact → Prop} (h : ∀ x cs F, R x cs F → (∀ c ∈ cs, isK k c = false) ∧ ∀ f ∈ F, ∀ c ∈ f.cs, isK k c = false) :
 ∀ (xs : List α) (cs : List Value) (F : List Fact), gh R xs cs F → (∀ c ∈ cs, isK k c = false) ∧ ∀ f ∈ F, ∀ c ∈ f.cs, isK k c = false
 | [], cs, F, ⟨h1, h2⟩ => by subst h1 h2; exact ⟨fun c hc => (by cases hc), fun f hf => (by cases hf)⟩
 | x :: xs, cs, F, ⟨c1, c2, F1, F2, h1, h2, h3, h4⟩ => by
   subst h1 h2
   obtain ⟨a1, a2⟩ := h x c1 F1 h3
   obtain ⟨b1, b2⟩ := py h xs c2 F2 h4
   exact ⟨fun c hc => (List.mem_append.1 hc).elim (a1 c) (b1 c), fun f hf => (List.mem_append.1 hf).elim (a2 f) (b2 f)⟩
theorem oh (k : IntKind) : ∀ (u : Ty) (x : u.den) (cs : List Value) (F : List Fact), noK k u = true → gH u x cs F → (∀ c ∈ cs, isK k c = false) ∧ ∀ f ∈ F, ∀ c ∈ f.cs, isK k c = false
 | .sl e t, x, cs, F, h, ⟨v, css, F', h1, ⟨ao, c, h2, _⟩, h3, h4⟩ => by
   obtain ⟨a1, a2⟩ := py (k := k) (R := gH t) (fun x cs F hr => oh k t x cs F h hr) x css F' h4
   subst h1 h3 h2
   refine ⟨fun c' hc => ?_, fun f hf => ?_⟩
   ·simp only [List.mem_singleton] at hc; subst hc; rfl
   ·rcases List.mem_cons.1 hf with rfl | hf
    ·exact a1
    ·exact a2 f hf
 | .pair a b, x, cs, F, h, ⟨c1, c2, F1, F2, h1, h2, h3, h4⟩ => by
   simp only [noK, Bool.and_eq_true] at h
   obtain ⟨a1, a2⟩ := oh k a x.1 c1 F1 h.1 h3
   obtain ⟨b1, b2⟩ := oh k b x.2 c2 F2 h.2 h4
   subst h1 h2
   exact ⟨fun c hc => (List.mem_append.1 hc).elim (a1 c) (b1 c), fun f hf => (List.mem_append.1 hf).elim (a2 f) (b2 f)⟩
 | .int k', x, cs, F, h, hr => by
   obtain ⟨h1, h2⟩ : cs = (am (.int k')).cells x ∧ F = [] := hr
   subst h1 h2; exact ⟨eK k _ x h, fun f hf => (by cases hf)⟩
 | .bool, x, cs, F, h, hr => by
   obtain ⟨h1, h2⟩ : cs = (am .bool).cells x ∧ F = [] := hr
   subst h1 h2; exact ⟨eK k _ x h, fun f hf => (by cases hf)⟩
 | .str, x, cs, F, h, hr => by
   obtain ⟨h1, h2⟩ : cs = (am .str).cells x ∧ F = [] := hr
   subst h1 h2; exact ⟨eK k _ x h, fun f hf => (by cases hf)⟩
 | .unit, x, cs, F, h, hr => by
   obtain ⟨h1, h2⟩ : cs = (am .unit).cells x ∧ F = [] := hr
   subst h1 h2; exact ⟨eK k _ x h, fun f hf => (by cases hf)⟩
 | .arr n t, x, cs, F, h, hr => by
   obtain ⟨h1, h2⟩ : cs = (am (.arr n t)).cells x ∧ F = [] := hr
   subst h1 h2; exact ⟨eK k _ x h, fun f hf => (by cases hf)⟩
structure Glob where
 b : Nat
 T : TypeId
 n : Nat
 k : IntKind
 x : Vector Int n
def Glob.at (gl : Glob) : At := .fl (.arr gl.n (.int gl.k)) gl.x
def Glob.cs (gl : Glob) : List Value := (am (.arr gl.n (.int gl.k))).cells gl.x
def Glob.ok (gl : Glob) (w : World) : Prop := w.heap[gl.b]? = some (.cells gl.cs.toArray gl.T (0, 0))
theorem Glob.kind (gl : Glob) : ∀ c ∈ gl.cs, isK gl.k c = true := by
 intro c hc
 simp only [Glob.cs, am, FA] at hc
 obtain ⟨y, _, hy⟩ := List.mem_flatMap.1 hc
 have : c = .int gl.k y := by simpa [FK] using hy
 subst this
 simp [isK]
theorem A2 {gl : Glob} {w : World} (h : gl.ok w) {v : Value} {n sz : Nat} {cs : List Value} (hr : Rds v n sz cs w) (hc : ∀ c ∈ cs, isK gl.k c = false) (hne : cs ≠ []) : aT v ≠ some gl.b := by
 obtain ⟨_, ao, c, rfl, _, _, _, hcell⟩ := hr
 obtain ⟨u, us, rfl⟩ := List.exists_cons_of_ne_nil hne
 obtain ⟨ad, rfl, hu⟩ := hcell 0 u rfl
 intro e
 simp only [aT, Option.some.injEq] at e
 have hblk : (ad.add 0).block = gl.b := by rw [jt]; exact e
 unfold World.cell? at hu
 unfold Glob.ok at h
 rw [hblk, h] at hu
 simp only at hu
 split at hu
 ·cases hu
 ·have hm : u ∈ gl.cs := by
   rw [List.getElem?_toArray] at hu
   exact List.mem_of_getElem? hu
  have h1 := gl.kind u hm
  rw [hc u (List.mem_cons_self ..)] at h1
  cases h1
def rH : List Glob → List (Nat × SV) × List Ob → List (Nat × SV) × List Ob
 | [], s => s
 | gl :: gs, s => rH gs (s.1 ++ [(rG + gl.b, .v (.a (.ptr s.2.length 0)))], s.2 ++ [.box gl.T [gl.at]])
def jd (ds : List Dyn) (gs : List Glob) : St := ⟨(rH gs (gc ds 0 ([], []))).1, (rH gs (gc ds 0 ([], []))).2, [], .nil⟩
theorem wB : ∀ (gs : List Glob) (s : List (Nat × SV) × List Ob), rH gs s = (s.1 ++ gs.zipIdx.map (fun p => (rG + p.1.b, .v (.a (.ptr (s.2.length + p.2) 0)))), s.2 ++ gs.map fun gl => .box gl.T [gl.at])
 | [], s => by simp [rH]
 | gl :: gs, s => by
   rw [rH, wB gs]
   simp only [List.length_append, List.length_singleton, List.append_assoc, List.cons_append, List.nil_append, List.map_cons, List.zipIdx_cons, Prod.mk.injEq, Nat.add_zero]
   refine ⟨?_, trivial⟩
   congr 2
   rw [Nat.zero_add, List.zipIdx_succ]
   simp only [List.map_map]
   apply List.map_congr_left
   intro p _
   simp only [Function.comp_apply, Prod.mk.injEq, SV.v.injEq, V1.a.injEq, At.ptr.injEq, and_true, true_and]
   omega
theorem C8 {w : World} {ds : List Dyn} {vs : List Value} (h : Args w ds vs) : ∃ g, Started w g vs (gc ds 0 ([], [])) := by
 obtain ⟨g, hs⟩ := zq ds vs 0 ([], []) [] vu h ⟨rfl, rfl, (fun p hp => by cases hp), (fun p hp => by cases hp), (fun i ob hi => by simp at hi)⟩ rfl
 exact ⟨g, by simpa using hs⟩
theorem wC : ∀ (ds : List Dyn) (i : Nat) (s : List (Nat × SV) × List Ob), (gc ds i s).1.length = s.1.length + ds.length
 | [], i, s => by simp [gc]
 | d :: ds, i, s => by rw [gc, wC ds]; simp; omega
theorem oS {k : IntKind} : ∀ (ds : List Dyn) (i : Nat) (s : List (Nat × SV) × List Ob), (∀ d ∈ ds, noK k d.1 = true) → (∀ ob ∈ s.2, ∃ e u xs, ob = .row e u xs .lent false ∧ noK k u = true) →
 ∀ ob ∈ (gc ds i s).2, ∃ e u xs, ob = .row e u xs .lent false ∧ noK k u = true
 | [], i, s, _, h => h
 | d :: ds, i, s, hd, h => by
   refine oS ds (i + 1) _ (fun d' hd' => hd d' (List.mem_cons_of_mem _ hd')) (fun ob hob => ?_)
   rcases List.mem_append.1 hob with hob | hob
   ·exact h ob hob
   ·have hk := hd d (List.mem_cons_self ..)
    revert hob
    generalize s.2.length = n
    obtain ⟨u, x⟩ := d
    have key : ∀ (u : Ty) (x : u.den) (n : Nat), noK k u = true → ob ∈ (bm .lent u x n).2 → ∃ e t xs, ob = .row e t xs .lent false ∧ noK k t = true := by
     intro u
     induction u with
     | pair a b iha ihb =>
       intro x n hk hob
       simp only [noK, Bool.and_eq_true] at hk
       simp only [bm] at hob
       rcases List.mem_append.1 hob with hob | hob
       ·exact iha _ _ hk.1 hob
       ·exact ihb _ _ hk.2 hob
     | sl e t _ =>
       intro x n hk hob
       simp only [bm, List.mem_singleton] at hob
       exact ⟨e, t, x, hob, hk⟩
     | int k' => intro x n hk hob; simp [bm] at hob
     | bool => intro x n hk hob; simp [bm] at hob
     | str => intro x n hk hob; simp [bm] at hob
     | unit => intro x n hk hob; simp [bm] at hob
     | arr m t _ => intro x n hk hob; simp [bm] at hob
    exact key u x n hk
def JY (g0 : Env) (n : Nat) (gs : List Glob) : Env := fun i => if i < n then g0 i else match gs[i - n]? with
 | some gl => ⟨.nilFunc, rfl, (gl.b, fun _ => 0), [], [], []⟩
 | none => g0 i
theorem C9 {w : World} {ds : List Dyn} {vs : List Value} {gs : List Glob} (h : Args w ds vs) (hg : ∀ gl ∈ gs, gl.ok w) (hn : (gs.map (·.b)).Nodup) (hk : ∀ gl ∈ gs, ∀ d ∈ ds, noK gl.k d.1 = true) :
 ∃ g, ((jd ds gs).slots.take ds.length).map (fun p => aq g p.2) = vs ∧ (jd ds gs).slots.map (·.1) = List.range ds.length ++ (gs.map (·.b)).map (rG + ·) ∧ (∀ p ∈ (jd ds gs).slots.drop ds.length, aq g p.2 = .pointer (some ⟨p.1 - rG, 0, none⟩)) ∧
  Cal g (jd ds gs) ∧ Cx g (jd ds gs) w (fun b => b ∈ gs.map (·.b)) (fun _ => True) w ∧
  (∀ b ∈ gs.map (·.b), ∃ i gl, i < (jd ds gs).obs.length ∧ gl ∈ gs ∧ gl.b = b ∧ (jd ds gs).ob i = .box gl.T [gl.at] ∧ (g i).b = b) := by
 obtain ⟨g0, hs⟩ := C8 h
 obtain ⟨s, hse⟩ : ∃ s, s = gc ds 0 ([], []) := ⟨_, rfl⟩
 rw [← hse] at hs
 have hl1 : s.1.length = ds.length := by rw [hse, wC]; simp
 have eS : jd ds gs = ⟨s.1 ++ gs.zipIdx.map (fun p => (rG + p.1.b, .v (.a (.ptr (s.2.length + p.2) 0)))), s.2 ++ gs.map (fun gl => .box gl.T [gl.at]), [], .nil⟩ := by
  unfold jd; rw [← hse, wB]
 rw [eS]
 obtain ⟨g, hge⟩ : ∃ g : Env, g = JY g0 s.2.length gs := ⟨_, rfl⟩
 have glt : ∀ i, i < s.2.length → g i = g0 i := fun i hi => by rw [hge]; simp [JY, hi]
 have gge : ∀ j gl, gs[j]? = some gl → (g (s.2.length + j)).b = gl.b := fun j gl hj => by
  rw [hge]; unfold JY; rw [if_neg (by omega), Nat.add_sub_cancel_left, hj]
 have obs : ∀ i, (⟨s.1 ++ gs.zipIdx.map (fun p => (rG + p.1.b, .v (.a (.ptr (s.2.length + p.2) 0)))), s.2 ++ gs.map (fun gl => .box gl.T [gl.at]), [], .nil⟩ : St).ob i =
  if i < s.2.length then s.2.getD i .gone else ((gs[i - s.2.length]?).map fun gl => Ob.box gl.T [gl.at]).getD .gone := by
  intro i
  simp only [St.ob, List.getD_eq_getElem?_getD]
  split
  ·rename_i hi; rw [List.getElem?_append_left hi]
  ·rename_i hi; rw [List.getElem?_append_right (by omega), List.getElem?_map]
 have low : ∀ i, i < s.2.length → ∃ e u xs, s.2.getD i .gone = .row e u xs .lent false ∧ obP g i (.row e u xs .lent false) ∧ ∀ f ∈ (⟨(g i).v, xs.length, u.sz, (g i).cs⟩ :: (g i).fs : List Fact), Rds f.v f.n f.sz f.cs w := by
  intro i hi
  obtain ⟨ob, hob⟩ : ∃ ob, s.2[i]? = some ob := ⟨s.2[i], List.getElem?_eq_getElem hi⟩
  obtain ⟨h1, e, u, xs, rfl, h2⟩ := hs.ob i ob hob
  refine ⟨e, u, xs, by rw [List.getD_eq_getElem?_getD, hob]; rfl, iF (glt i hi) h1, ?_⟩
  rw [glt i hi]; exact h2
 have boxes : ∀ i ob, ¬ i < s.2.length → ((gs[i - s.2.length]?).map fun gl => Ob.box gl.T [gl.at]).getD .gone = ob → ob = .gone ∨ ∃ gl, gs[i - s.2.length]? = some gl ∧ ob = .box gl.T [gl.at] := by
  intro i ob _ h
  cases hgl : gs[i - s.2.length]? with
  | none => rw [hgl] at h; exact .inl h.symm
  | some gl => rw [hgl] at h; exact .inr ⟨gl, rfl, h.symm⟩
 have entB : ∀ i gl, ¬ i < s.2.length → gs[i - s.2.length]? = some gl → an g i (.box gl.T [gl.at]) = dI false gl.b gl.T gl.cs := by
  intro i gl hi hgl
  have hb := gge (i - s.2.length) gl hgl
  rw [show s.2.length + (i - s.2.length) = i by omega] at hb
  simp only [an, pW, hb, av, List.flatMap_cons, List.flatMap_nil, List.append_nil]
  rfl
 refine ⟨g, ?_, ?_, ?_, ⟨fun i => ?_, fun p hp => ?_, fun p hp o ho => ?_, fun i T ls hi => ?_⟩, ⟨Fr.refl _ _, fun i => ?_, fun i => ?_, fun i b hb => ?_, fun i j hij b hb hb2 => ?_, fun i j b hb hb2 => ?_, fun i _ b _ => .inl trivial⟩, ?_⟩
 ·simp only
  rw [List.take_left' hl1, ← hs.enc]
  apply List.map_congr_left
  intro p hp
  exact ep _ (fun o ho => glt o (hs.rs p hp o ho))
 ·simp only [List.map_append, hs.keys, hl1, List.map_map]
  congr 1
  apply List.ext_getElem?
  intro i
  simp only [List.getElem?_map, List.getElem?_zipIdx]
  cases gs[i]? <;> rfl
 ·simp only
  rw [List.drop_left' hl1]
  intro p hp
  obtain ⟨⟨gl, j⟩, hq, rfl⟩ := List.mem_map.1 hp
  have hj := List.mem_zipIdx_iff_getElem?.1 hq
  have := gge j gl hj
  have e : rG + gl.b - rG = gl.b := by generalize rG = r; omega
  simp only [aq, aU, aJ, this, e]
 ·rw [obs]
  split
  ·rename_i hi
   obtain ⟨e, u, xs, h1, h2, _⟩ := low i hi
   rw [h1]; exact h2
  ·rename_i hi
   rcases boxes i _ hi rfl with h | ⟨gl, _, h⟩
   ·rw [h]; trivial
   ·rw [h]; rfl
 ·rcases List.mem_append.1 hp with hp | hp
  ·exact hs.ok p hp
  ·obtain ⟨⟨gl, j⟩, hq, rfl⟩ := List.mem_map.1 hp
   rfl
 ·simp only [List.length_append, List.length_map]
  rcases List.mem_append.1 hp with hp | hp
  ·have := hs.rs p hp o ho; omega
  ·obtain ⟨⟨gl, j⟩, hq, rfl⟩ := List.mem_map.1 hp
   have hj := List.mem_zipIdx_iff_getElem?.1 hq
   have hlt := (List.getElem?_eq_some_iff.1 hj).1
   simp only [aM, bg, aN, List.mem_singleton] at ho
   subst ho
   simp only at hlt ⊢
   omega
 ·rw [obs] at hi
  split at hi
  ·rename_i hlt
   obtain ⟨e, u, xs, h1, _⟩ := low i hlt
   rw [h1] at hi; cases hi
  ·rename_i hlt
   rcases boxes i _ hlt hi with h | ⟨gl, _, h⟩
   ·cases h
   ·simp only [Ob.box.injEq] at h
    obtain ⟨rfl, rfl⟩ := h
    intro o ho
    simp [aN, Glob.at] at ho
 ·simp only [obs]
  split
  ·rename_i hi
   obtain ⟨e, u, xs, h1, _⟩ := low i hi
   rw [h1]; trivial
  ·rename_i hi
   rcases boxes i _ hi rfl with h | ⟨gl, hgl, h⟩
   ·rw [h]; trivial
   ·rw [h, entB i gl hi hgl]
    exact hg gl (List.mem_of_getElem? hgl)
 ·simp only [obs]
  split
  ·rename_i hi
   obtain ⟨e, u, xs, h1, _, h2⟩ := low i hi
   rw [h1]; exact h2
  ·rename_i hi
   rcases boxes i _ hi rfl with h | ⟨gl, hgl, h⟩
   ·rw [h]; trivial
   ·rw [h]; trivial
 ·simp only [obs] at hb
  split at hb
  ·rename_i hi
   obtain ⟨e, u, xs, h1, _⟩ := low i hi
   rw [h1] at hb; exact hb.elim
  ·rename_i hi
   rcases boxes i _ hi rfl with h | ⟨gl, hgl, h⟩
   ·rw [h] at hb; exact hb.elim
   ·rw [h, entB i gl hi hgl] at hb
    have hb : b = gl.b := hb
    exact .inl (by rw [hb]; exact List.mem_map.2 ⟨gl, List.mem_of_getElem? hgl, rfl⟩)
 ·have dom : ∀ i, (an g i ((⟨s.1 ++ gs.zipIdx.map (fun p => (rG + p.1.b, .v (.a (.ptr (s.2.length + p.2) 0)))), s.2 ++ gs.map (fun gl => .box gl.T [gl.at]), [], .nil⟩ : St).ob i)).dom b → ¬ i < s.2.length ∧ (gs[i - s.2.length]?).map (·.b) = some b := by
   intro i hb
   rw [obs] at hb
   split at hb
   ·rename_i hi
    obtain ⟨e, u, xs, h1, _⟩ := low i hi
    rw [h1] at hb; exact hb.elim
   ·rename_i hi
    rcases boxes i _ hi rfl with h | ⟨gl, hgl, h⟩
    ·rw [h] at hb; exact hb.elim
    ·rw [h, entB i gl hi hgl] at hb
     have hb : b = gl.b := hb
     exact ⟨hi, by rw [hgl, hb]; rfl⟩
  obtain ⟨h1, h2⟩ := dom i hb
  obtain ⟨h3, h4⟩ := dom j hb2
  rw [← List.getElem?_map] at h2 h4
  have hlt : i - s.2.length < (gs.map (·.b)).length := (List.getElem?_eq_some_iff.1 h2).1
  have := (List.getElem?_inj hlt hn).1 (h2.trans h4.symm)
  omega
 ·simp only [obs] at hb hb2
  split at hb
  ·rename_i hi
   obtain ⟨e, u, xs, h1, _⟩ := low i hi
   rw [h1] at hb; exact hb.elim
  ·rename_i hi
   rcases boxes i _ hi rfl with h | ⟨gl, hgl, h⟩
   ·rw [h] at hb; exact hb.elim
   ·rw [h, entB i gl hi hgl] at hb
    have hb : b = gl.b := hb
    have hgm := List.mem_of_getElem? hgl
    split at hb2
    ·rename_i hj
     obtain ⟨e, u, xs, h1, hobp, h2⟩ := low j hj
     rw [h1] at hb2
     obtain ⟨f, hf, hne, had⟩ := hb2
     have hin : Ob.row e u xs .lent false ∈ s.2 := by
      rw [← h1, List.getD_eq_getElem?_getD, List.getElem?_eq_getElem hj]
      exact List.getElem_mem hj
     have hku : noK gl.k u = true := by
      have := oS (k := gl.k) ds 0 ([], []) (hk gl hgm) (fun ob hob => (by cases hob)) (.row e u xs .lent false) (by rw [← hse]; exact hin)
      obtain ⟨e', u', xs', h5, h6⟩ := this
      cases h5
      exact h6
     have hrep : gh (gH u) xs (g j).cs (g j).fs := hobp.1
     obtain ⟨c1, c2⟩ := py (k := gl.k) (R := gH u) (fun x cs F hr => oh gl.k u x cs F hku hr) _ _ _ hrep
     have hcl : ∀ c ∈ f.cs, isK gl.k c = false := by
      rcases List.mem_cons.1 hf with rfl | hf'
      ·exact c1
      ·exact c2 f hf'
     exact A2 (hg gl hgm) (h2 f hf) hcl hne (by rw [had, hb])
    ·rename_i hj
     rcases boxes j _ hj rfl with h5 | ⟨gl', _, h5⟩
     ·rw [h5] at hb2; exact hb2.elim
     ·rw [h5] at hb2; exact hb2.elim
 ·intro b hb
  obtain ⟨gl, hgm, rfl⟩ := List.mem_map.1 hb
  obtain ⟨j, hj⟩ := List.getElem?_of_mem hgm
  have hlt := (List.getElem?_eq_some_iff.1 hj).1
  refine ⟨s.2.length + j, gl, by simp [List.length_append]; omega, hgm, rfl, ?_, gge j gl hj⟩
  rw [obs, if_neg (by omega), show s.2.length + j - s.2.length = j by omega, hj]
  rfl
theorem Da {P : Program} {w : World} {f : Nat} {c : Con} {ds : List Dyn} {vs : List Value} {gs : List Glob} {k : Nat} {x : HL c.pat.codes} (hc : al P c) (hfn : c.fn = f) (h : Args w ds vs) (hg : ∀ gl ∈ gs, gl.ok w) (hn : (gs.map (·.b)).Nodup) (hk : ∀ gl ∈ gs, ∀ d ∈ ds, noK gl.k d.1 = true)
 (hsh : ∀ b ∈ gs.map (·.b), b < shift) {y : fx (c.out.map NSh.codes)}
 (hy : c.f k x = some y) (hp : iM c.pat x = some (jd ds gs)) (hout : c.out = [⟨[(rB, .v (.a (.fl .bool)))], [], []⟩]) (hel : ∀ (R : Type) (q : Nat → List Dyn → R), eh (c.out.map NSh.codes) y q = q 0 [⟨.bool, true⟩]) :
 Calls P f vs.toArray w (fun e w' => ∃ v, e = .returned v ∧ v = .bool true ∧ Fr nob w w') := by
 obtain ⟨g, h1, h2, h2b, h3, h4, h5⟩ := C9 h hg hn hk
 have key := hc k x y (jd ds gs) ds.length (gs.map (·.b)) hy hp h2 hsh g w _ (fun _ => True) h3 h4 h2b
 rw [h1, hfn] at key
 refine Calls.mono key ?_
 rintro e w' ⟨v, rfl, i, es, s, N, r, g', q1, q2, q3, q4, q5, q6, q7, q8, q9, q10⟩
 have e0 := q1 (Nat × List Dyn) (fun i ds => (i, ds))
 rw [hel] at e0
 simp only [Prod.mk.injEq] at e0
 obtain ⟨rfl, rfl⟩ := e0
 rw [hout] at q2
 simp only [List.getElem?_cons_zero, Option.some.injEq] at q2
 subst q2
 have q3' : fiN ⟨[(rB, .v (.a (.fl .bool)))], [], []⟩ [⟨.bool, true⟩] = some N := q3
 have hN : fiN ⟨[(rB, .v (.a (.fl .bool)))], [], []⟩ [⟨.bool, true⟩] = some ⟨[(rB, .v (.a (.fl .bool true)))], [], []⟩ := by rfl
 rw [hN] at q3'
 cases q3'
 simp only [Go.Proofs.YtlepjakmadlkjaaGreatDoor.results, Option.some.injEq] at q4
 subst q4
 refine ⟨_, rfl, q5, ?_⟩
 have fr := q9.fr
 refine ⟨fr.os, fr.tape, fr.output, fr.size, fun b hb _ => ?_⟩
 by_cases hbg : b ∈ gs.map (·.b)
 ·obtain ⟨i, gl, hi, hgm, hglb, hob, hgb⟩ := h5 b hbg
  obtain ⟨k1, k2⟩ := q10.same i hi (fun hx => by cases hx)
  have hok := q9.okL i
  have k1' : (aB (jd ds gs) ⟨[(rB, .v (.a (.fl .bool true)))], [], []⟩).ob i = .box gl.T [gl.at] := (k1.trans hob)
  simp only [k1', an, pW, k2, hgb] at hok
  have hok : w'.heap[b]? = some (.cells (av g' [gl.at]).toArray gl.T (0, 0)) := hok
  have hen : av g' [gl.at] = gl.cs := by simp [av, ba, Glob.at, Glob.cs]
  rw [hok, hen, ← hglb]
  exact (hg gl hgm).symm
 ·exact fr.block b hb hbg
theorem Lw {gs : List Glob} {ds : List Dyn} (h : ((gs.map (·.k)).all fun k => (ds.map (·.1)).all (noK k)) = true) : ∀ gl ∈ gs, ∀ d ∈ ds, noK gl.k d.1 = true := by
 intro gl hgl d hd
 have h1 := List.all_eq_true.1 h gl.k (List.mem_map.2 ⟨gl, hgl, rfl⟩)
 exact List.all_eq_true.1 h1 d.1 (List.mem_map.2 ⟨d, hd, rfl⟩)
theorem Hz {P : Program} {W : World} {gl : Glob} {name : String} (hsh : W.ShapedOpen P) (hg : P.globalNamed name = some gl.b) (hz : (((begin P (fun _ _ => 0) default).world.heap[gl.b]?).bind Obj.row?).map (·.2) = some gl.T)
 (hlt : gl.b < P.globals.size) (htab : Lib.TabIs P W name gl.k gl.x.toList) : gl.ok W := by
 obtain ⟨⟨zero, T⟩, h1, h2⟩ := Option.map_eq_some_iff.1 hz
 simp only at h2
 subst h2
 obtain ⟨cs, h3, _⟩ := hsh.1 gl.b zero _ hlt h1
 unfold Lib.TabIs at htab
 have hvar : W.var? P name = some cs := by
  unfold World.var?
  rw [hg]
  simp only [Option.bind_some, h3]
 rw [hvar] at htab
 have hcs : cs = gl.cs.toArray := by
  rw [Option.some.inj htab]
  congr 1
  simp only [Glob.cs, am, FA, tE, FK]
  induction gl.x.toList with
  | nil => rfl
  | cons a l ih => simp [ih]
 unfold Glob.ok
 rw [h3, hcs]
section
variable {H : Type} {enc : TypeId × Value → H}
theorem uV {a : Assume} {C : Checked} {os : Os} {f : FuncId} {fn : Func} {s : ChangeSpec} {conds : List PathCond} {apart aQ handsOn again : Bool} {X : World → Array Value → Prop}
 (hX : ∀ (w w' : World) (args : Array Value), w.heap = w'.heap → X w args → X w' args)
 (own : ownKnob C.prog.godebug = none) (started : os.Started) (noInit : C.prog.inits.idxOf? f = none) (hfn : C.prog.funcs[f]? = some fn)
 (witness : ∃ (w : World) (tape : Tape) (i : Input), w.os = os ∧ (w.forCall tape i).Shaped C.prog ∧ i.vars = [] ∧ Input.okWide C.prog (w.forCall tape i) .any w.heap.size f i ∧
  ((s.pre enc C.prog fn conds apart (w.forCall tape i).memory i.args ∧ X (w.forCall tape i).memory i.args) ∧ sizedMet enc C.prog fn (OpenSpec.ofChange s) apart (w.forCall tape i).memory i.args) ∧ a.holds C.prog (lone (Frame.enter C.prog f i.args .normal) [] (w.forCall tape i)))
 (contract : ∀ (W : World) (base : Nat) (args : Array Value) (ds gs : List (DataW H)) (before : List MemPlace),
  (∀ (j : Nat) t v, fn.params[j]? = some t → args[j]? = some v → Value.okWide C.prog W .any base t v) →
  DataW.Whole enc C.prog fn.params.toList s.vars apart W args.toList ds gs before → X W args → W.ShapedOpen C.prog →
  Calls C.prog f args W fun e W' => ∃ v, e = .returned v ∧ s.post enc C.prog fn apart aQ handsOn again W args v W') :
 ReturnsInHanded a C os f .any (fun w args => (s.pre enc C.prog fn conds apart w args ∧ X w args) ∧ sizedMet enc C.prog fn (OpenSpec.ofChange s) apart w args) (s.post enc C.prog fn apart aQ handsOn again) := by
 refine returnsInHanded_of_calls own started noInit witness ?_
 intro w tape i _ hshape _ hok hpre hholds
 obtain ⟨_, _, _, fn', hfn', _, _, _, _, hval⟩ := hok
 have e : fn' = fn := Option.some.inj (hfn'.symm.trans hfn)
 subst e
 obtain ⟨⟨⟨ds, gs, before, hw, hc⟩, hx⟩, hz⟩ := hpre
 have hw' := DataW.Whole.of_heap (w' := w.forCall tape i) (by rfl) hw
 refine (contract (w.forCall tape i) w.heap.size i.args ds gs before hval hw' (hX _ _ _ (by rfl) hx) hshape).mono fun e W' ⟨v, he, hp⟩ => ?_
 subst he
 exact ChangeSpec.post_blind hp
end
end Go.Proofs.YtlepjakmadlkjaaGreatDoor
namespace Go.Proofs.YtlepjakmadlkjaaGreatDoor
open Go
def aj : Vector Int 64 := ⟨#[1116352408, 1899447441, 3049323471, 3921009573, 961987163, 1508970993, 2453635748, 2870763221, 3624381080, 310598401, 607225278, 1426881987, 1925078388, 2162078206, 2614888103, 3248222580, 3835390401, 4022224774, 264347078, 604807628, 770255983, 1249150122, 1555081692, 1996064986, 2554220882, 2821834349, 2952996808, 3210313671, 3336571891, 3584528711, 113926993, 338241895, 666307205, 773529912, 1294757372, 1396182291, 1695183700, 1986661051, 2177026350, 2456956037, 2730485921, 2820302411, 3259730800, 3345764771, 3516065817, 3600352804, 4094571909, 275423344, 430227734, 506948616, 659060556, 883997877, 958139571, 1322822218, 1537002063, 1747873779, 1955562222, 2024104815, 2227730452, 2361852424, 2428436474, 2756734187, 3204031479, 3329325298], rfl⟩
def sE : Glob := ⟨0, 217, 64, .u32, aj⟩
theorem aA {x : Int} (h1 : -9223372036854775808 ≤ x) (h2 : x ≤ 9223372036854775807) : WK .i64 x = x := jC h1 h2
theorem A3 {x : Int} (h1 : 0 ≤ x) (h2 : x ≤ 18446744073709551615) : WK .u64 x = x := by
 simp only [WK, IntKind.wrap, IntKind.bits, IntKind.signed]; simp; omega
theorem K6 {x : Int} (h1 : 0 ≤ x) (h2 : x ≤ 255) : WK .u8 x = x := by
 simp only [WK, IntKind.wrap, IntKind.bits, IntKind.signed]; simp; omega
theorem Db (x : Int) : WK .u8 x = x % 256 := by
 simp only [WK, IntKind.wrap, IntKind.bits, IntKind.signed]; simp
theorem uW (x : Int) : WK .u32 x = x % 4294967296 := by
 simp only [WK, IntKind.wrap, IntKind.bits, IntKind.signed]; simp
@[simp] theorem ag {α : Type} (x y : Option α) : ai true x y = x := rfl
@[simp] theorem aa {α : Type} (x y : Option α) : ai false x y = y := rfl
@[simp] theorem bY {α β R : Type} (a : α) (f : α → R) (g : β → R) : bJ (.inl a) f g = f a := rfl
@[simp] theorem au {α β R : Type} (b : β) (f : α → R) (g : β → R) : bJ (.inr b) f g = g b := rfl
theorem ak {α β : Type} {o : Option α} {f : α → Option β} {a : α} {r : Option β} (h : o = some a) (hf : f a = r) : o.bind f = r := by rw [h]; exact hf
theorem cG {a b : Int} (h : a ≠ b) : ieq a b = false := by simpa using h
theorem cH {a b : Int} (h : a = b) : ieq a b = true := by simpa using h
theorem cU {a b : Int} (h : a = b) : ine a b = false := by simpa using h
theorem sF {a b : Int} (h : a ≠ b) : ine a b = true := by simpa using h
theorem bE {a b : Int} (h : a < b) : ilt a b = true := by simpa using h
theorem aZ {a b : Int} (h : b ≤ a) : ilt a b = false := by simpa using h
theorem iR {a b : Int} (h : a ≤ b) : ile a b = true := by simpa using h
theorem Jo {a b : Int} (h : b < a) : ile a b = false := by simpa using h
theorem ms {a b : Int} (h : b < a) : igt a b = true := by simpa using h
theorem iS {a b : Int} (h : a ≤ b) : igt a b = false := by simpa using h
theorem ec {a b : Int} (h : b ≤ a) : ige a b = true := by simpa using h
theorem qD {a b : Int} (h : a < b) : ige a b = false := by simpa using h
theorem rI {a b : ByteArray} (h : a.data.toList = b.data.toList) : a = b := Go.WideShapes.bytes_inj h
@[simp] theorem Fs (l : List Int) : (strOfNums l).size = l.length := by simp [strOfNums, ByteArray.size]
@[simp] theorem Ft (a b : ByteArray) : (a ++ b).size = a.size + b.size := by simp
@[simp] theorem Fu (a b : ByteArray) : (a ++ b).data.toList = a.data.toList ++ b.data.toList := by simp
theorem JZ {t : Ty} {l : List t.den} {i : Int} (h0 : 0 ≤ i) (h1 : i < l.length) : at_ t l i = l[i.toNat]'(by omega) := by
 unfold at_
 rw [List.getD_eq_getElem?_getD, List.getElem?_eq_getElem (by omega)]
 rfl
theorem cD {t : Ty} {l : List t.den} {n : Nat} (h : n < l.length) : at_ t l (n : Int) = l[n] := by
 rw [JZ (by omega) (by omega)]
 congr 1
theorem lx {H E : Type} {step : H → Option (H ⊕ E)} (I : Nat → H → Prop) (Q : E → Prop)
 (hs : ∀ n h, I n h → (∃ h' m, step h = some (.inl h') ∧ m < n ∧ I m h') ∨ (∃ e, step h = some (.inr e) ∧ Q e)) : ∀ (n : Nat) (h : H), I n h → ∀ k, n < k → ∃ e, aP k step h = some e ∧ Q e := by
 intro n
 induction n using Nat.strongRecOn with
 | _ n ih =>
   intro h hI k hk
   cases k with
   | zero => omega
   | succ k =>
     rcases hs n h hI with ⟨h', m, h1, h2, h3⟩ | ⟨e, h1, h2⟩
     ·obtain ⟨e, he, hq⟩ := ih m h2 h' h3 k (by omega)
      exact ⟨e, by simp only [aP, h1, Option.bind_some, bY]; exact he, hq⟩
     ·exact ⟨e, by simp only [aP, h1, Option.bind_some, au], h2⟩
theorem fq {H E : Type} {step : H → Option (H ⊕ E)} (p : Nat → H) : ∀ (n : Nat) (e : E) (k : Nat), (∀ i < n, step (p i) = some (.inl (p (i + 1)))) → step (p n) = some (.inr e) → n < k → aP k step (p 0) = some e := by
 intro n
 induction n generalizing p with
 | zero =>
   intro e k _ h2 hk
   cases k with
   | zero => omega
   | succ k => simp only [aP, h2, Option.bind_some, au]
 | succ n ih =>
   intro e k h1 h2 hk
   cases k with
   | zero => omega
   | succ k =>
     simp only [aP, h1 0 (by omega), Option.bind_some, bY]
     exact ih (fun i => p (i + 1)) e k (fun i hi => h1 (i + 1) (by omega)) h2 (by omega)
inductive Goes {H E : Type} (I : Nat → H → Prop) (Q : E → Prop) (n : Nat) : Option (H ⊕ E) → Prop
 | on {h' : H} (m : Nat) (lt : m < n) (i : I m h') : Goes I Q n (some (.inl h'))
 | out {e : E} (q : Q e) : Goes I Q n (some (.inr e))
theorem Goes.bind {H E S : Type} {I : Nat → H → Prop} {Q : E → Prop} {n : Nat} {o : Option S} {f : S → Option (H ⊕ E)} (P : S → Prop) (h : ∃ s, o = some s ∧ P s) (hf : ∀ s, P s → Goes I Q n (f s)) : Goes I Q n (o.bind f) := by
 obtain ⟨s, rfl, hp⟩ := h
 exact hf s hp
theorem dH {H E R : Type} {step : H → Option (H ⊕ E)} {f : E → Option R} {r : Option R} {h0 : H} {k : Nat} (I : Nat → H → Prop) (Q : E → Prop) (n : Nat) (hk : n < k) (h : I n h0)
 (hs : ∀ n h, I n h → Goes I Q n (step h)) (hf : ∀ e, Q e → f e = r) : (aP k step h0).bind f = r := by
 obtain ⟨e, he, hq⟩ := lx (step := step) I Q (fun n h hi => by
  have g := hs n h hi
  generalize step h = o at g ⊢
  cases g with
  | on m lt i => exact .inl ⟨_, m, rfl, lt, i⟩
  | out q => exact .inr ⟨_, rfl, q⟩) n h0 h k hk
 rw [he]
 exact hf e hq
theorem rJ (x : Int) (m : Nat) (h : m < 4611686018427387904) : 0 ≤ be .i64 x m ∧ be .i64 x m ≤ m := by
 have e : (BitVec.ofInt IntKind.i64.bits x &&& BitVec.ofInt IntKind.i64.bits (m : Int)).toNat ≤ m := by
  rw [BitVec.toNat_and]
  refine Nat.le_trans Nat.and_le_right ?_
  rw [BitVec.toNat_ofInt]
  simp only [IntKind.bits]
  omega
 have w : be .i64 x m = ((BitVec.ofInt IntKind.i64.bits x &&& BitVec.ofInt IntKind.i64.bits (m : Int)).toNat : Int) := jC (by omega) (by omega)
 rw [w]
 omega
theorem wD {α β H : Type} (q : β → α) (f : H → α → Option H) : ∀ (l : List β) (h : H), je (l.map q) f h = je l (fun h b => f h (q b)) h
 | [], h => rfl
 | b :: l, h => by
   simp only [List.map_cons, je]
   cases f h (q b) with
   | none => rfl
   | some y => exact wD q f l y
theorem Dc {α : Type} (l : List α) : (kc l).map (·.2) = l.reverse := by
 simp [kc, List.map_reverse, List.map_map, Function.comp_def]
theorem uX {α H : Type} (l : List α) (f : H → α → Option H) (h : H) : je (kc l) (fun h p => f h p.2) h = je l.reverse f h := by
 rw [← Dc, wD]
theorem Fv (k : IntKind) (a b : Int) : orK k a b = orK k b a := by unfold orK; rw [BitVec.or_comm]
theorem J0 {x n : Int} (h0 : 0 ≤ x) (h1 : x < n) (h2 : n ≤ 1000000) : inR (WK .i64 x) n := by
 rw [aA (by omega) (by omega)]; exact ⟨h0, h1⟩
def itr {S : Type} (f : Nat → S → S) (s : S) : Nat → S
 | 0 => s
 | n + 1 => f n (itr f s n)
theorem rK {S : Type} {f g : Nat → S → S} (s : S) : ∀ n, (∀ i < n, ∀ s, f i s = g i s) → itr f s n = itr g s n
 | 0, _ => rfl
 | n + 1, h => by
   simp only [itr]
   rw [rK s n (fun i hi => h i (by omega)), h n (by omega)]
theorem B0 {S : Type} (f : Nat → S → S) (s : S) (a : Nat) : ∀ n, itr f s (a + n) = itr (fun i => f (a + i)) (itr f s a) n
 | 0 => rfl
 | n + 1 => by
   show f (a + n) (itr f s (a + n)) = _
   rw [B0 f s a n]; rfl
theorem nG {S E : Type} {step : (Int × S) → Option ((Int × S) ⊕ E)} (f : Nat → S → S) (g : S → E) (a n k : Nat) (s0 : S)
 (hs : ∀ i < n, ∀ s, step (((a + i : Nat) : Int), s) = some (.inl (((a + i + 1 : Nat) : Int), f i s))) (he : ∀ s, step (((a + n : Nat) : Int), s) = some (.inr (g s))) (hk : n < k) :
 aP k step ((a : Int), s0) = some (g (itr f s0 n)) :=
 fq (fun i => (((a + i : Nat) : Int), itr f s0 i)) n _ k (fun i hi => hs i hi _) (he _) hk
theorem tl {α : Type} {d : α} {n : Nat} (v : Vector α n) (j : Nat) (h : j < n) : vAt d v (j : Int) = v[j] := by
 unfold vAt
 rw [Int.toNat_natCast]
 simp [Array.getD, h]
theorem Fw {α : Type} {n : Nat} (v : Vector α n) (i : Nat) (x : α) (j : Nat) (h : j < n) : (ee v (i : Int) x)[j] = if i = j then x else v[j] := by
 unfold ee
 rw [Int.toNat_natCast, Vector.getElem_setIfInBounds]
theorem ly {m : Nat} {f : Nat → Vector Int m → Vector Int m} (F : Nat → Int → Int) (hf : ∀ i < m, ∀ v, f i v = ee v (i : Int) (F i (vAt 0 v (i : Int)))) (w : Vector Int m) :
 ∀ n, n ≤ m → ∀ j (h : j < m), (itr f w n)[j] = if j < n then F j w[j] else w[j]
 | 0, _, j, h => by simp [itr]
 | n + 1, hn, j, h => by
   have e : itr f w (n + 1) = ee (itr f w n) (n : Int) (F n (vAt 0 (itr f w n) (n : Int))) := hf n (by omega) _
   rw [show (itr f w (n + 1))[j] = (ee (itr f w n) (n : Int) (F n (vAt 0 (itr f w n) (n : Int))))[j] by simp only [e]]
   rw [Fw, tl _ n (by omega), ly F hf w n (by omega) n (by omega), ly F hf w n (by omega) j h]
   by_cases e : n = j
   ·subst e; simp
   ·by_cases e2 : j < n
    ·rw [if_neg e, if_pos e2, if_pos (by omega)]
    ·rw [if_neg e, if_neg e2, if_neg (by omega)]
abbrev rr (n x : Int) : Int := orK .u32 (cV .u32 x (WK .u64 n)) (cj .u32 x (WK .u64 (WK .i64 (32 - n))))
abbrev pr (n x : Int) : Int := orK .u32 (cj .u32 x (be .u64 (WK .u64 (WK .i64 (0 - n))) 31)) (cV .u32 x (WK .u64 (32 - (be .u64 (WK .u64 (WK .i64 (0 - n))) 31))))
theorem oT {n : Int} (h1 : be .u64 (WK .u64 (WK .i64 (0 - n))) 31 = WK .u64 (WK .i64 (32 - n))) (h2 : WK .u64 (32 - (WK .u64 (WK .i64 (32 - n)))) = WK .u64 n) (x : Int) : pr n x = rr n x := by
 unfold pr rr
 rw [h1, h2, Fv]
theorem pr2 (x : Int) : pr 2 x = rr 2 x := oT (by kernel_rfl) (by kernel_rfl) x
theorem pr6 (x : Int) : pr 6 x = rr 6 x := oT (by kernel_rfl) (by kernel_rfl) x
theorem pr7 (x : Int) : pr 7 x = rr 7 x := oT (by kernel_rfl) (by kernel_rfl) x
theorem Lx (x : Int) : pr 11 x = rr 11 x := oT (by kernel_rfl) (by kernel_rfl) x
theorem Ly (x : Int) : pr 13 x = rr 13 x := oT (by kernel_rfl) (by kernel_rfl) x
theorem Lz (x : Int) : pr 17 x = rr 17 x := oT (by kernel_rfl) (by kernel_rfl) x
theorem LA (x : Int) : pr 18 x = rr 18 x := oT (by kernel_rfl) (by kernel_rfl) x
theorem LB (x : Int) : pr 19 x = rr 19 x := oT (by kernel_rfl) (by kernel_rfl) x
theorem LC (x : Int) : pr 22 x = rr 22 x := oT (by kernel_rfl) (by kernel_rfl) x
theorem LE (x : Int) : pr 25 x = rr 25 x := oT (by kernel_rfl) (by kernel_rfl) x
def J1 (w : Vector Int 64) (t : Int) : Int :=
 WK .u32 ((WK .u32 ((WK .u32 ((cI .u32 (cI .u32 (rr 17 (vAt 0 w (WK .i64 (t - 2)))) (rr 19 (vAt 0 w (WK .i64 (t - 2))))) (cV .u32 (vAt 0 w (WK .i64 (t - 2))) 10)) + (vAt 0 w (WK .i64 (t - 7))))) + (cI .u32 (cI .u32 (rr 7 (vAt 0 w (WK .i64 (t - 15)))) (rr 18 (vAt 0 w (WK .i64 (t - 15))))) (cV .u32 (vAt 0 w (WK .i64 (t - 15))) 3)))) + (vAt 0 w (WK .i64 (t - 16))))
def fW (b : Vector Int 16) (t : Nat) (w : Vector Int 64) : Vector Int 64 := if t < 16 then ee w (t : Int) (vAt 0 b (t : Int)) else ee w (t : Int) (J1 w (t : Int))
def oU (b : Vector Int 16) : Vector Int 64 := itr (fW b) (Vector.replicate 64 0) 64
theorem zr (b : Vector Int 16) : itr (fW b) (Vector.replicate 64 0) 16 = vCp (Vector.replicate 64 0) b := by
 rw [rK (g := fun t w => ee w (t : Int) ((fun (i : Nat) (_ : Int) => vAt 0 b (i : Int)) t (vAt 0 w (t : Int)))) _ 16 (fun i hi s => by simp only [fW, if_pos hi])]
 apply Vector.ext
 intro j hj
 rw [ly (fun (i : Nat) (_ : Int) => vAt 0 b (i : Int)) (fun i _ v => rfl) _ 16 (by omega) j hj]
 unfold vCp
 simp only [Vector.getElem_mk, List.getElem_toArray]
 by_cases h : j < 16
 ·rw [if_pos h, tl b j h, List.getElem_append_left (by simp; omega)]
  simp
 ·rw [if_neg h, List.getElem_append_right (by simp; omega), Vector.getElem_replicate]
  have h0 : ∀ x ∈ List.drop 16 (Vector.replicate 64 (0 : Int)).toList, x = 0 := by decide
  exact (h0 _ (List.getElem_mem _)).symm
theorem zt (b : Vector Int 16) : jp 1000 b = some (oU b) := by
 unfold jp
 refine ak (nG (fun i w => fW b (16 + i) w) id 16 48 1000 _ (fun i hi s => ?_) (fun s => ?_) (by omega)) ?_
 ·refine (congrArg (ai · _ _) (bE (by omega))).trans ((ag _ _).trans ?_)
  repeat refine (ac (by first | exact J0 (by omega) (by omega) (by omega) | exact ⟨by omega, by omega⟩ | decide)).trans ?_
  have e : fW b (16 + i) s = ee s ((16 + i : Nat) : Int) (J1 s ((16 + i : Nat) : Int)) := if_neg (by omega)
  rw [e]
  unfold J1
  simp only [← Lz, ← LB, ← pr7, ← LA]
  rw [aA (x := ((16 + i : Nat) : Int) + 1) (by omega) (by omega)]
  rfl
 ·refine (congrArg (ai · _ _) (aZ (by omega))).trans (aa _ _)
 ·rw [← zr]
  show some (id (itr (fun i => fW b (16 + i)) (itr (fW b) (Vector.replicate 64 0) 16) 48)) = _
  rw [← B0 (fW b) (Vector.replicate 64 0) 16 48]
  rfl
abbrev mkB (l : List UInt8) : ByteArray := ⟨l.toArray⟩
theorem nH (l : List UInt8) : (mkB l).size = l.length := by simp [ByteArray.size]
theorem iT (l : List UInt8) : da (mkB l) = (l.length : Int) := by rw [da, nH]
theorem cP (a b : List UInt8) : mkB a ++ mkB b = mkB (a ++ b) := rI (by rw [Fu])
theorem uY (l : List Int) : strOfNums l = mkB (l.map fun n => UInt8.ofNat n.toNat) := rfl
theorem HA (l : List UInt8) (i : Int) : sAt (mkB l) i = ((l.getD i.toNat 0).toNat : Int) := rfl
theorem Dd (l : List UInt8) (n : Int) : E7 (mkB l) n (da (mkB l)) = mkB (l.drop n.toNat) := by
 apply rI
 rw [iT]
 simp [E7, ByteArray.data_extract, List.extract]
 exact List.take_of_length_le (by simp)
theorem HB (b : UInt8) : (b.toNat : Int) ≤ 255 := by have := b.toNat_lt; omega
def wdt (x : Nat) : Nat := (Lib.bitLen x + 7) / 8
def qE : Nat → Nat → List UInt8
 | 0, _ => []
 | n + 1, x => qE n (x / 256) ++ [UInt8.ofNat (x % 256)]
theorem uZ : ∀ (n x : Nat), (qE n x).length = n
 | 0, _ => rfl
 | n + 1, x => by simp [qE, uZ n]
theorem wE : ∀ (n x : Nat), qE (n + 1) x = UInt8.ofNat (x / 256 ^ n % 256) :: qE n x
 | 0, x => by simp [qE]
 | n + 1, x => by
   rw [qE, wE n (x / 256), Nat.div_div_eq_div_mul, ← Nat.pow_succ', qE]
   rfl
theorem Fx {x : Nat} (h : x < 18446744073709551616) : wdt x ≤ 8 := by
 have := Lib.bitLen_le x 64 (by decide) (by simpa using h)
 unfold wdt; omega
def bU (x : Nat) : List UInt8 := UInt8.ofNat (wdt x) :: qE (wdt x) x
theorem Fy (x : Nat) : (bU x).length = wdt x + 1 := by simp [bU, uZ]
abbrev J2 (x : Int) : Int := cI .u32 (cI .u32 (rr 6 x) (rr 11 x)) (rr 25 x)
abbrev J3 (x : Int) : Int := cI .u32 (cI .u32 (rr 2 x) (rr 13 x)) (rr 22 x)
abbrev chE (e f g : Int) : Int := cI .u32 (be .u32 e f) (be .u32 (cI .u32 4294967295 e) g)
abbrev maj (a b c : Int) : Int := cI .u32 (cI .u32 (be .u32 a b) (be .u32 a c)) (be .u32 b c)
abbrev Jp (h e f g kk ww : Int) : Int := WK .u32 ((WK .u32 ((WK .u32 ((WK .u32 (h + J2 e)) + chE e f g)) + kk)) + ww)
abbrev K7 (a b c : Int) : Int := WK .u32 (J3 a + maj a b c)
def rnd (w : Vector Int 64) (t : Nat) (v : Vector Int 8) : Vector Int 8 :=
 ⟨#[WK .u32 (Jp (vAt 0 v 7) (vAt 0 v 4) (vAt 0 v 5) (vAt 0 v 6) (vAt 0 aj (t : Int)) (vAt 0 w (t : Int)) + K7 (vAt 0 v 0) (vAt 0 v 1) (vAt 0 v 2)), vAt 0 v 0, vAt 0 v 1, vAt 0 v 2,
  WK .u32 (vAt 0 v 3 + Jp (vAt 0 v 7) (vAt 0 v 4) (vAt 0 v 5) (vAt 0 v 6) (vAt 0 aj (t : Int)) (vAt 0 w (t : Int))), vAt 0 v 4, vAt 0 v 5, vAt 0 v 6], rfl⟩
def kT (st : Vector Int 8) (b : Vector Int 16) : Vector Int 8 := itr (rnd (oU b)) st 64
def zu (st : Vector Int 8) (b : Vector Int 16) : Vector Int 8 := itr (fun i v => ee v (i : Int) (WK .u32 (vAt 0 v (i : Int) + vAt 0 st (i : Int)))) (kT st b) 8
theorem J4 (k : Nat) (x : Int) : jJ k (x, 6, 11, 25) = some (J2 x) := by
 unfold jJ
 dsimp only
 repeat refine (ac (by decide +kernel)).trans ?_
 unfold J2
 rw [← pr6, ← Lx, ← LE]
theorem J5 (k : Nat) (x : Int) : jJ k (x, 2, 13, 22) = some (J3 x) := by
 unfold jJ
 dsimp only
 repeat refine (ac (by decide +kernel)).trans ?_
 unfold J3
 rw [← pr2, ← Ly, ← LC]
theorem De (st : Vector Int 8) (b : Vector Int 16) : qr 1000 (st, b, aj) = some (zu st b) := by
 unfold qr
 dsimp only
 refine ak (zt b) ?_
 repeat refine (ac (by decide)).trans ?_
 refine ak (fq (fun i : Nat => (vAt 0 (itr (rnd (oU b)) st i) 0, vAt 0 (itr (rnd (oU b)) st i) 1, vAt 0 (itr (rnd (oU b)) st i) 2, vAt 0 (itr (rnd (oU b)) st i) 3, vAt 0 (itr (rnd (oU b)) st i) 4, vAt 0 (itr (rnd (oU b)) st i) 5, vAt 0 (itr (rnd (oU b)) st i) 6, vAt 0 (itr (rnd (oU b)) st i) 7, (i : Int))) 64
  (vAt 0 (kT st b) 0, vAt 0 (kT st b) 1, vAt 0 (kT st b) 2, vAt 0 (kT st b) 3, vAt 0 (kT st b) 4, vAt 0 (kT st b) 5, vAt 0 (kT st b) 6, vAt 0 (kT st b) 7) 1000 (fun i hi => ?_) ?_ (by omega)) ?_
 ·dsimp only
  refine (congrArg (ai · _ _) (bE (by omega))).trans ((ag _ _).trans ?_)
  repeat refine (ac (by exact ⟨by omega, by omega⟩)).trans ?_
  refine ak (J4 _ _) (ak (J5 _ _) ?_)
  rw [aA (x := (i : Int) + 1) (by omega) (by omega)]
  rfl
 ·dsimp only
  exact (congrArg (ai · _ _) (aZ (by omega))).trans (aa _ _)
 ·obtain ⟨V, hV⟩ : ∃ V, V = kT st b := ⟨_, rfl⟩
  rw [← hV]
  have hX : ∀ j : Nat, j < 8 → vAt 0 (⟨#[vAt 0 V 0, vAt 0 V 1, vAt 0 V 2, vAt 0 V 3, vAt 0 V 4, vAt 0 V 5, vAt 0 V 6, vAt 0 V 7], rfl⟩ : Vector Int 8) (j : Int) = vAt 0 V (j : Int) := by
   intro j hj
   match j with
   | 0 => rfl
   | 1 => rfl
   | 2 => rfl
   | 3 => rfl
   | 4 => rfl
   | 5 => rfl
   | 6 => rfl
   | 7 => rfl
   | n + 8 => omega
  refine ak (nG (fun i v => ee v (i : Int) (WK .u32 (vAt 0 v (i : Int) + vAt 0 V (i : Int)))) id 0 8 1000 _ (fun i hi s => ?_) (fun s => ?_) (by omega)) ?_
  ·simp only [Nat.zero_add]
   refine (congrArg (ai · _ _) (bE (by omega))).trans ((ag _ _).trans ?_)
   repeat refine (ac (by exact ⟨by omega, by omega⟩)).trans ?_
   rw [aA (x := (i : Int) + 1) (by omega) (by omega), hX i hi]
   rfl
  ·exact (congrArg (ai · _ _) (aZ (by omega))).trans (aa _ _)
  ·have key : itr (fun i v => ee v (i : Int) (WK .u32 (vAt 0 v (i : Int) + vAt 0 V (i : Int)))) st 8 = zu st b := by
    unfold zu
    rw [← hV]
    apply Vector.ext
    intro j hj
    rw [ly (fun i x => WK .u32 (x + vAt 0 V (i : Int))) (fun i _ v => rfl) st 8 (by omega) j hj, ly (fun i x => WK .u32 (x + vAt 0 st (i : Int))) (fun i _ v => rfl) V 8 (by omega) j hj, if_pos hj, if_pos hj, tl V j hj, tl st j hj, Int.add_comm]
   exact congrArg some key
theorem FC (x : Int) {y : Int} (y0 : 0 ≤ y) (y1 : y ≤ 255) : orK .u32 (cj .u32 x 8) (WK .u32 y) = WK .u32 (WK .u32 (x * 256) + WK .u32 y) := by
 obtain ⟨m, rfl⟩ := Int.eq_ofNat_of_zero_le y0
 obtain ⟨q, hq, hq2⟩ : ∃ q : Nat, WK .u32 (x * 256) = ((q * 256 : Nat) : Int) ∧ q < 16777216 := by
  rw [uW]
  refine ⟨((x * 256 % 4294967296) / 256).toNat, by omega, by omega⟩
 have e1 : cj .u32 x 8 = ((q * 256 : Nat) : Int) := by
  show WK .u32 (x * 2 ^ (min (8 : Int).toNat 32)) = _
  rw [show ((2 : Int) ^ (min (8 : Int).toNat 32)) = 256 by decide, hq]
 have e3 : WK .u32 (m : Int) = (m : Int) := by rw [uW]; omega
 rw [e1, hq, e3]
 show WK .u32 (((BitVec.ofInt 32 ((q * 256 : Nat) : Int)) ||| (BitVec.ofInt 32 (m : Int))).toNat : Int) = _
 rw [BitVec.toNat_or, BitVec.toNat_ofInt, BitVec.toNat_ofInt]
 rw [show (((q * 256 : Nat) : Int) % ((2 ^ 32 : Nat) : Int)).toNat = q * 256 by omega, show (((m : Nat) : Int) % ((2 ^ 32 : Nat) : Int)).toNat = m by omega]
 have e2 : q * 256 ||| m = q * 256 + m := by
  have := Nat.two_pow_add_eq_or_of_lt (i := 8) (b := m) (by omega) q
  rw [Nat.mul_comm q 256]
  exact this.symm
 rw [e2]
 congr 1
abbrev byt (l : List UInt8) (i : Nat) : Int := ((l.getD i 0).toNat : Int)
def fB (l : List UInt8) (i : Nat) (b : Vector Int 16) : Vector Int 16 := ee b ((i / 4 : Nat) : Int) (WK .u32 (WK .u32 (vAt 0 b ((i / 4 : Nat) : Int) * 256) + WK .u32 (byt l i)))
def FD (l : List UInt8) : Vector Int 16 := itr (fB l) (Vector.replicate 16 0) 64
theorem FE (l r : List UInt8) (h : 64 ≤ l.length) : FD (l ++ r) = FD l := by
 unfold FD
 refine rK _ 64 (fun i hi s => ?_)
 unfold fB byt
 rw [List.getD_eq_getElem?_getD, List.getD_eq_getElem?_getD, List.getElem?_append_left (by omega)]
def jY (st : Vector Int 8) : Nat → List UInt8 → Vector Int 8
 | 0, _ => st
 | n + 1, l => jY (zu st (FD l)) n (l.drop 64)
theorem va : ∀ (n : Nat) (st : Vector Int 8) (l r : List UInt8), 64 * n ≤ l.length → jY st n (l ++ r) = jY st n l
 | 0, _, _, _, _ => rfl
 | n + 1, st, l, r, h => by
   simp only [jY]
   rw [FE l r (by omega), List.drop_append_of_le_length (by omega), va n _ _ _ (by simp; omega)]
theorem qF (b : Nat) : ∀ (a : Nat) (st : Vector Int 8) (l : List UInt8), jY st (a + b) l = jY (jY st a l) b (l.drop (64 * a))
 | 0, st, l => by simp [jY]
 | a + 1, st, l => by
   rw [show a + 1 + b = (a + b) + 1 by omega]
   simp only [jY]
   rw [qF b a, List.drop_drop]
   congr 2
   omega
theorem Df (st : Vector Int 8) (i : Nat) (l : List UInt8) : jY st (i + 1) l = zu (jY st i l) (FD (l.drop (64 * i))) := by
 rw [qF 1 i]; rfl
theorem Jq (i : Nat) : Int.tdiv (i : Int) 4 = ((i / 4 : Nat) : Int) := rfl
theorem K8 (i : Nat) : Int.tmod (i : Int) 4 = ((i % 4 : Nat) : Int) := rfl
theorem vc {n : Nat} (h : n ≤ 9223372036854775807) : WK .i64 (n : Int) = (n : Int) := aA (by omega) (by omega)
theorem HC {n : Nat} (h : n ≤ 9223372036854775807) : WK .u64 (n : Int) = (n : Int) := A3 (by omega) (by omega)
theorem rL (st : Vector Int 8) (l : List UInt8) (hl : l.length ≤ 50000) : jK 1000 (st, mkB l, aj) = some (jY st (l.length / 64) l, mkB (l.drop (64 * (l.length / 64)))) := by
 unfold jK
 dsimp only
 refine ak (fq (fun i : Nat => (mkB (l.drop (64 * i)), jY st i l)) (l.length / 64) (mkB (l.drop (64 * (l.length / 64))), jY st (l.length / 64) l) 1000 (fun i hi => ?_) ?_ (by omega)) rfl
 ·dsimp only
  rw [iT, List.length_drop]
  refine (congrArg (ai · _ _) (ec (by omega))).trans ((ag _ _).trans ?_)
  refine ak (nG (fB (l.drop (64 * i))) id 0 64 1000 _ (fun j hj s => ?_) (fun s => ?_) (by omega)) ?_
  ·simp only [Nat.zero_add]
   refine (congrArg (ai · _ _) (bE (by omega))).trans ((ag _ _).trans ?_)
   rw [Jq, vc (n := j / 4) (by omega), aA (x := (j : Int) + 1) (by omega) (by omega)]
   repeat refine (ac (by first | exact ⟨by omega, by omega⟩ | decide)).trans ?_
   rw [HA, FC _ (by omega) (HB _)]
   rfl
  ·exact (congrArg (ai · _ _) (aZ (by omega))).trans (aa _ _)
  ·refine ak (De _ _) ?_
   refine (ac ⟨by omega, by omega, by omega⟩).trans ?_
   rw [show ((l.length - 64 * i : Nat) : Int) = da (mkB (l.drop (64 * i))) by rw [iT, List.length_drop], Dd, List.drop_drop, Df]
   rfl
 ·dsimp only
  rw [iT, List.length_drop]
  exact (congrArg (ai · _ _) (qD (by omega))).trans (aa _ _)
def nI : Vector Int 8 := ⟨#[1779033703, 3144134277, 1013904242, 2773480762, 1359893119, 2600822924, 528734635, 1541459225], rfl⟩
def K9 (st : Vector Int 8) : Vector Int 32 := itr (fun i v => ee v (i : Int) (WK .u8 (cV .u32 (vAt 0 st ((i / 4 : Nat) : Int)) ((24 - 8 * (i % 4) : Nat) : Int)))) (Vector.replicate 32 0) 32
def lbt (n j : Nat) : Int := WK .u8 (cV .u64 (WK .u64 ((n : Int) * 8)) ((8 * j : Nat) : Int))
def zv (n : Nat) : List UInt8 := (List.range 8).map fun i => UInt8.ofNat (lbt n (7 - i)).toNat
def zs (n : Nat) : Nat := (119 - n % 64) % 64
def rM (l : List UInt8) : List UInt8 := l ++ [128] ++ List.replicate (zs l.length) 0 ++ zv l.length
theorem vd (n : Nat) : (zv n).length = 8 := by simp [zv]
theorem zw (l : List UInt8) : (rM l).length = l.length + 9 + zs l.length := by simp [rM, vd]; omega
theorem FF (l : List UInt8) : (rM l).length % 64 = 0 := by rw [zw]; unfold zs; omega
def hsh (l : List UInt8) : Vector Int 32 := K9 (jY nI ((rM l).length / 64) (rM l))
theorem cY {a b : List UInt8} (h : a.length + b.length ≤ 1000000) : bW (mkB a) (mkB b) := by
 unfold bW; rw [nH, nH]; omega
theorem FG (st : Vector Int 8) {step : (Int × Vector Int 32) → Option ((Int × Vector Int 32) ⊕ Vector Int 32)}
 (hs : ∀ i : Nat, i < 32 → ∀ s, step ((i : Int), s) = some (.inl (((i + 1 : Nat) : Int), ee s (i : Int) (WK .u8 (cV .u32 (vAt 0 st ((i / 4 : Nat) : Int)) ((24 - 8 * (i % 4) : Nat) : Int)))))) (he : ∀ s, step (32, s) = some (.inr s)) :
 aP 1000 step (0, Vector.replicate 32 0) = some (K9 st) :=
 nG (fun i v => ee v (i : Int) (WK .u8 (cV .u32 (vAt 0 st ((i / 4 : Nat) : Int)) ((24 - 8 * (i % 4) : Nat) : Int)))) id 0 32 1000 _ (fun i hi s => by simp only [Nat.zero_add]; exact hs i hi s) (fun s => he s) (by omega)
abbrev cE (l : List UInt8) : Bool × Vector Int 8 × ByteArray × Int := (true, jY nI (l.length / 64) l, mkB (l.drop (64 * (l.length / 64))), (l.length : Int))
theorem sG (s : List UInt8) (hs : s.length ≤ 50000) (z : Vector Int 8) : bB 1000 (mkB s, false, z, aI, 0, aj) = some ((s.length : Int), cE s) := by
 unfold bB
 simp only [Bool.not_false, ag, Option.bind_some]
 refine (ac (cY (a := []) (by simp; omega))).trans ?_
 have e : (aI : ByteArray) ++ mkB s = mkB s := by
  show mkB [] ++ mkB s = _
  rw [cP]; rfl
 rw [e]
 refine ak (rL _ s hs) ?_
 rw [iT, Int.zero_add, vc (by omega)]
 rfl
theorem pz (t s : List UInt8) (hs : t.length + s.length ≤ 50000) : bB 1000 (mkB s, (cE t).1, (cE t).2.1, (cE t).2.2.1, (cE t).2.2.2, aj) = some ((s.length : Int), cE (t ++ s)) := by
 unfold bB
 simp only [Bool.not_true, aa, Option.bind_some]
 refine (ac (cY (by simp; omega))).trans ?_
 rw [cP]
 refine ak (rL _ _ (by simp; omega)) ?_
 have e1 : (t.drop (64 * (t.length / 64)) ++ s) = (t ++ s).drop (64 * (t.length / 64)) := by
  rw [List.drop_append_of_le_length (by omega)]
 have e2 : (t ++ s).length / 64 = t.length / 64 + (((t ++ s).drop (64 * (t.length / 64))).length / 64) := by
  simp only [List.length_drop, List.length_append]; omega
 have e3 : jY nI (t.length / 64) t = jY nI (t.length / 64) (t ++ s) := (va _ _ _ _ (by omega)).symm
 rw [e1, e3, ← qF, ← e2, List.drop_drop, iT]
 have e4 : 64 * (t.length / 64) + 64 * (((t ++ s).drop (64 * (t.length / 64))).length / 64) = 64 * ((t ++ s).length / 64) := by rw [e2]; omega
 have e5 : WK .i64 ((t.length : Int) + (s.length : Int)) = ((t ++ s).length : Int) := by rw [aA (by omega) (by omega)]; simp
 rw [e4, e5]
theorem zx : ∀ n, Lib.repeatL [0] n = List.replicate n (0 : UInt8)
 | 0 => rfl
 | n + 1 => by rw [Lib.repeatL, zx n]; rfl
theorem FH {n : Nat} (h : n ≤ 1000) : strings_Repeat 1000 (⟨#[0]⟩, (n : Int)) = some (mkB (List.replicate n 0)) := by
 show cn 1000 _ = _
 unfold cn
 have h3 : (⟨#[0]⟩ : ByteArray).size * (n : Int).toNat ≤ 140737488355328 := by
  show 1 * (n : Int).toNat ≤ _
  omega
 refine (ac ⟨by omega, by omega, h3⟩).trans ?_
 rw [← zx]; rfl
theorem FI (n : Nat) (w : Vector Int 8) : ((itr (fun i v => ee v (i : Int) (lbt n (7 - i))) w 8).toList.map fun x => UInt8.ofNat x.toNat) = zv n := by
 apply List.ext_getElem
 ·simp [zv]
 ·intro j h1 h2
  have hj : j < 8 := by rw [vd] at h2; exact h2
  simp only [List.getElem_map, Vector.getElem_toList]
  rw [ly (fun i _ => lbt n (7 - i)) (fun i _ v => rfl) w 8 (by omega) j hj, if_pos hj]
  simp [zv]
theorem A4 (x : Bool × Vector Int 8 × ByteArray × Int) (t : List UInt8) (ht : t.length ≤ 49000) (hx : x = cE t ∨ (x.1 = false ∧ t = [])) : fa 1000 (x.1, x.2.1, x.2.2.1, x.2.2.2, aj) = some (hsh t) := by
 unfold fa
 have e0 : (ai x.1 (some ((x.2.2.1, (WK .u64 x.2.2.2), x.2.1))) (some ((aI, 0, ⟨#[1779033703, 3144134277, 1013904242, 2773480762, 1359893119, 2600822924, 528734635, 1541459225], rfl⟩))) : Option (ByteArray × Int × (Vector Int 8))) = some (mkB (t.drop (64 * (t.length / 64))), (t.length : Int), jY nI (t.length / 64) t) := by
  rcases hx with rfl | ⟨h1, rfl⟩
  ·simp only [ag]
   rw [HC (by omega)]
  ·rw [h1, aa]; rfl
 refine ak e0 ?_
 dsimp only
 refine (ac (by decide)).trans ?_
 refine ak (nG (fun i v => ee v (i : Int) (lbt t.length (7 - i))) id 0 8 1000 _ (fun i hi s => ?_) (fun s => ?_) (by omega)) ?_
 ·simp only [Nat.zero_add]
  refine (congrArg (ai · _ _) (bE (by omega))).trans ((ag _ _).trans ?_)
  have e1 : WK .i64 (7 - (i : Int)) = ((7 - i : Nat) : Int) := by rw [aA (by omega) (by omega)]; omega
  have e2 : WK .i64 (8 * ((7 - i : Nat) : Int)) = ((8 * (7 - i) : Nat) : Int) := by rw [aA (by omega) (by omega)]; omega
  rw [e1, e2, aA (x := (i : Int) + 1) (by omega) (by omega)]
  repeat refine (ac (by first | exact ⟨by omega, by omega⟩ | (unfold nn; omega))).trans ?_
  rfl
 ·exact (congrArg (ai · _ _) (aZ (by omega))).trans (aa _ _)
 ·obtain ⟨r, hr⟩ : ∃ r, r = t.drop (64 * (t.length / 64)) := ⟨_, rfl⟩
  have hrl : r.length = t.length % 64 := by rw [hr, List.length_drop]; omega
  rw [← hr]
  refine (ac (cY (b := [128]) (by simp; omega))).trans ?_
  have e3 : Int.tmod (WK .i64 (119 - da (mkB r))) 64 = ((zs t.length : Nat) : Int) := by
   rw [iT, aA (by omega) (by omega), show (119 : Int) - (r.length : Int) = ((119 - t.length % 64 : Nat) : Int) by omega]
   rfl
  have hz : zs t.length < 64 := by unfold zs; omega
  rw [e3]
  refine ak (FH (by omega)) ?_
  have e4 : mkB r ++ ⟨#[128]⟩ = mkB (r ++ [128]) := by
   show mkB r ++ mkB [128] = _
   rw [cP]
  rw [e4]
  refine (ac (cY (by simp; omega))).trans ?_
  rw [cP]
  have e5 : strOfNums (Vector.toList (id (itr (fun i v => ee v (i : Int) (lbt t.length (7 - i))) (Vector.replicate 8 0) 8))) = mkB (zv t.length) := by
   rw [uY, id, FI]
  rw [e5]
  refine (ac (cY (by simp [vd]; omega))).trans ?_
  rw [cP]
  have e6 : r ++ [128] ++ List.replicate (zs t.length) 0 ++ zv t.length = (rM t).drop (64 * (t.length / 64)) := by
   unfold rM
   simp only [List.append_assoc]
   rw [List.drop_append_of_le_length (by omega), hr]
  have hpl := zw t
  have hpm := FF t
  rw [e6]
  refine ak (rL _ _ (by rw [List.length_drop]; omega)) ?_
  have e7 : jY nI (t.length / 64) t = jY nI (t.length / 64) (rM t) := by
   unfold rM
   simp only [List.append_assoc]
   exact (va _ _ _ _ (by omega)).symm
  have e8 : t.length / 64 + ((rM t).drop (64 * (t.length / 64))).length / 64 = (rM t).length / 64 := by rw [List.length_drop]; omega
  rw [e7, ← qF, e8]
  refine ak (FG (jY nI ((rM t).length / 64) (rM t)) (fun i hi s => ?_) (fun s => ?_)) rfl
  ·dsimp only
   refine (congrArg (ai · _ _) (bE (by omega))).trans ((ag _ _).trans ?_)
   have e9 : WK .i64 (8 * ((i % 4 : Nat) : Int)) = ((8 * (i % 4) : Nat) : Int) := by rw [aA (by omega) (by omega)]; omega
   have e10 : WK .i64 (24 - ((8 * (i % 4) : Nat) : Int)) = ((24 - 8 * (i % 4) : Nat) : Int) := by rw [aA (by omega) (by omega)]; omega
   rw [Jq, K8, vc (n := i / 4) (by omega), e9, e10, aA (x := (i : Int) + 1) (by omega) (by omega)]
   repeat refine (ac (by first | exact ⟨by omega, by omega⟩ | decide | (unfold nn; omega))).trans ?_
   rfl
  ·exact (congrArg (ai · _ _) (aZ (by omega))).trans (aa _ _)
theorem pA (ps : List (List UInt8)) (hn : ps.length ≤ 900) (hl : ps.flatten.length ≤ 49000) : dL 1000 (ps.map mkB, aj) = some (hsh ps.flatten) := by
 have pre : ∀ i, (ps.take i).flatten.length ≤ 49000 := fun i => by
  have h : ps.flatten = (ps.take i).flatten ++ (ps.drop i).flatten := by rw [← List.flatten_append, List.take_append_drop]
  rw [h, List.length_append] at hl
  omega
 unfold dL
 dsimp only
 refine dH (fun d h => ∃ (i : Nat) (x : Bool × Vector Int 8 × ByteArray × Int), h = ((i : Int), x) ∧ i + d = ps.length ∧ ((i = 0 ∧ x = (false, Vector.replicate 8 0, aI, 0)) ∨ (0 < i ∧ x = cE (ps.take i).flatten))) (fun e => e = cE ps.flatten ∨ (e.1 = false ∧ ps.flatten = [])) ps.length (by omega) ⟨0, _, rfl, by omega, .inl ⟨rfl, rfl⟩⟩ ?_ ?_
 ·rintro d _ ⟨i, x, rfl, hi, hx⟩
  dsimp only
  have hll : af (ps.map mkB) = (ps.length : Int) := by simp [af]
  rw [hll]
  by_cases a : i < ps.length
  ·refine (congrArg (fun b => Goes _ _ _ (ai b _ _)) (bE (a := (i : Int)) (b := (ps.length : Int)) (by omega))).mpr ?_
   rw [ag, ac ⟨by omega, by omega⟩]
   have e1 : at_ .str (ps.map mkB) (i : Int) = mkB ps[i] := by
    rw [cD (t := .str) (by simpa using a)]
    simp
   have e2 : (ps.take (i + 1)).flatten = (ps.take i).flatten ++ ps[i] := by
    rw [List.take_add_one, List.getElem?_eq_getElem a, List.flatten_append]
    simp
   have hb := pre (i + 1)
   rw [e2, List.length_append] at hb
   rw [e1]
   have e3 : WK .i64 ((i : Int) + 1) = ((i + 1 : Nat) : Int) := aA (by omega) (by omega)
   rcases hx with ⟨rfl, rfl⟩ | ⟨h0, rfl⟩
   ·rw [sG _ (by omega), Option.bind_some, e3]
    exact .on (d - 1) (by omega) ⟨1, _, rfl, by omega, .inr ⟨by omega, by rw [e2]; simp⟩⟩
   ·rw [pz _ _ (by omega), Option.bind_some, e3]
    exact .on (d - 1) (by omega) ⟨i + 1, _, rfl, by omega, .inr ⟨by omega, by rw [e2]⟩⟩
  ·refine (congrArg (fun b => Goes _ _ _ (ai b _ _)) (aZ (a := (i : Int)) (b := (ps.length : Int)) (by omega))).mpr ?_
   rw [aa]
   refine .out ?_
   rcases hx with ⟨rfl, rfl⟩ | ⟨h0, rfl⟩
   ·have : ps = [] := List.eq_nil_of_length_eq_zero (by omega)
    subst this
    exact .inr ⟨rfl, rfl⟩
   ·rw [List.take_of_length_le (by omega)]
    exact .inl rfl
 ·intro e he
  exact ak (A4 e ps.flatten hl he) rfl
def sp (n : Nat) : Nat := 2 ^ Nat.log2 (n - 1)
theorem Dg {n : Nat} (h0 : 2 ≤ n) (h : n ≤ 1099511627776) : Nat.log2 (n - 1) < 40 := by
 have h1 := Nat.log2_self_le (n := n - 1) (by omega)
 apply Nat.lt_of_not_le
 intro h2
 have := Nat.pow_le_pow_right (n := 2) (by omega) h2
 omega
theorem jq {n : Nat} (h : 2 ≤ n) : sp n < n ∧ n ≤ 2 * sp n ∧ 1 ≤ sp n := by
 have h1 := Nat.log2_self_le (n := n - 1) (by omega)
 have h2 := Nat.lt_log2_self (n := n - 1)
 have h3 : 1 ≤ 2 ^ Nat.log2 (n - 1) := Nat.one_le_two_pow
 rw [Nat.pow_succ] at h2
 unfold sp
 omega
theorem B1 {n d : Nat} (h : 2 ≤ n) (hd : n ≤ 2 ^ (d + 1)) : sp n ≤ 2 ^ d := by
 have h1 := (jq h).1
 unfold sp at h1 ⊢
 apply Nat.pow_le_pow_right (by omega)
 apply Nat.le_of_lt_succ
 exact (Nat.pow_lt_pow_iff_right (a := 2) (by omega)).1 (Nat.lt_of_lt_of_le h1 hd)
theorem zy : ∀ x : Nat, x ≠ 0 → x < 2 ^ 64 → Lib.bitLen x = Nat.log2 x + 1 := by
 intro x
 induction x using Nat.strongRecOn with
 | _ x ih =>
   intro h0 h
   rw [Lib.bitLen_half x h0 h, Nat.log2_def]
   by_cases h2 : 2 ≤ x
   ·rw [if_pos h2, ih (x / 2) (by omega) (by omega) (by omega)]
    omega
   ·have : x = 1 := by omega
    subst this
    decide
theorem HD (j : Nat) (h : j ≤ 62) : cj .i64 1 (j : Int) = ((2 ^ j : Nat) : Int) := by
 unfold cj
 have e : min (j : Int).toNat IntKind.i64.bits = j := by
  have : IntKind.i64.bits = 64 := rfl
  omega
 rw [e, Int.one_mul]
 have h1 : (2 : Nat) ^ j ≤ 2 ^ 62 := Nat.pow_le_pow_right (by omega) h
 have h2 : ((2 : Int) ^ j) = ((2 ^ j : Nat) : Int) := by simp
 rw [h2]
 have h3 : (2 : Nat) ^ 62 = 4611686018427387904 := by decide
 rw [h3] at h1
 generalize 2 ^ j = p at h1 ⊢
 exact aA (by omega) (by omega)
theorem ve {n d : Nat} (h : 2 ≤ n) (hd : n ≤ 2 ^ d) : ∃ d', d = d' + 1 := by
 cases d with
 | zero => simp at hd; omega
 | succ d => exact ⟨d, rfl⟩
theorem mh {H E R : Type} {step : H → Option (H ⊕ E)} {f : E → Option R} {P : R → Prop} {h0 : H} {k : Nat} (I : Nat → H → Prop) (Q : E → Prop) (n : Nat) (hk : n < k) (h : I n h0)
 (hs : ∀ n h, I n h → Goes I Q n (step h)) (hf : ∀ e, Q e → ∃ r, f e = some r ∧ P r) : ∃ r, (aP k step h0).bind f = some r ∧ P r := by
 obtain ⟨e, he, hq⟩ := lx (step := step) I Q (fun n h hi => by
  have g := hs n h hi
  generalize step h = o at g ⊢
  cases g with
  | on m lt i => exact .inl ⟨_, m, rfl, lt, i⟩
  | out q => exact .inr ⟨_, rfl, q⟩) n h0 h k hk
 obtain ⟨r, h1, h2⟩ := hf e hq
 exact ⟨r, by rw [he]; exact h1, h2⟩
abbrev Vh := Vector Int 32
def vb (v : Vh) : List UInt8 := v.toList.map fun n => UInt8.ofNat n.toNat
theorem iA (v : Vh) : (vb v).length = 32 := by simp [vb]
theorem vf (v : Vh) : strOfNums (Vector.toList v) = mkB (vb v) := rfl
def sX (a b : Vh) : Vh := hsh ([1] ++ vb a ++ vb b)
theorem rN (a : Vh) : bW ⟨#[1]⟩ (strOfNums (Vector.toList a)) := cY (a := [1]) (b := vb a) (by rw [iA]; decide)
theorem rO (a b : Vh) : bW (⟨#[1]⟩ ++ strOfNums (Vector.toList a)) (strOfNums (Vector.toList b)) := by
 have e : (⟨#[1]⟩ : ByteArray) ++ strOfNums (Vector.toList a) = mkB ([1] ++ vb a) := cP [1] _
 rw [e]
 exact cY (b := vb b) (by rw [iA, List.length_append, iA]; decide)
theorem Dh (a b : Vh) : ((⟨#[1]⟩ : ByteArray) ++ strOfNums (Vector.toList a)) ++ strOfNums (Vector.toList b) = mkB ([1] ++ vb a ++ vb b) := by
 have e : (⟨#[1]⟩ : ByteArray) ++ strOfNums (Vector.toList a) = mkB ([1] ++ vb a) := cP [1] _
 rw [e]
 exact cP _ _
theorem vg (a b : Vh) : dL 1000 ([((⟨#[1]⟩ ++ strOfNums (Vector.toList a)) ++ strOfNums (Vector.toList b))], aj) = some (sX a b) := by
 rw [Dh]
 have := pA [[1] ++ vb a ++ vb b] (by simp) (by simp [iA])
 simpa [sX] using this
abbrev nil0 : Vh := hsh []
def rt : Nat → List Vh → Vh
 | 0, l => l.headD nil0
 | d + 1, l => if l.length ≤ 1 then l.headD nil0 else sX (rt d (l.take (sp l.length))) (rt d (l.drop (sp l.length)))
theorem dg {l : List Vh} (h : l.length ≤ 1) : ∀ d, rt d l = l.headD nil0
 | 0 => rfl
 | d + 1 => by rw [rt, if_pos h]
theorem rP {l : List Vh} {d : Nat} (h : 2 ≤ l.length) : rt (d + 1) l = sX (rt d (l.take (sp l.length))) (rt d (l.drop (sp l.length))) := by
 rw [rt, if_neg (by omega)]
theorem wF {n j : Nat} (h1 : 2 ^ j < n) (h2 : n ≤ 2 ^ (j + 1)) : sp n = 2 ^ j := by
 have h0 : 1 ≤ 2 ^ j := Nat.one_le_two_pow
 obtain ⟨a1, a2, a3⟩ := jq (n := n) (by omega)
 have a4 := B1 (n := n) (d := j) (by omega) h2
 have a5 : 2 ^ j ≤ sp n := by
  unfold sp at a2 ⊢
  apply Nat.pow_le_pow_right (by omega)
  have : 2 ^ j < 2 ^ (Nat.log2 (n - 1) + 1) := by rw [Nat.pow_succ]; omega
  have := (Nat.pow_lt_pow_iff_right (a := 2) (by omega)).1 this
  omega
 omega
theorem mi : ∀ (d : Nat) (l : List Vh), l.length ≤ 2 ^ d → ∀ e, d ≤ e → rt e l = rt d l
 | 0, l, h, e, _ => by rw [dg (by simpa using h), dg (by simpa using h)]
 | d + 1, l, h, e, he => by
   obtain ⟨e, rfl⟩ : ∃ f, e = f + 1 := ⟨e - 1, by omega⟩
   by_cases h1 : l.length ≤ 1
   ·rw [dg h1, dg h1]
   ·obtain ⟨a1, a2, a3⟩ := jq (n := l.length) (by omega)
    have a4 := B1 (n := l.length) (d := d) (by omega) h
    rw [rP (by omega), rP (by omega), mi d _ (by rw [List.length_take]; omega) e (by omega), mi d _ (by rw [List.length_drop]; omega) e (by omega)]
theorem cK {α : Type} (n : Nat) (l : List α) : db (n : Int) l = l.take n := by unfold db; rw [Int.toNat_natCast]
theorem rQ {α : Type} (n : Nat) (l : List α) : sB (n : Int) l = l.drop n := by unfold sB; rw [Int.toNat_natCast]
theorem FJ {l : List Vh} (h1 : 2 ≤ l.length) (h : l.length ≤ 512) : rt 40 l = sX (rt 40 (l.take (sp l.length))) (rt 40 (l.drop (sp l.length))) := by
 have a1 : (l.take (sp l.length)).length ≤ 2 ^ 9 := by rw [List.length_take]; omega
 have a2 : (l.drop (sp l.length)).length ≤ 2 ^ 9 := by rw [List.length_drop]; omega
 rw [rP (d := 39) h1, mi 9 _ a1 39 (by omega), mi 9 _ a2 39 (by omega), mi 9 _ a1 40 (by omega), mi 9 _ a2 40 (by omega)]
theorem zA (l : List Vh) (h : 2 ≤ l.length) : (l.take (sp l.length)).length = sp l.length := by
 have := jq h
 rw [List.length_take]; omega
theorem vh (n : Nat) (v : Vector Int n) : ∀ l : List Nat, tI n v v l = true
 | [] => rfl
 | i :: l => by rw [tI, vh n v l]; simp
def byI (l : List UInt8) : List Int := l.map fun b => (b.toNat : Int)
theorem FM (l : List UInt8) : strOfNums (byI l) = mkB l := by
 rw [uY, byI, List.map_map]
 congr 1
 conv => rhs; rw [← List.map_id l]
 refine List.map_congr_left (fun b _ => ?_)
 simp
theorem FN (x : Nat) : ((UInt8.ofNat (x % 256)).toNat : Int) = ((x % 256 : Nat) : Int) := by simp
theorem FO (x i : Nat) (hi : i < 8) : WK .u8 (cV .u64 (x : Int) (8 * (i : Int))) = ((x / 256 ^ i % 256 : Nat) : Int) := by
 have e : cV .u64 (x : Int) (8 * (i : Int)) = ((x / 256 ^ i : Nat) : Int) := by
  show Int.fdiv (x : Int) (2 ^ (min (8 * (i : Int)).toNat 64)) = _
  have e2 : (2 : Int) ^ (8 * i) = ((256 ^ i : Nat) : Int) := by
   have h1 : (2 : Nat) ^ (8 * i) = 256 ^ i := by rw [Nat.pow_mul]
   rw [← h1, Int.natCast_pow]; rfl
  rw [show min (8 * (i : Int)).toNat 64 = 8 * i by omega, e2, Int.fdiv_eq_ediv_of_nonneg _ (Int.natCast_nonneg _)]
  exact (Int.natCast_ediv _ _).symm
 rw [e, Db]
 omega
theorem J6 (k : Nat) (hk : 8 < k) {x : Nat} (h : x < 18446744073709551616) : bh k (x : Int) = some (mkB (bU x)) := by
 unfold bh
 have hw := Fx h
 have hb : Lib.bitLen x ≤ 64 := Lib.bitLen_le x 64 (by decide) (by simpa using h)
 have e0 : bits_Len64 k (x : Int) = some ((Lib.bitLen x : Nat) : Int) := by
  show bA k (x : Int) = _
  unfold bA
  rw [ac ⟨by omega, by omega⟩, Int.toNat_natCast]
 rw [e0]
 simp only [Option.bind_some]
 have e1 : WK .i64 (Int.tdiv (WK .i64 (WK .i64 (((Lib.bitLen x : Nat) : Int) + 8) - 1)) 8) = ((wdt x : Nat) : Int) := by
  rw [aA (x := ((Lib.bitLen x : Nat) : Int) + 8) (by omega) (by omega), aA (x := ((Lib.bitLen x : Nat) : Int) + 8 - 1) (by omega) (by omega), Int.tdiv_eq_ediv_of_nonneg (by omega)]
  unfold wdt
  rw [aA (by omega) (by omega)]
  omega
 rw [e1]
 have e2 : WK .i64 (1 + ((wdt x : Nat) : Int)) = ((wdt x + 1 : Nat) : Int) := by
  rw [aA (by omega) (by omega)]; omega
 rw [e2, K6 (x := ((wdt x : Nat) : Int)) (by omega) (by omega)]
 rw [ac (by decide), ac ⟨by omega, rfl, by omega, by omega⟩, ac ⟨by decide, by simp only [af, E6, List.length_replicate]; omega⟩]
 have e3 : bz (E6 ((wdt x + 1 : Nat) : Int) (0 : Int)) 0 ((wdt x : Nat) : Int) = ((wdt x : Nat) : Int) :: List.replicate (wdt x) 0 := by
  simp only [bz, E6, Int.toNat_natCast, List.replicate_succ]
  rfl
 rw [e3]
 refine ak (a := byI (bU x)) ?_ (by rw [FM])
 have hc : ((UInt8.ofNat (wdt x)).toNat : Int) = (wdt x : Int) := by
  have : (UInt8.ofNat (wdt x)).toNat = wdt x := by simp; omega
  rw [this]
 have fin : byI (bU x) = ((wdt x : Nat) : Int) :: (List.replicate (wdt x - wdt x) 0 ++ byI (qE (wdt x) x)) := by
  simp only [bU, byI, List.map_cons, hc, Nat.sub_self, List.replicate_zero, List.nil_append]
 have st : (((wdt x : Nat) : Int) :: List.replicate (wdt x) 0) = ((wdt x : Nat) : Int) :: (List.replicate (wdt x - 0) 0 ++ byI (qE 0 x)) := by
  simp [qE, byI]
 rw [st]
 refine fq (fun i => ((i : Int), ((wdt x : Nat) : Int) :: (List.replicate (wdt x - i) 0 ++ byI (qE i x)))) (wdt x) _ k ?_ ?_ (by omega)
 ·intro i hi
  have hlen : (((wdt x : Nat) : Int) :: (List.replicate (wdt x - i) 0 ++ byI (qE i x))).length = wdt x + 1 := by
   simp only [List.length_cons, List.length_append, List.length_replicate, byI, List.length_map, uZ]; omega
  simp only [bE (show (i : Int) < ((wdt x : Nat) : Int) by omega), ag]
  rw [aA (x := 8 * (i : Int)) (by omega) (by omega), ac (by omega), aA (x := ((wdt x : Nat) : Int) - (i : Int)) (by omega) (by omega), ac ⟨by omega, by rw [af, hlen]; omega⟩, aA (x := (i : Int) + 1) (by omega) (by omega), FO x i (by omega)]
  congr 3
  obtain ⟨m, hm⟩ : ∃ m, wdt x - i = m + 1 := ⟨wdt x - i - 1, by omega⟩
  rw [show wdt x - (i + 1) = m by omega, hm]
  simp only [bz]
  rw [show (((wdt x : Nat) : Int) - (i : Int)).toNat = m + 1 by omega, List.set_cons_succ, List.replicate_succ', List.append_assoc, List.set_append_right _ _ (by simp), List.length_replicate, Nat.sub_self]
  rw [wE]
  simp only [byI, List.map_cons, FN, List.singleton_append, List.set_cons_zero]
 ·simp only [aZ (Int.le_refl _), aa, fin]
abbrev Fz := Int × Int × Vh
abbrev TV : Ty := .arr 32 (.int .u8)
abbrev TF : Ty := .pair (.int .i64) (.pair (.int .i64) TV)
def qG (w c : Int) : Prop := 0 ≤ w ∧ w ≤ 1125899906842624 ∧ 1 ≤ c ∧ c ≤ 4000
instance (w c : Int) : Decidable (qG w c) := by unfold qG; infer_instance
def fzL (w c : Int) (r : Vh) : List UInt8 := [70] ++ bU w.toNat ++ bU c.toNat ++ (bU 32 ++ vb r)
theorem bH {x : Nat} (h : x < 18446744073709551616) : (bU x).length ≤ 9 := by
 have := Fx h
 rw [Fy]; omega
theorem tm {w c : Int} (h : qG w c) (r : Vh) : (fzL w c r).length ≤ 70 := by
 obtain ⟨h1, h2, h3, h4⟩ := h
 have a := bH (x := w.toNat) (by omega)
 have b := bH (x := c.toNat) (by omega)
 have d := bH (x := 32) (by decide)
 simp only [fzL, List.length_append, iA, List.length_singleton]
 omega
theorem iB {x : Int} (h0 : 0 ≤ x) (h1 : x ≤ 1125899906842624) : bh 1000 (WK .u64 x) = some (mkB (bU x.toNat)) := by
 rw [A3 h0 (by omega)]
 obtain ⟨n, rfl⟩ := Int.eq_ofNat_of_zero_le h0
 rw [J6 1000 (by decide) (by omega)]
 rfl
theorem xM (r : Vh) : da (strOfNums (Vector.toList r)) = 32 := by
 rw [vf, iT, iA]; rfl
theorem A5 {w c : Int} (h : qG w c) (r : Vh) : cr 1000 (w, c, r) = some (mkB (fzL w c r), 0) := by
 obtain ⟨h1, h2, h3, h4⟩ := h
 have hl := tm (show qG w c from ⟨h1, h2, h3, h4⟩) r
 unfold cr
 dsimp only
 rw [ec h1, ag, iR h2, Bool.not_true, aa, cG (show c ≠ 0 by omega), aa, ec (show 0 ≤ c by omega), ag, iR h4, Bool.not_true, aa]
 refine ak (iB h1 h2) (ak (iB (by omega) (by omega)) ?_)
 rw [xM]
 refine ak (iB (x := 32) (by decide) (by decide)) ?_
 have d := bH (x := 32) (by decide)
 refine (ac (cY (a := bU 32) (b := vb r) (by rw [iA]; omega))).trans ?_
 rw [vf, show mkB (bU (32 : Int).toNat) ++ mkB (vb r) = mkB (bU 32 ++ vb r) from cP _ _]
 refine ak (a := mkB (fzL w c r)) ?_ rfl
 show aV 1000 _ = _
 unfold aV
 have hj : Lib.join (([⟨#[70]⟩, mkB (bU w.toNat), mkB (bU c.toNat), mkB (bU 32 ++ vb r)] : List ByteArray).map (·.data.toList)) (aI : ByteArray).data.toList = fzL w c r := by
  simp [Lib.join, fzL, mkB]
 have hb : (Lib.join (([⟨#[70]⟩, mkB (bU w.toNat), mkB (bU c.toNat), mkB (bU 32 ++ vb r)] : List ByteArray).map (·.data.toList)) (aI : ByteArray).data.toList).length ≤ 140737488355328 := by
  rw [hj]; omega
 refine (ac ⟨by simp, by simp, hb⟩).trans ?_
 exact congrArg (fun l => some (mkB l)) hj
def lfF (f : Fz) : Vh := hsh ([0] ++ fzL f.1 f.2.1 f.2.2)
theorem FQ {w c : Int} (h : qG w c) (r : Vh) : dL 1000 ([⟨#[0]⟩, mkB (fzL w c r)], aj) = some (lfF (w, c, r)) := by
 have hl := tm h r
 have := pA [[0], fzL w c r] (by simp) (by simp; omega)
 simpa [lfF] using this
inductive Stk : Nat → Nat → List Vh → List Vh → Prop
 | zero (j : Nat) : Stk j 0 [] []
 | even {j k : Nat} {ps l : List Vh} : Stk (j + 1) k ps l → Stk j (2 * k) ps l
 | odd {j k : Nat} {ps l1 l2 : List Vh} : l2.length = 2 ^ j → Stk (j + 1) k ps l1 → Stk j (2 * k + 1) (rt 40 l2 :: ps) (l1 ++ l2)
theorem FT {j : Nat} {l t : List Vh} (h : l.length = 2 ^ j) (h1 : 1 ≤ t.length) (h2 : t.length ≤ 2 ^ j) (hb : l.length + t.length ≤ 512) : rt 40 (l ++ t) = sX (rt 40 l) (rt 40 t) := by
 have h0 : 1 ≤ 2 ^ j := Nat.one_le_two_pow
 have hs : sp (l ++ t).length = 2 ^ j := by
  rw [List.length_append]
  exact wF (by omega) (by rw [Nat.pow_succ]; omega)
 rw [FJ (by rw [List.length_append]; omega) (by rw [List.length_append]; omega), hs, ← h, List.take_left, List.drop_left]
theorem HE {j k : Nat} {ps l : List Vh} (h : Stk j k ps l) : l.length = k * 2 ^ j := by
 induction h with
 | zero j => simp
 | @even j k ps l _ ih => rw [ih, Nat.pow_succ, Nat.mul_comm (2 ^ j) 2, ← Nat.mul_assoc, Nat.mul_comm k 2]
 | @odd j k ps l1 l2 h2 _ ih => rw [List.length_append, ih, h2, Nat.add_mul, Nat.pow_succ, Nat.one_mul, Nat.mul_comm (2 ^ j) 2, ← Nat.mul_assoc, Nat.mul_comm k 2]
theorem FV {j k : Nat} {ps l : List Vh} (h : Stk j k ps l) : ∀ t : List Vh, 1 ≤ t.length → t.length ≤ 2 ^ j → l.length + t.length ≤ 512 → ps.foldl (fun r p => sX p r) (rt 40 t) = rt 40 (l ++ t) := by
 induction h with
 | zero j => intro t _ _ _; rw [List.foldl_nil, List.nil_append]
 | even _ ih => intro t h1 h2 h3; exact ih t h1 (by rw [Nat.pow_succ]; omega) h3
 | odd hl _ ih =>
   intro t h1 h2 h3
   rw [List.length_append] at h3
   rw [List.foldl_cons, ← FT hl h1 h2 (by omega), ih _ (by rw [List.length_append]; omega) (by rw [List.length_append, Nat.pow_succ]; omega) (by rw [List.length_append]; omega), List.append_assoc]
theorem zB {j k : Nat} {p : Vh} {ps l : List Vh} (h : Stk j k (p :: ps) l) (hb : l.length ≤ 512) : ps.foldl (fun r p => sX p r) p = rt 40 l := by
 generalize hq : p :: ps = q at h
 induction h with
 | zero j => cases hq
 | even _ ih => exact ih hb hq
 | @odd j' k' ps' l1 l2 hl hs _ =>
   cases hq
   have h0 : 1 ≤ 2 ^ j' := Nat.one_le_two_pow
   rw [List.length_append] at hb
   exact FV hs l2 (by omega) (by rw [Nat.pow_succ]; omega) hb
theorem vi (l : List Vh) (h : l.length ≤ 900) : du 1000 l = some l := by
 have hb : l.length * 32 ≤ 140737488355328 := by omega
 exact ac hb
theorem A6 {j k : Nat} {ps l : List Vh} (h : Stk j k ps l) : ps.length ≤ l.length := by
 induction h with
 | zero j => simp
 | even _ ih => exact ih
 | odd hl _ ih =>
   rename_i j' k' _ _ _ _
   have h0 : 1 ≤ 2 ^ j' := Nat.one_le_two_pow
   rw [List.length_cons, List.length_append]; omega
theorem FW (x : Vh) (l pk : List Vh) (n : Nat) (hs : Stk 0 n pk.reverse l) (hb : l.length ≤ 100) :
 ∃ pk', cJ 1000 (x, (n : Int), aj, pk) = some (((n + 1 : Nat) : Int), ((n + 1 : Nat) : Int), pk') ∧ Stk 0 (n + 1) pk'.reverse (l ++ [x]) := by
 have hn := HE hs
 have hp := A6 hs
 rw [List.length_reverse] at hp
 rw [Nat.pow_zero, Nat.mul_one] at hn
 suffices hk : ∃ r, cJ 1000 (x, (n : Int), aj, pk) = some r ∧ ∃ pk', r = (((n + 1 : Nat) : Int), ((n + 1 : Nat) : Int), pk') ∧ Stk 0 (n + 1) pk'.reverse (l ++ [x]) by
  obtain ⟨_, h1, pk', rfl, h2⟩ := hk
  exact ⟨pk', h1, h2⟩
 unfold cJ
 dsimp only
 rw [qD (show (n : Int) < 1099511627776 by omega), aa, vi pk (by omega), Option.bind_some]
 refine mh (fun d h => ∃ (j k : Nat) (ps l' blk : List Vh), h = ((k : Int), rt 40 blk, ps.reverse) ∧ blk.length = 2 ^ j ∧ Stk j k ps l' ∧ l' ++ blk = l ++ [x] ∧ k < 2 ^ d ∧ d ≤ 10 ∧ ps.length ≤ 100 ∧ ∀ Q, Stk j (k + 1) Q (l ++ [x]) → Stk 0 (n + 1) Q (l ++ [x])) (fun e : Vh × List Vh => Stk 0 (n + 1) (e.1 :: e.2.reverse) (l ++ [x]) ∧ e.2.length ≤ 100) 10 (by omega)
  ⟨0, n, pk.reverse, l, [x], by rw [dg (by simp), List.reverse_reverse]; rfl, rfl, hs, rfl, by show n < 1024; omega, Nat.le_refl 10, by rw [List.length_reverse]; omega, fun Q h => h⟩ ?_ ?_
 ·rintro d _ ⟨j, k, ps, l', blk, rfl, h1, h2, h3, h4, h5, h6, h7⟩
  dsimp only
  rw [ac (show nz 2 by decide)]
  have em : Int.tmod (k : Int) 2 = ((k % 2 : Nat) : Int) := rfl
  rw [em]
  have htot := congrArg List.length h3
  simp only [List.length_append, List.length_singleton] at htot
  cases h2 with
  | zero =>
    rw [cH (by rfl), ag]
    refine .out ⟨?_, by simp⟩
    rw [List.reverse_reverse]
    rw [List.nil_append] at h3
    refine h7 _ ?_
    have := Stk.odd (j := j) (k := 0) (l2 := blk) h1 (Stk.zero (j + 1))
    rw [List.nil_append] at this
    rw [← h3]
    exact this
  | even hs' =>
    rename_i k'
    rw [cH (by omega), ag]
    refine .out ⟨?_, by simpa using h6⟩
    rw [List.reverse_reverse]
    refine h7 _ ?_
    have := Stk.odd (j := j) (k := k') (l2 := blk) h1 hs'
    rw [h3] at this
    exact this
  | odd hl hs' =>
    rename_i k' ps' l1 l2
    rw [cG (by omega), aa]
    have hlen : (rt 40 l2 :: ps').reverse.length = ps'.length + 1 := by simp
    have e1 : WK .i64 (af (rt 40 l2 :: ps').reverse - 1) = ((ps'.length : Nat) : Int) := by
     have : af (rt 40 l2 :: ps').reverse = (ps'.length : Int) + 1 := by unfold af; rw [hlen]; omega
     rw [this, aA (by omega) (by simp at h6; omega)]; omega
    have e2 : at_ TV (rt 40 l2 :: ps').reverse ((ps'.length : Nat) : Int) = rt 40 l2 := by
     rw [cD (t := TV) (by rw [hlen]; omega)]
     simp
    have e3 : (rt 40 l2 :: ps').reverse.take ps'.length = ps'.reverse := by
     rw [List.reverse_cons, List.take_left' (by simp)]
    obtain ⟨d, rfl⟩ : ∃ d', d = d' + 1 := by
     cases d with
     | zero => rw [Nat.pow_zero] at h4; omega
     | succ d => exact ⟨d, rfl⟩
    have ek : WK .i64 (Int.tdiv ((2 * k' + 1 : Nat) : Int) 2) = (k' : Int) := by
     show WK .i64 (((2 * k' + 1) / 2 : Nat) : Int) = _
     rw [show (2 * k' + 1) / 2 = k' by omega]
     have : 2 ^ (d + 1) ≤ 2 ^ 10 := Nat.pow_le_pow_right (by omega) h5
     exact vc (by omega)
    have hpw : 2 ^ (d + 1) = 2 * 2 ^ d := by rw [Nat.pow_succ, Nat.mul_comm]
    rw [e1, e2, ac ⟨by omega, by unfold af; rw [hlen]; omega⟩, ac (rN _), ac (rO _ _), vg, Option.bind_some]
    rw [ac (show KF _ _ from ⟨by omega, by unfold af; rw [hlen]; omega⟩), ac (show nz 2 by decide), cK, e3, ek]
    simp only [List.length_append] at htot
    have hj0 : 1 ≤ 2 ^ j := Nat.one_le_two_pow
    refine .on d (by omega) ⟨j + 1, k', ps', l1, l2 ++ blk, ?_, by rw [List.length_append, hl, h1, Nat.pow_succ]; omega, hs', by rw [← List.append_assoc]; exact h3, by omega, by omega, by simp at h6; omega, fun Q hQ => h7 Q (by have := Stk.even hQ; rw [show 2 * (k' + 1) = 2 * k' + 1 + 1 by omega] at this; exact this)⟩
    rw [FT hl (by omega) (by omega) (by omega)]
 ·rintro ⟨y, ps⟩ ⟨h1, h2⟩
  dsimp only at h1 h2 ⊢
  have e1 : WK .i64 ((n : Int) + 1) = ((n + 1 : Nat) : Int) := by rw [aA (by omega) (by omega)]; omega
  refine ⟨_, (ac (show bu ps [y] 32 by unfold bu; simp; omega)).trans rfl, ps ++ [y], ?_, ?_⟩
  ·rw [e1]
  ·rw [List.reverse_append]; exact h1
structure Inv (all : List Fz) (lv : List Vh) (n : Int) (pk : List Vh) : Prop where
 lv_eq : lv = all.map lfF
 n_eq : n = (all.length : Int)
 stk : Stk 0 all.length pk.reverse lv
 may : ∀ g ∈ all, qG g.1 g.2.1
theorem HF : Inv [] [] 0 [] := ⟨rfl, rfl, Stk.zero 0, fun g h => by cases h⟩
def wG (all : List Fz) : Int := (all.getLast?.map (·.1)).getD (-1)
theorem HG {all : List Fz} (h : all ≠ []) : (at_ TF all ((all.length - 1 : Nat) : Int)).1 = wG all := by
 have hl : 0 < all.length := List.length_pos_iff.2 h
 rw [cD (t := TF) (by omega)]
 unfold wG
 rw [List.getLast?_eq_getElem?, List.getElem?_eq_getElem (by omega)]
 rfl
theorem HH {all : List Fz} (h : all ≠ []) (hb : all.length ≤ 1000) : WK .i64 (af all - 1) = ((all.length - 1 : Nat) : Int) := by
 have hl : 0 < all.length := List.length_pos_iff.2 h
 rw [aA (by unfold af; omega) (by unfold af; omega)]
 unfold af; omega
theorem Di {w c : Int} (r : Vh) (h : qG w c) {all : List Fz} {lv : List Vh} {n : Int} {pk : List Vh} (I : Inv all lv n pk) (hb : all.length ≤ 60) (hw : wG all < w) :
 ∃ lv' n' pk', dv 1000 (w, c, r, aj, all, lv, n, pk) = some ((all.length : Int), 0, n', all ++ [(w, c, r)], lv', pk') ∧ Inv (all ++ [(w, c, r)]) lv' n' pk' := by
 have hlv : lv.length = all.length := by rw [I.lv_eq, List.length_map]
 obtain ⟨pk', h1, h2⟩ := FW (lfF (w, c, r)) lv pk all.length I.stk (by omega)
 refine ⟨lv ++ [lfF (w, c, r)], ((all.length + 1 : Nat) : Int), pk', ?_, ⟨by rw [I.lv_eq, List.map_append]; rfl, by simp, by rw [List.length_append]; exact h2, fun g hg => ?_⟩⟩
 ·unfold dv
  refine ak (A5 h r) ?_
  dsimp only
  have key : (ai (ine (0 : Int) 0) (some (.inl ((0 : Int), (1 : Int)))) (ai (igt (af all) 0) (ae ((inR (WK .i64 ((af all) - 1)) (af all))) (ai (ile w (at_ T0 all (WK .i64 ((af all) - 1))).1) (some (.inl (0, 13))) (some (.inr (()))))) (some (.inr (())))) : Option ((Int × Int) ⊕ (Unit))) = some (.inr ()) := by
   rw [cU (rfl : (0 : Int) = 0), aa]
   by_cases hne : all = []
   ·subst hne; rfl
   ·have hl : 0 < all.length := List.length_pos_iff.2 hne
    rw [ms (show 0 < af all by unfold af; omega), ag, HH hne (by omega), ac ⟨by omega, by unfold af; omega⟩]
    have e : (at_ T0 all ((all.length - 1 : Nat) : Int)).1 = wG all := HG hne
    rw [e, Jo hw, aa]
  refine ak key ?_
  rw [au]
  refine ak (A5 h r) (ak (FQ h r) ?_)
  have t1 : db (af all) all = all := by unfold db af; rw [Int.toNat_natCast, List.take_length]
  have t2 : db (af lv) lv = lv := by unfold db af; rw [Int.toNat_natCast, List.take_length]
  rw [t1, t2]
  refine (ac ⟨by omega, by unfold af; omega, by omega, rfl⟩).trans ?_
  refine (ac (show bu _ _ _ from by unfold bu; simp; omega)).trans ?_
  refine (ac ⟨by omega, by unfold af; omega, by omega, rfl⟩).trans ?_
  refine (ac (show bu _ _ _ from by unfold bu; simp; omega)).trans ?_
  rw [I.n_eq]
  refine ak h1 ?_
  dsimp only
  rw [aA (x := ((all.length + 1 : Nat) : Int) - 1) (by omega) (by omega)]
  congr 2
  omega
 ·rcases List.mem_append.1 hg with hg | hg
  ·exact I.may g hg
  ·rw [List.mem_singleton] at hg; subst hg; exact h
theorem HI (all : List Fz) (w : Int) (lv : List Vh) (n : Int) (pk : List Vh) (hb : all.length ≤ 900) :
 (∃ (i : Nat) (h : i < all.length), ct 1000 (w, all, lv, n, pk) = some ((i : Int), true) ∧ (all[i]).1 = w ∧ ∀ j (hj : j < i), (all[j]'(by omega)).1 ≠ w) ∨
 (ct 1000 (w, all, lv, n, pk) = some (0, false) ∧ ∀ g ∈ all, g.1 ≠ w) := by
 have key : ∃ r, dx 1000 (all, w) = some r ∧ ((∃ (i : Nat) (h : i < all.length), r = (i : Int) ∧ (all[i]).1 = w ∧ ∀ j (hj : j < i), (all[j]'(by omega)).1 ≠ w) ∨ (r = -1 ∧ ∀ g ∈ all, g.1 ≠ w)) := by
  unfold dx
  dsimp only
  refine mh (fun d h => ∃ i : Nat, h = (i : Int) ∧ i + d = all.length ∧ ∀ j (hj : j < all.length), j < i → (all[j]).1 ≠ w) (fun e : Int ⊕ Unit => match e with | .inl r => ∃ (i : Nat) (h : i < all.length), r = (i : Int) ∧ (all[i]).1 = w ∧ ∀ j (hj : j < i), (all[j]'(by omega)).1 ≠ w | .inr _ => ∀ g ∈ all, g.1 ≠ w) all.length (by omega) ⟨0, rfl, by omega, fun j _ h => by omega⟩ ?_ ?_
  ·rintro d _ ⟨i, rfl, hi, hf⟩
   by_cases a : i < all.length
   ·have e1 : at_ T0 all (i : Int) = all[i] := cD (t := TF) a
    rw [bE (show (i : Int) < af all by unfold af; omega), ag, ac ⟨by omega, by unfold af; omega⟩, e1]
    by_cases b : (all[i]).1 = w
    ·rw [cH b, ag]
     exact .out ⟨i, a, rfl, b, fun j hj => hf j (by omega) hj⟩
    ·rw [cG b, aa, aA (by omega) (by omega)]
     exact .on (d - 1) (by omega) ⟨i + 1, by omega, by omega, fun j hj hlt => by
      rcases Nat.lt_or_ge j i with h | h
      ·exact hf j hj h
      ·obtain rfl : j = i := by omega
       exact b⟩
   ·rw [aZ (show af all ≤ (i : Int) by unfold af; omega), aa]
    refine .out ?_
    show ∀ g ∈ all, g.1 ≠ w
    intro g hg
    obtain ⟨j, hj, rfl⟩ := List.mem_iff_getElem.1 hg
    exact hf j hj (by omega)
  ·rintro (r | u) h
   ·exact ⟨r, rfl, .inl h⟩
   ·exact ⟨-1, rfl, .inr ⟨rfl, h⟩⟩
 obtain ⟨r, h1, h2⟩ := key
 have e : ct 1000 (w, all, lv, n, pk) = some (mxI r 0, ige r 0) := ak h1 rfl
 rcases h2 with ⟨i, h, rfl, h3, h4⟩ | ⟨rfl, h3⟩
 ·refine .inl ⟨i, h, ?_, h3, h4⟩
  rw [e, ec (by omega)]
  unfold mxI
  rw [if_neg (by omega)]
 ·exact .inr ⟨e, h3⟩
def nJ (h p : Vh) : Option Vh := ae ((bW ⟨#[1]⟩ (strOfNums (Vector.toList p)))) (ae ((bW (⟨#[1]⟩ ++ (strOfNums (Vector.toList p))) (strOfNums (Vector.toList h)))) ((dL 1000 (([((⟨#[1]⟩ ++ (strOfNums (Vector.toList p))) ++ (strOfNums (Vector.toList h)))] : List ByteArray), aj)).bind fun r1 => some (r1)))
theorem zC (h p : Vh) : nJ h p = some (sX p h) := by
 unfold nJ
 rw [ac (rN _), ac (rO _ _), vg, Option.bind_some]
theorem rR : ∀ (l : List Vh) (r : Vh), je l nJ r = some (l.foldl (fun r p => sX p r) r)
 | [], r => by simp [je]
 | p :: l, r => by
   simp only [je]
   rw [zC, Option.bind_some, rR l, List.foldl_cons]
theorem FX {all : List Fz} {lv : List Vh} {n : Int} {pk : List Vh} (I : Inv all lv n pk) (h0 : all ≠ []) (hb : all.length ≤ 500) : bi 1000 (n, aj, pk) = some (rt 40 lv) := by
 have hl : 0 < all.length := List.length_pos_iff.2 h0
 have hlv : lv.length = all.length := by rw [I.lv_eq, List.length_map]
 have hps := A6 I.stk
 rw [List.length_reverse] at hps
 obtain ⟨p, ps, hpk⟩ : ∃ p ps, pk.reverse = p :: ps := by
  cases hq : pk.reverse with
  | nil =>
    have := I.stk
    rw [hq] at this
    have key : ∀ {j k : Nat} {ps l : List Vh}, Stk j k ps l → ps = [] → k = 0 := by
     intro j k ps l h
     induction h with
     | zero j => intro _; rfl
     | even _ ih => intro e; rw [ih e]
     | odd _ _ _ => intro e; cases e
    have := key this rfl
    omega
  | cons p ps => exact ⟨p, ps, rfl⟩
 have hst := I.stk
 rw [hpk] at hst
 have hroot := zB hst (by omega)
 have hpk2 : pk = ps.reverse ++ [p] := by
  have := congrArg List.reverse hpk
  simpa using this
 have hpl : pk.length = ps.length + 1 := by rw [hpk2]; simp
 unfold bi
 dsimp only
 have e1 : WK .i64 (af pk - 1) = ((ps.length : Nat) : Int) := by
  rw [aA (by unfold af; omega) (by unfold af; omega)]
  unfold af; omega
 have e2 : at_ T1 pk ((ps.length : Nat) : Int) = p := by
  rw [cD (t := TV) (by omega)]
  simp [hpk2]
 have e3 : pk.take ps.length = ps.reverse := by rw [hpk2, List.take_left' (by simp)]
 rw [cG (show n ≠ 0 by rw [I.n_eq]; omega), aa, e1, ac ⟨by omega, by unfold af; omega⟩, ac ⟨by omega, by omega, by unfold af; omega, rfl⟩, cK, e3, e2]
 have hf : je (kc ps.reverse) (fun h q => nJ h q.2) p = some (rt 40 lv) := by
  rw [uX, rR, List.reverse_reverse, hroot]
 exact ak hf (Eq.refl (some (rt 40 lv)))
def pdL (key : List UInt8) : List UInt8 := key ++ List.replicate (64 - key.length) 0
theorem B2 {key : List UInt8} (h : key.length ≤ 64) : (pdL key).length = 64 := by
 unfold pdL; rw [List.length_append, List.length_replicate]; omega
theorem ol (l : List UInt8) : da (mkB l) = (l.length : Int) := by
 show ((mkB l).size : Int) = _
 rw [nH]
def xb (c : Int) (b : UInt8) : Int := cI .u8 (b.toNat : Int) c
def A7 (l : List UInt8) (c : Int) : List UInt8 := l.map fun b => UInt8.ofNat (xb c b).toNat
theorem nK (l : List UInt8) (c : Int) : (A7 l c).length = l.length := by simp [A7]
def zD (key t : List UInt8) : Vh := hsh (A7 (pdL key) 92 ++ vb (hsh (A7 (pdL key) 54 ++ t)))
theorem B3 (key : List UInt8) (h : key.length ≤ 64) : qw 1000 (mkB key, aj) = some (mkB (pdL key)) := by
 unfold qw
 dsimp only
 refine ak (a := mkB key) ((congrArg (ai · _ _) (iS (show da (mkB key) ≤ 64 by rw [ol]; omega))).trans (aa _ _)) ?_
 have e : WK .i64 (64 - da (mkB key)) = ((64 - key.length : Nat) : Int) := by rw [ol, aA (by omega) (by omega)]; omega
 rw [e]
 refine ak (FH (n := 64 - key.length) (by omega)) ?_
 refine (ac (cY (by simp; omega))).trans ?_
 rw [cP]
 rfl
theorem A8 (l : List UInt8) : ce (mkB l) = l.map fun b => (b.toNat : Int) := rfl
theorem qH (c : Int) (l : List UInt8) (h : l.length = 64) : cT 1000 (c, mkB l, aj) = some (cE (A7 l c)) := by
 unfold cT
 dsimp only
 refine (ac (show Fc (mkB l) from by unfold Fc; rw [nH]; omega)).trans ?_
 rw [A8]
 have hll : af (l.map fun b => (b.toNat : Int)) = 64 := by unfold af; simp [h]
 rw [hll]
 refine ak (fq (fun i : Nat => ((i : Int), (l.take i).map (xb c) ++ (l.drop i).map fun b => (b.toNat : Int))) 64 (l.map (xb c)) 1000 (fun i hi => ?_) ?_ (by omega) |> fun h => (by simpa using h)) ?_
 ·have hil : i < l.length := by omega
  have hlen : ((l.take i).map (xb c) ++ (l.drop i).map fun b => (b.toNat : Int)).length = 64 := by simp; omega
  have hin : inR (i : Int) (af ((l.take i).map (xb c) ++ (l.drop i).map fun b => (b.toNat : Int))) := ⟨by omega, by unfold af; rw [hlen]; omega⟩
  have e1 : at_ (.int .u8) ((l.take i).map (xb c) ++ (l.drop i).map fun b => (b.toNat : Int)) (i : Int) = (l[i].toNat : Int) := by
   rw [cD (t := .int .u8) (by rw [hlen]; omega), List.getElem_append_right (by simp; omega)]
   simp [Nat.min_eq_left (Nat.le_of_lt hil)]
  dsimp only
  rw [bE (by omega), ag, ac hin, ac hin, e1, aA (by omega) (by omega)]
  have e2 : bz ((l.take i).map (xb c) ++ (l.drop i).map fun b => (b.toNat : Int)) (i : Int) (cI .u8 (l[i].toNat : Int) c) = (l.take (i + 1)).map (xb c) ++ (l.drop (i + 1)).map fun b => (b.toNat : Int) := by
   unfold bz
   rw [Int.toNat_natCast, List.set_append_right _ _ (by simp; omega)]
   have e3 : i - ((l.take i).map (xb c)).length = 0 := by simp; omega
   rw [e3, List.drop_eq_getElem_cons hil, List.map_cons, List.set_cons_zero, List.take_add_one, List.getElem?_eq_getElem hil, List.map_append]
   simp [xb]
  rw [e2]
  rfl
 ·dsimp only
  rw [aZ (by omega), aa, List.take_of_length_le (by omega), List.drop_eq_nil_of_le (by omega), List.map_nil, List.append_nil]
 ·have e4 : strOfNums (l.map (xb c)) = mkB (A7 l c) := by rw [uY, List.map_map]; rfl
  rw [e4]
  exact ak (sG (A7 l c) (by rw [nK]; omega) _) rfl
theorem B4 (t A B : List UInt8) (ht : t.length ≤ 40000) (hA : A.length = 64) (hB : B.length = 64) :
 fX 1000 (([mkB t] : List ByteArray), aj, (cE A).1, (cE A).2.1, (cE A).2.2.1, (cE A).2.2.2, (cE B).1, (cE B).2.1, (cE B).2.2.1, (cE B).2.2.2) = some (hsh (B ++ vb (hsh (A ++ t)))) := by
 unfold fX
 dsimp only
 refine ak (a := cE (A ++ t)) ?_ ?_
 ·refine fq (fun i : Nat => ((i : Int), if i = 0 then cE A else cE (A ++ t))) 1 _ 1000 (fun i hi => ?_) ?_ (by omega)
  ·obtain rfl : i = 0 := by omega
   rw [if_pos rfl, if_neg (by decide)]
   dsimp only
   rw [bE (show ((0 : Nat) : Int) < af [mkB t] by unfold af; simp), ag, ac ⟨by omega, by unfold af; simp⟩]
   have e1 : at_ .str ([mkB t] : List ByteArray) ((0 : Nat) : Int) = mkB t := rfl
   rw [e1, pz A t (by omega), Option.bind_some]
   rfl
  ·rw [if_neg (by decide)]
   dsimp only
   rw [aZ (show af [mkB t] ≤ ((1 : Nat) : Int) by unfold af; simp), aa]
 ·have hs1 := A4 (cE (A ++ t)) (A ++ t) (by simp; omega) (.inl rfl)
  refine ak hs1 ?_
  rw [vf]
  refine ak (pz B (vb (hsh (A ++ t))) (by rw [iA]; omega)) ?_
  exact ak (A4 (cE (B ++ vb (hsh (A ++ t)))) _ (by rw [List.length_append, iA]; omega) (.inl rfl)) rfl
def qI (n : Nat) (r : Vh) (t : Int) : List UInt8 := ([72] ++ bU n) ++ (bU 32 ++ vb r) ++ bU t.toNat
theorem HJ : ∀ {j k : Nat} {ps l : List Vh}, Stk j k ps l → ps = [] → k = 0 := by
 intro j k ps l h
 induction h with
 | zero j => intro _; rfl
 | even _ ih => intro e; rw [ih e]
 | odd _ _ _ => intro e; cases e
theorem Dj {lv pk : List Vh} (hs : Stk 0 lv.length pk.reverse lv) (hb : lv.length ≤ 500) : bi 1000 ((lv.length : Int), aj, pk) = some (rt 40 lv) := by
 unfold bi
 dsimp only
 by_cases h0 : lv.length = 0
 ·have : lv = [] := List.eq_nil_of_length_eq_zero h0
  subst this
  rw [cH (show (([] : List Vh).length : Int) = 0 from rfl), ag]
  have := pA [] (by simp) (by simp)
  refine ak (pA [] (by simp) (by simp)) ?_
  rw [dg (by simp)]; rfl
 ·have hps := A6 hs
  rw [List.length_reverse] at hps
  obtain ⟨p, ps, hpk⟩ : ∃ p ps, pk.reverse = p :: ps := by
   cases hq : pk.reverse with
   | nil =>
     rw [hq] at hs
     have := HJ hs rfl
     omega
   | cons p ps => exact ⟨p, ps, rfl⟩
  rw [hpk] at hs
  have hroot := zB hs (by omega)
  have hpk2 : pk = ps.reverse ++ [p] := by
   have := congrArg List.reverse hpk
   simpa using this
  have hpl : pk.length = ps.length + 1 := by rw [hpk2]; simp
  have e1 : WK .i64 (af pk - 1) = ((ps.length : Nat) : Int) := by
   rw [aA (by unfold af; omega) (by unfold af; omega)]
   unfold af; omega
  have e2 : at_ TV pk ((ps.length : Nat) : Int) = p := by
   rw [cD (t := TV) (by omega)]
   simp [hpk2]
  have e3 : pk.take ps.length = ps.reverse := by rw [hpk2, List.take_left' (by simp)]
  rw [cG (show (lv.length : Int) ≠ 0 by omega), aa, e1, ac ⟨by omega, by unfold af; omega⟩, ac ⟨by omega, by omega, by unfold af; omega, rfl⟩, cK, e3, e2]
  have hf : je (kc ps.reverse) (fun h q => nJ h q.2) p = some (rt 40 lv) := by
   rw [uX, rR, List.reverse_reverse, hroot]
  exact ak hf (Eq.refl (some (rt 40 lv)))
abbrev Rec := Int × Int × Int × ByteArray
def zE (w i t : Int) (p : ByteArray) : Prop := (0 ≤ w ∧ w ≤ 1125899906842624) ∧ (0 ≤ t ∧ t ≤ 1125899906842624) ∧ (0 ≤ i ∧ i ≤ 3999) ∧ p.size ≤ 2000
def A9 (r : Rec) : List UInt8 := (bU r.1.toNat ++ bU r.2.1.toNat) ++ (bU r.2.2.1.toNat ++ (bU r.2.2.2.size ++ r.2.2.2.data.toList))
theorem Dk (p : ByteArray) : mkB p.data.toList = p := by
 apply rI
 rfl
theorem rS (p : ByteArray) : p.data.toList.length = p.size := by simp
theorem zG {w i t : Int} {p : ByteArray} (h : zE w i t p) : (A9 (w, i, t, p)).length ≤ 2040 := by
 obtain ⟨⟨h1, h2⟩, ⟨h3, h4⟩, ⟨h5, h6⟩, h7⟩ := h
 have a := bH (x := w.toNat) (by omega)
 have b := bH (x := i.toNat) (by omega)
 have c := bH (x := t.toNat) (by omega)
 have d := bH (x := p.size) (by omega)
 unfold A9
 simp only [List.length_append, rS]
 omega
theorem wH {w i t : Int} {p : ByteArray} (h : zE w i t p) : dt 1000 (w, i, t, p) = some 0 := by
 obtain ⟨⟨h1, h2⟩, ⟨h3, h4⟩, ⟨h5, h6⟩, h7⟩ := h
 unfold dt
 dsimp only
 rw [ec h1, ag, iR h2, Bool.not_true, aa, ec h3, ag, iR h4, Bool.not_true, aa, ec h5, ag, iR h6, Bool.not_true, aa, iS (show da p ≤ 2000 by show ((p.size : Nat) : Int) ≤ 2000; omega), aa]
theorem Dl {w i t : Int} {p : ByteArray} (h : zE w i t p) : jo 1000 (w, i, t, p) = some (mkB (A9 (w, i, t, p)), 0) := by
 have hc := wH h
 have hl := zG h
 obtain ⟨⟨h1, h2⟩, ⟨h3, h4⟩, ⟨h5, h6⟩, h7⟩ := h
 unfold A9 at hl ⊢
 simp only [List.length_append, rS] at hl
 unfold jo
 dsimp only
 refine ak hc ?_
 rw [cU (rfl : (0 : Int) = 0), aa]
 have e4 : bh 1000 (WK .u64 (da p)) = some (mkB (bU p.size)) := iB (x := (p.size : Int)) (by omega) (by omega)
 refine ak (iB h1 h2) (ak (iB h5 (by omega)) ?_)
 refine (ac (cY (by omega))).trans ?_
 refine ak (iB h3 h4) (ak e4 ?_)
 have hp := Dk p
 obtain ⟨pl, hpl⟩ : ∃ pl, pl = p.data.toList := ⟨_, rfl⟩
 have hpn : pl.length = p.size := by rw [hpl]; exact rS p
 rw [← hpl] at hp ⊢
 rw [← hp]
 refine (ac (cY (by rw [hpn, hp]; omega))).trans ?_
 rw [cP]
 refine (ac (cY (by rw [List.length_append, hpn, hp]; omega))).trans ?_
 rw [cP, cP]
 refine (ac (cY (by simp only [List.length_append]; rw [hpn, hp]; omega))).trans ?_
 rw [cP]
def lfR (r : Rec) : Vh := hsh ([0] ++ A9 r)
theorem Dm {w i t : Int} {p : ByteArray} (h : zE w i t p) : dL 1000 ([⟨#[0]⟩, mkB (A9 (w, i, t, p))], aj) = some (lfR (w, i, t, p)) := by
 have hl := zG h
 have := pA [[0], A9 (w, i, t, p)] (by simp) (by simp; omega)
 simpa [lfR] using this
theorem La {w i t : Int} {p : ByteArray} (h : zE w i t p) {lv pk : List Vh} {rows : List Rec} (s : Int) (a b : Int) (c : Vh) (d : Int) (e : Vh) (hs : Stk 0 lv.length pk.reverse lv) (hb : lv.length ≤ 60) (hr : rows.length ≤ 60) :
 ∃ pk', fZ 1000 (w, i, t, p, w, s, a, b, c, d, e, aj, lv, rows, (lv.length : Int), pk) = some (w, s, a, b, c, d, e, ((lv.length + 1 : Nat) : Int), lv ++ [lfR (w, i, t, p)], rows ++ [(w, i, t, p)], pk') ∧ Stk 0 (lv.length + 1) pk'.reverse (lv ++ [lfR (w, i, t, p)]) := by
 obtain ⟨pk', h1, h2⟩ := FW (lfR (w, i, t, p)) lv pk lv.length hs (by omega)
 refine ⟨pk', ?_, h2⟩
 unfold fZ
 dsimp only
 refine ak (Dl h) (ak (Dm h) ?_)
 have e1 : db (af lv) lv = lv := by unfold af; rw [cK, List.take_length]
 have e2 : db (af rows) rows = rows := by unfold af; rw [cK, List.take_length]
 rw [e1, e2, ac ⟨by omega, by unfold af; omega, by unfold af; omega, by unfold af; omega⟩, ac (show bu _ _ _ from by unfold bu; simp; omega), ac ⟨by omega, by unfold af; omega, by unfold af; omega, by unfold af; omega⟩, ac (show bu _ _ _ from by unfold bu; simp; omega)]
 exact ak h1 rfl
theorem Lb {w t : Int} {p : ByteArray} {lv pk : List Vh} {rows : List Rec} (h : zE w (lv.length : Int) t p) (a b : Int) (c : Vh) (d : Int) (e : Vh) (hs : Stk 0 lv.length pk.reverse lv) (hb : lv.length ≤ 60) (hr : rows.length ≤ 60) :
 ∃ pk', aS 1000 (t, p, w, 0, a, b, c, d, e, aj, lv, rows, (lv.length : Int), pk) = some ((lv.length : Int), 0, w, 0, a, b, c, d, e, ((lv.length + 1 : Nat) : Int), lv ++ [lfR (w, (lv.length : Int), t, p)], rows ++ [(w, (lv.length : Int), t, p)], pk') ∧ Stk 0 (lv.length + 1) pk'.reverse (lv ++ [lfR (w, (lv.length : Int), t, p)]) := by
 obtain ⟨pk', h1, h2⟩ := La h 0 a b c d e hs hb hr
 refine ⟨pk', ?_, h2⟩
 unfold aS
 dsimp only
 rw [cU (rfl : (0 : Int) = 0), aa, qD (show af lv < 4000 by unfold af; omega), aa]
 refine ak (wH h) ?_
 rw [cU (rfl : (0 : Int) = 0), aa]
 exact ak h1 rfl
theorem wI (l : List Rec) (h : l.length ≤ 900) : gZ 1000 l = some l := by
 have hb : l.length * 40 ≤ 140737488355328 := by omega
 exact ac hb
abbrev z32 : Vh := Vector.replicate 32 0
def dR (w c : Int) (r : Vh) (t : Int) : List UInt8 := ([84] ++ (bU (fzL w c r).length ++ fzL w c r)) ++ bU t.toNat
theorem pB {w c : Int} (h : qG w c) (r : Vh) {t : Int} (h0 : 0 ≤ t) (h1 : t ≤ 1125899906842624) : (dR w c r t).length ≤ 100 := by
 have a := tm h r
 have b := bH (x := t.toNat) (by omega)
 have d := bH (x := (fzL w c r).length) (by omega)
 unfold dR
 simp only [List.length_append, List.length_cons, List.length_nil]
 omega
theorem zI {w c : Int} (h : qG w c) (r : Vh) {t : Int} (h0 : 0 ≤ t) (h1 : t ≤ 1125899906842624) (m : Vh) : eE 1000 (w, c, r, t, m) = some (mkB (dR w c r t), 0) := by
 have a := tm h r
 have b := bH (x := t.toNat) (by omega)
 have d := bH (x := (fzL w c r).length) (by omega)
 have hl := pB h r h0 h1
 unfold eE
 refine ak (A5 h r) ?_
 dsimp only
 rw [cU rfl, aa, ec h0, ag, iR h1, Bool.not_true, aa]
 have e1 : bh 1000 (WK .u64 (da (mkB (fzL w c r)))) = some (mkB (bU (fzL w c r).length)) := by
  rw [ol]
  exact iB (x := ((fzL w c r).length : Int)) (by omega) (by omega)
 refine ak e1 ?_
 rw [ac (cY (by omega)), cP]
 refine ak (iB h0 h1) ?_
 refine ak (a := mkB (dR w c r t)) ?_ rfl
 show aV 1000 _ = _
 unfold aV
 have hj : Lib.join (([⟨#[84]⟩, mkB (bU (fzL w c r).length ++ fzL w c r), mkB (bU t.toNat)] : List ByteArray).map (·.data.toList)) (aI : ByteArray).data.toList = dR w c r t := by
  simp [Lib.join, dR, mkB]
 have hb : (Lib.join (([⟨#[84]⟩, mkB (bU (fzL w c r).length ++ fzL w c r), mkB (bU t.toNat)] : List ByteArray).map (·.data.toList)) (aI : ByteArray).data.toList).length ≤ 140737488355328 := by
  rw [hj]; omega
 refine (ac ⟨by simp, by simp, hb⟩).trans ?_
 exact congrArg (fun l => some (mkB l)) hj
theorem Dn {w c : Int} (h : qG w c) (r : Vh) {t : Int} (h0 : 0 ≤ t) (h1 : t ≤ 1125899906842624) (m : Vh) : gb 1000 (w, c, r, t, m) = some (mkB (dR w c r t ++ (bU 32 ++ vb m)), 0) := by
 have hl := pB h r h0 h1
 have d := bH (x := 32) (by decide)
 unfold gb
 refine ak (zI h r h0 h1 m) ?_
 dsimp only
 rw [cU rfl, aa, xM]
 refine ak (iB (x := 32) (by decide) (by decide)) ?_
 refine (ac (cY (a := bU 32) (b := vb m) (by rw [iA]; omega))).trans ?_
 rw [vf, show mkB (bU (32 : Int).toNat) ++ mkB (vb m) = mkB (bU 32 ++ vb m) from cP _ _]
 refine ak (a := mkB (dR w c r t ++ (bU 32 ++ vb m))) ?_ rfl
 show aV 1000 _ = _
 unfold aV
 have hj : Lib.join (([mkB (dR w c r t), mkB (bU 32 ++ vb m)] : List ByteArray).map (·.data.toList)) (aI : ByteArray).data.toList = dR w c r t ++ (bU 32 ++ vb m) := by
  simp [Lib.join, mkB]
 have hb : (Lib.join (([mkB (dR w c r t), mkB (bU 32 ++ vb m)] : List ByteArray).map (·.data.toList)) (aI : ByteArray).data.toList).length ≤ 140737488355328 := by
  rw [hj]; simp only [List.length_append, iA]; omega
 refine (ac ⟨by simp, by simp, hb⟩).trans ?_
 exact congrArg (fun l => some (mkB l)) hj
def zJ (k : Int) (n : Nat) : Nat := min k.toNat n
theorem xN {k w : Int} {lv pk : List Vh} {rows : List Rec} {n : Int} (a b : Int) (c : Vh) (d : Int) (e : Vh) (hr : rows.length ≤ 900) : dY 1000 (k, w, 2, a, b, c, d, e, lv, rows, n, pk) = some (((rows.length - zJ k rows.length : Nat) : Int), w, 2, a, b, c, d, e, lv, rows.take (rows.length - zJ k rows.length)) := by
 unfold dY
 dsimp only
 have e1 : mnI (mxI k 0) (af rows) = ((zJ k rows.length : Nat) : Int) := by
  unfold mnI mxI zJ af
  split <;> split <;> omega
 have hc : zJ k rows.length ≤ rows.length := Nat.min_le_right ..
 have e2 : WK .i64 (af rows - mnI (mxI k 0) (af rows)) = ((rows.length - zJ k rows.length : Nat) : Int) := by
  rw [e1, aA (by unfold af; omega) (by unfold af; omega)]; unfold af; omega
 rw [e2]
 refine ak (a := (w, 2, a, b, c, d, e, lv, rows.take (rows.length - zJ k rows.length))) ((congrArg (ai · _ _) (cH rfl)).trans ((ag _ _).trans ((ac ⟨by omega, by omega, by unfold af; omega, by omega⟩).trans ?_))) ?_
 ·rw [cK]
  exact ak (wI _ (by rw [List.length_take]; omega)) rfl
 ·dsimp only
  unfold af
  rw [List.length_take, Nat.min_eq_left (by omega)]
theorem xO {w s : Int} {lv pk : List Vh} {rows : List Rec} (a b : Int) (c : Vh) (d : Int) (e : Vh) (hst : Stk 0 lv.length pk.reverse lv) (hb : lv.length ≤ 500) : cq 1000 (w, s, a, b, c, d, e, aj, lv, rows, (lv.length : Int), pk) = some (w, (lv.length : Int), rt 40 lv) := by
 unfold cq
 exact ak (Dj hst hb) rfl
theorem FY {w : Int} {lv pk : List Vh} {rows : List Rec} (a b : Int) (c : Vh) (d : Int) (e : Vh) (hst : Stk 0 lv.length pk.reverse lv) (hb : lv.length ≤ 500) (h0 : 1 ≤ lv.length) : dX 1000 (w, 0, a, b, c, d, e, aj, lv, rows, (lv.length : Int), pk) = some (w, (lv.length : Int), rt 40 lv, 0, w, 1, a, b, c, d, e, lv, rows) := by
 unfold dX
 dsimp only
 rw [cU rfl, aa, cG (show af lv ≠ 0 by unfold af; omega), aa]
 exact ak (xO a b c d e hst hb) rfl
theorem FZ {w t : Int} {m : Vh} {lv pk : List Vh} {rows : List Rec} (a b : Int) (c : Vh) (d : Int) (e : Vh) (hst : Stk 0 lv.length pk.reverse lv) (hb : lv.length ≤ 500) (hF : qG w (lv.length : Int)) (h0 : 0 ≤ t) (h1 : t ≤ 1125899906842624) :
 bX 1000 (w, (lv.length : Int), rt 40 lv, t, m, w, 1, a, b, c, d, e, aj, lv, rows, (lv.length : Int), pk) = some (0, w, 2, w, (lv.length : Int), rt 40 lv, t, m, lv, rows) := by
 unfold bX
 dsimp only
 rw [cU rfl, aa]
 refine ak (Dn hF _ h0 h1 m) ?_
 dsimp only
 rw [cU rfl, aa]
 refine ak (xO a b c d e hst hb) ?_
 dsimp only
 rw [vh, cH rfl, cH rfl]
 rfl
theorem Ga (k : Nat) {n : Nat} (h0 : 2 ≤ n) (h : n ≤ 1099511627776) : bits_Len64 k (WK .u64 (WK .i64 ((n : Int) - 1))) = some ((Nat.log2 (n - 1) + 1 : Nat) : Int) := by
 rw [aA (by omega) (by omega), A3 (by omega) (by omega)]
 show bA k _ = _
 unfold bA
 rw [ac ⟨by omega, by omega⟩]
 have e : ((n : Int) - 1).toNat = n - 1 := by omega
 rw [e, zy (n - 1) (by omega) (by omega)]
theorem B5 {n : Nat} (h0 : 2 ≤ n) (h : n ≤ 1099511627776) : WK .i64 (((Nat.log2 (n - 1) + 1 : Nat) : Int) - 1) = ((Nat.log2 (n - 1) : Nat) : Int) ∧ cj .i64 1 ((Nat.log2 (n - 1) : Nat) : Int) = ((sp n : Nat) : Int) := by
 have := Dg h0 h
 refine ⟨?_, HD _ (by omega)⟩
 rw [aA (by omega) (by omega)]
 omega
def stp (w : Bool) : Nat → Nat → Nat → List (Bool × Nat × Nat)
 | 0, _, _ => []
 | d + 1, m, n => if n < 2 ∨ (w = true ∧ m = n) then [] else if m < sp n ∨ (w = true ∧ m = sp n) then (false, sp n, m) :: stp w d m (sp n) else (true, n - sp n, m - sp n) :: stp w d (m - sp n) (n - sp n)
theorem qJ (w : Bool) : ∀ d m n, (stp w d m n).length ≤ d
 | 0, _, _ => by simp [stp]
 | d + 1, m, n => by
   have h1 := qJ w d m (sp n)
   have h2 := qJ w d (m - sp n) (n - sp n)
   simp only [stp]
   split
   ·simp
   ·split <;> simp <;> omega
abbrev sY (p : Bool × Nat × Nat) : Bool × Int × Int := (p.1, (p.2.1 : Int), (p.2.2 : Int))
def plc (w : Bool) (m n : Nat) : Prop := if w = true then 1 ≤ m ∧ m ≤ n else m < n
theorem tp {w : Bool} {m n : Nat} (h : n < 2 ∨ (w = true ∧ m = n)) (d : Nat) : stp w d m n = [] := by
 cases d with
 | zero => rfl
 | succ d => simp only [stp, if_pos h]
theorem Gb {w : Bool} {m n : Nat} (hp : plc w m n) (b : m < sp n ∨ (w = true ∧ m = sp n)) : plc w m (sp n) := by
 unfold plc at *
 cases w
 ·simp at b hp ⊢; exact b
 ·simp at b hp ⊢; omega
theorem Do {w : Bool} {m n : Nat} (h2 : 2 ≤ n) (hp : plc w m n) (b : ¬ (m < sp n ∨ (w = true ∧ m = sp n))) : plc w (m - sp n) (n - sp n) := by
 have := jq h2
 unfold plc at *
 cases w
 ·simp at b hp ⊢; omega
 ·simp at b hp ⊢; omega
theorem B6 {w : Bool} {m n : Nat} (hp : plc w m n) (hn : n ≤ 1099511627776) : lu 1000 ((m : Int), (n : Int), w) = some ((stp w 40 m n).map sY) := by
 obtain ⟨L, hL⟩ : ∃ L, L = (stp w 40 m n).map sY := ⟨_, rfl⟩
 rw [← hL]
 unfold lu
 refine dH (fun d h => ∃ (m n : Nat) (out : List (Bool × Int × Int)), h = ((m : Int), (n : Int), out) ∧ n ≤ 2 ^ d ∧ n ≤ 1099511627776 ∧ plc w m n ∧ out.length + d ≤ 40 ∧ out ++ (stp w d m n).map sY = L) (fun e => e.2.2 = L) 40 (by omega) ⟨m, n, [], rfl, hn, hn, hp, by simp, by simp [hL]⟩ ?_ (fun e he => by rw [he])
 clear hL hp hn
 rintro d _ ⟨m, n, out, rfl, h1, h2, h3, h4, h5⟩
 dsimp only
 by_cases a : n < 2 ∨ (w = true ∧ m = n)
 ·have e1 : (ai (ilt (n : Int) 2) (some (.inl ())) (ai w (ai (ieq (m : Int) (n : Int)) (some (.inl ())) (some (.inr (())))) (some (.inr (())))) : Option ((Unit) ⊕ (Unit))) = some (.inl ()) := by
   by_cases a1 : n < 2
   ·rw [bE (by omega), ag]
   ·obtain ⟨rfl, rfl⟩ := a.resolve_left a1
    rw [aZ (by omega), aa, ag, cH rfl, ag]
  rw [e1]
  simp only [Option.bind_some, bY]
  refine .out ?_
  rw [tp a] at h5
  simpa using h5
 ·have a1 : 2 ≤ n := by omega
  have e1 : (ai (ilt (n : Int) 2) (some (.inl ())) (ai w (ai (ieq (m : Int) (n : Int)) (some (.inl ())) (some (.inr (())))) (some (.inr (())))) : Option ((Unit) ⊕ (Unit))) = some (.inr ()) := by
   rw [aZ (by omega), aa]
   cases w
   ·rfl
   ·rw [ag, cG (by simp at a; omega), aa]
  rw [e1]
  obtain ⟨d, rfl⟩ := ve a1 h1
  obtain ⟨s1, s2, s3⟩ := jq a1
  have s4 := B1 a1 h1
  simp only [Option.bind_some, au, aZ (show (2 : Int) ≤ (n : Int) by omega), aa, Ga 1000 a1 h2, (B5 a1 h2).1, (B5 a1 h2).2]
  rw [ac (show nn ((Nat.log2 (n - 1) : Nat) : Int) by unfold nn; omega)]
  simp only [stp, if_neg a] at h5
  have ap : ∀ x : Bool × Int × Int, bu out [x] 24 := fun x => by unfold bu; simp; omega
  have r1 : WK .i64 ((m : Int) - (sp n : Nat)) = (m : Int) - (sp n : Nat) := aA (by unfold plc at h3; cases w <;> simp at h3 <;> omega) (by unfold plc at h3; cases w <;> simp at h3 <;> omega)
  have r2 : WK .i64 ((n : Int) - (sp n : Nat)) = ((n - sp n : Nat) : Int) := by rw [aA (by omega) (by omega)]; omega
  by_cases b : m < sp n ∨ (w = true ∧ m = sp n)
  ·rw [if_pos b] at h5
   have key : Goes (fun d h => ∃ (m n : Nat) (out : List (Bool × Int × Int)), h = ((m : Int), (n : Int), out) ∧ n ≤ 2 ^ d ∧ n ≤ 1099511627776 ∧ plc w m n ∧ out.length + d ≤ 40 ∧ out ++ (stp w d m n).map sY = L) (fun e : Int × Int × List (Bool × Int × Int) => e.2.2 = L) (d + 1) (some (.inl ((m : Int), (sp n : Int), out ++ [(false, (sp n : Int), (m : Int))]))) :=
    .on d (by omega) ⟨m, sp n, _, rfl, s4, by omega, Gb h3 b, by simp; omega, by simpa [sY] using h5⟩
   by_cases b1 : m < sp n
   ·rw [bE (by omega), ag, ac (ap _)]
    exact key
   ·obtain ⟨rfl, b2⟩ := b.resolve_left b1
    rw [aZ (by omega), aa, ag, cH (by omega), ag, ac (ap _)]
    exact key
  ·rw [if_neg b] at h5
   have hm : sp n ≤ m := by omega
   have r1' : WK .i64 ((m : Int) - (sp n : Nat)) = ((m - sp n : Nat) : Int) := by rw [r1]; omega
   have key : Goes (fun d h => ∃ (m n : Nat) (out : List (Bool × Int × Int)), h = ((m : Int), (n : Int), out) ∧ n ≤ 2 ^ d ∧ n ≤ 1099511627776 ∧ plc w m n ∧ out.length + d ≤ 40 ∧ out ++ (stp w d m n).map sY = L) (fun e : Int × Int × List (Bool × Int × Int) => e.2.2 = L) (d + 1) (some (.inl (((m - sp n : Nat) : Int), ((n - sp n : Nat) : Int), out ++ [(true, ((n - sp n : Nat) : Int), ((m - sp n : Nat) : Int))]))) :=
    .on d (by omega) ⟨m - sp n, n - sp n, _, rfl, by omega, by omega, Do a1 h3 b, by simp; omega, by simpa [sY] using h5⟩
   rw [aZ (by omega), aa, r1', r2]
   cases w
   ·rw [aa, ac (ap _)]
    exact key
   ·rw [ag, cG (by simp at b; omega), aa, ac (ap _)]
    exact key
theorem Gc (l : List (Bool × Int × Int)) (hl : l.length ≤ 900) : ∃ r, dy 1000 l = some r ∧ ige r 0 = l.any (·.1) := by
 unfold dy
 refine mh (fun d h => ∃ i : Nat, h = (i : Int) ∧ i + d = l.length ∧ ∀ j (hj : j < l.length), j < i → (l[j]).1 = false) (fun e => match e with | .inl i => 0 ≤ i ∧ l.any (·.1) = true | .inr _ => l.any (·.1) = false) l.length (by omega) ⟨0, rfl, by omega, fun j _ h => by omega⟩ ?_ ?_
 ·rintro d _ ⟨i, rfl, hi, hf⟩
  by_cases a : i < l.length
  ·have e1 : at_ (.pair .bool (.pair (.int .i64) (.int .i64))) l (i : Int) = l[i] := cD (t := .pair .bool (.pair (.int .i64) (.int .i64))) a
   rw [bE (show (i : Int) < af l by unfold af; omega), ag, ac ⟨by omega, by unfold af; omega⟩]
   by_cases b : (l[i]).1 = true
   ·have e2 : (at_ T8 l (i : Int)).1 = true := (congrArg (·.1) e1).trans b
    rw [e2, ag]
    exact .out ⟨by omega, List.any_eq_true.2 ⟨l[i], List.getElem_mem a, b⟩⟩
   ·have b' : (l[i]).1 = false := by simpa using b
    have e2 : (at_ T8 l (i : Int)).1 = false := (congrArg (·.1) e1).trans b'
    rw [e2, aa, aA (by omega) (by omega)]
    exact .on (d - 1) (by omega) ⟨i + 1, by omega, by omega, fun j hj hlt => by
     rcases Nat.lt_or_ge j i with h | h
     ·exact hf j hj h
     ·obtain rfl : j = i := by omega
      exact b'⟩
  ·rw [aZ (show af l ≤ (i : Int) by unfold af; omega), aa]
   refine .out ?_
   show l.any (·.1) = false
   rw [List.any_eq_false]
   intro x hx
   obtain ⟨j, hj, rfl⟩ := List.mem_iff_getElem.1 hx
   have := hf j hj (by omega)
   rw [this]
   decide
 ·rintro (i | u) h
  ·exact ⟨i, rfl, by rw [h.2]; exact ec h.1⟩
  ·exact ⟨-1, rfl, by rw [show l.any (·.1) = false from h]; rfl⟩
theorem qK {w : Bool} {d m n : Nat} (a : ¬ (n < 2 ∨ (w = true ∧ m = n))) (b : m < sp n ∨ (w = true ∧ m = sp n)) : stp w (d + 1) m n = (false, sp n, m) :: stp w d m (sp n) := by
 rw [stp, if_neg a, if_pos b]
theorem om {w : Bool} {d m n : Nat} (a : ¬ (n < 2 ∨ (w = true ∧ m = n))) (b : ¬ (m < sp n ∨ (w = true ∧ m = sp n))) : stp w (d + 1) m n = (true, n - sp n, m - sp n) :: stp w d (m - sp n) (n - sp n) := by
 rw [stp, if_neg a, if_neg b]
end Go.Proofs.YtlepjakmadlkjaaGreatDoor
