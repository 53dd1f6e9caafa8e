/- Texts of the proof, put together: part 8. No condition. -/
import Derived.Test.YtlepjakmadlkjaaGreatDoorT7
import Derived.Test.YtlepjakmadlkjaaGreatDoorRows
import Derived.WalkKit
import Derived.ProofKit
import Derived.OpenShut
import Derived.ShutString
import Derived.ChangeOld
import Derived.SizedLaws
import Derived.Deep.Slices
import Derived.LaidMore
import Derived.Lib.LaidTab
import Derived.Stop.Joined
import Derived.Lib.BitFns
import Derived.Lib.ItoaNum
set_option linter.unusedVariables false
set_option linter.unusedSimpArgs false
namespace Go.Proofs.YtlepjakmadlkjaaGreatDoor
open Go Go.WideShapes Go.ChangeShapes
mutual
def zK (P : Program) : Nat → TypeId → Ty → Bool
 | 0, _, _ => false
 | d + 1, t, u => match P.underlying t with
   | some .bool => decide (u = .bool)
   | some (.int k) => decide (u = .int k)
   | some .string => decide (u = .str)
   | some (.array n e) => match u with
     | .arr m v => decide (n = m) && v.flat && zK P d e v && decide (n * P.cellsOf e = P.cellsOf t) && decide (P.cellsOf e = v.sz)
     | _ => false
   | some (.slice e) => match u with
     | .sl e' v => decide (e = e') && zK P d e v && decide (P.cellsOf e = v.sz)
     | _ => false
   | some (.struct fs) => chkF P d 0 fs.toList u (P.cellsOf t)
   | _ => false
def chkF (P : Program) : Nat → Nat → List Field → Ty → Nat → Bool
 | 0, _, _, _, _ => false
 | _ + 1, off, [], u, n => decide (u = .unit) && decide (off = n)
 | d + 1, off, [f], u, n => decide (f.offset = off) && zK P d f.type u && decide (off + P.cellsOf f.type = n)
 | d + 1, off, f :: g :: fs, u, n => match u with
   | .pair a b => decide (f.offset = off) && zK P d f.type a && chkF P d (off + P.cellsOf f.type) (g :: fs) b n
   | _ => false
end
def wfT : (u : Ty) → u.den → Prop
 | .int k, x => (Lit.int k x).wf = true
 | .bool, _ => True
 | .str, s => s.size ≤ 9223372036854775807
 | .unit, _ => True
 | .arr n t, v => ∀ i : Fin n, wfT t (v.get i)
 | .pair a b, x => wfT a x.1 ∧ wfT b x.2
 | .sl _ t, l => l.length ≤ 9223372036854775807 ∧ ∀ x ∈ l, wfT t x
def tc (F : List Fact) (w : World) : Prop := ∀ f ∈ F, Rds f.v f.n f.sz f.cs w
section
variable {H : Type} {enc : TypeId × Value → H} {P : Program} {w : World} {base : Nat} {held : Bool}
theorem wT {F G : List Fact} (h : tc F w) (k : tc G w) : tc (F ++ G) w := fun f hf => by
 rcases List.mem_append.1 hf with hf | hf
 ·exact h f hf
 ·exact k f hf
mutual
theorem ol : ∀ (d fuel : Nat) (t : TypeId) (u : Ty) (cs : List Value) (x : DataW H × List MemPlace), zK P d t u = true → DataW.trod enc P w base (fun _ => true) held fuel t cs = some x →
 ∃ (y : u.den) (F : List Fact), gL u y cs F ∧ tc F w ∧ wfT u y
 | 0, _, _, _, _, _, h, _ => by simp [zK] at h
 | d + 1, fuel, t, u, cs, x, h, hx => by
   simp only [zK] at h
   split at h
   ·rename_i hu
    obtain rfl := of_decide_eq_true h
    obtain ⟨b, rfl, _⟩ := DataW.trod_bool hu hx
    exact ⟨b, [], ⟨rfl, rfl⟩, (fun f hf => by cases hf), trivial⟩
   ·rename_i k hu
    obtain rfl := of_decide_eq_true h
    obtain ⟨n, rfl, _, hw⟩ := DataW.trod_int hu hx
    exact ⟨n, [], ⟨rfl, rfl⟩, (fun f hf => by cases hf), hw⟩
   ·rename_i hu
    obtain rfl := of_decide_eq_true h
    obtain ⟨s, rfl, _, hw⟩ := DataW.trod_string hu hx
    exact ⟨s, [], ⟨rfl, rfl⟩, (fun f hf => by cases hf), hw⟩
   ·rename_i n e hu
    split at h
    ·rename_i m v
     simp only [Bool.and_eq_true, decide_eq_true_eq] at h
     obtain ⟨⟨⟨⟨rfl, hfl⟩, hc⟩, hsz⟩, hv⟩ := h
     obtain ⟨xs, m, rfl, _, hl, hlen, hm⟩ := DataW.trod_array hu hx
     have one : ∀ i, i < n → ∃ y : v.den, (cs.drop (i * v.sz)).take v.sz = (am v).cells y ∧ wfT v y := by
      intro i hi
      have hlt : i < xs.length := by omega
      obtain ⟨y, F, h1, h2, h3⟩ := ol d m e v _ xs[i] hc (by rw [hm i hi, List.getElem?_eq_getElem hlt])
      rw [hv] at h1
      exact ⟨y, ((dH v hfl _ _ _).1 h1).1, h3⟩
     haveI : Inhabited v.den := ⟨v.dflt⟩
     obtain ⟨f, hf⟩ := Go.Deep.choose_lt one
     refine ⟨Vector.ofFn (fun i : Fin n => f i.1), [], ⟨?_, rfl⟩, (fun f hf => by cases hf), fun i => ?_⟩
     ·have har : arL (am v).dflt n (Vector.ofFn (fun i : Fin n => f i.1)) = (List.range n).map f := by
       unfold arL
       apply List.map_congr_left
       intro i hi
       have hi : i < n := by simpa using hi
       have h1 : (Vector.ofFn (fun i : Fin n => f i.1)).toArray.size = n := by simp
       simp only [Array.getD, h1, hi, dif_pos]
       simp [Array.getInternal_eq_getElem]
      have hcs : ∀ k, k ≤ n → ((List.range k).map f).flatMap (am v).cells = cs.take (k * v.sz) := by
       intro k
       induction k with
       | zero => intro _; simp
       | succ k ih =>
         intro hk
         rw [List.range_succ, List.map_append, List.flatMap_append, ih (by omega)]
         simp only [List.map_cons, List.map_nil, List.flatMap_cons, List.flatMap_nil, List.append_nil]
         rw [← (hf k (by omega)).1, Nat.add_mul, Nat.one_mul, List.take_add]
      show cs = (arL (am v).dflt n _).flatMap (am v).cells
      rw [har, hcs n (Nat.le_refl _), List.take_of_length_le]
      rw [hl, ← hsz, hv]; exact Nat.le_refl _
     ·have : (Vector.ofFn (fun i : Fin n => f i.1)).get i = f i.1 := by
       simp only [Vector.get]
       simp
       first | rfl | done
      rw [this]; exact (hf i.1 i.2).2
    ·cases h
   ·rename_i e hu
    split at h
    ·rename_i e' v
     simp only [Bool.and_eq_true, decide_eq_true_eq] at h
     obtain ⟨⟨rfl, hc⟩, hv⟩ := h
     rcases Go.Deep.open_slice hu hx with ⟨h0, _⟩ | ⟨a, len, cap, m, n, D, Pl, hcs, hb, hl, hm, hmm, _, hel⟩
     ·subst h0
      exact ⟨[], [⟨.slice none 0 0, 0, v.sz, []⟩], ⟨_, [], [], rfl, ⟨none, 0, rfl, fun _ => rfl⟩, rfl, rfl, rfl⟩, (fun f hf => by
       simp only [List.mem_singleton] at hf; subst hf; exact mb _ _), by simp, by simp⟩
     ·subst hcs
      have hm' : len ≤ m := by rw [hmm]; split <;> omega
      have one : ∀ i, i < len → ∃ y : v.den × List Value × List Fact, w.cells? base (a.add (i * v.sz)) v.sz = some y.2.1 ∧ gL v y.1 y.2.1 y.2.2 ∧ tc y.2.2 w ∧ wfT v y.1 := by
       intro i hi
       obtain ⟨cs', h1, h2⟩ := hel i (by omega)
       rw [hv] at h1
       obtain ⟨y, F, k1, k2, k3⟩ := ol d n e v cs' _ hc h2
       exact ⟨(y, cs', F), h1, k1, k2, k3⟩
      haveI : Inhabited (v.den × List Value × List Fact) := ⟨(v.dflt, [], [])⟩
      obtain ⟨f, hf⟩ := Go.Deep.choose_lt one
      have build : ∀ k, k ≤ len → ∃ css F, gn (gL v) ((List.range k).map fun i => (f i).1) css F ∧ tc F w ∧ css.length = k * v.sz ∧ ∀ j c, css[j]? = some c → w.cell? (a.add j) = some c := by
       intro k
       induction k with
       | zero => intro _; exact ⟨[], [], ⟨rfl, rfl⟩, (fun f hf => by cases hf), by simp, by simp⟩
       | succ k ih =>
         intro hk
         obtain ⟨css, F, r1, r2, r3, r4⟩ := ih (by omega)
         obtain ⟨c1, c2, c3, _⟩ := hf k (by omega)
         obtain ⟨_, hcl, hce⟩ := World.cells?_some c1
         refine ⟨css ++ (f k).2.1, F ++ (f k).2.2, ?_, wT r2 c3, ?_, fun j c hj => ?_⟩
         ·rw [List.range_succ, List.map_append]
          refine ud _ _ _ _ _ _ r1 ?_
          exact ⟨(f k).2.1, [], (f k).2.2, [], by simp, by simp, c2, rfl, rfl⟩
         ·rw [List.length_append, r3, gS v _ _ _ c2, Nat.add_mul, Nat.one_mul]
         ·by_cases hlt : j < k * v.sz
          ·rw [List.getElem?_append_left (by omega)] at hj
           exact r4 j c hj
          ·rw [List.getElem?_append_right (by omega), r3] at hj
           have hlt2 := (List.getElem?_eq_some_iff.1 hj).1
           rw [gS v _ _ _ c2] at hlt2
           have := hce (j - k * v.sz) hlt2
           rw [hj, Go.Deep.add_add] at this
           rw [← this]; congr 2; omega
      obtain ⟨css, F, r1, r2, r3, r4⟩ := build len (Nat.le_refl _)
      have hlen : ((List.range len).map fun i => (f i).1).length = len := by simp
      have hmx : cap ≤ 9223372036854775807 := by unfold maxLen at hm; omega
      refine ⟨(List.range len).map fun i => (f i).1, ⟨.slice (some a) len cap, len, v.sz, css⟩ :: F, ⟨_, css, F, rfl, ⟨some a, cap, by rw [hlen], fun h => by cases h⟩, by rw [hlen], r1⟩, fun f0 hf0 => ?_, ?_, ?_⟩
      ·rcases List.mem_cons.1 hf0 with rfl | hf0
       ·exact ⟨r3, some a, cap, rfl, hl, hmx, (fun h => by cases h), fun j u hu => ⟨a, rfl, r4 j u hu⟩⟩
       ·exact r2 f0 hf0
      ·rw [hlen]; omega
      ·intro y hy
       simp only [List.mem_map, List.mem_range] at hy
       obtain ⟨i, hi, rfl⟩ := hy
       exact (hf i hi).2.2.2
    ·cases h
   ·rename_i fs hu
    obtain ⟨xs, m, rfl, _, hl, hlen, hm⟩ := DataW.trod_struct hu hx
    have := open_repF d m 0 fs.toList u (P.cellsOf t) cs h hl (fun i f hi => ?_)
    ·simpa using this
    ·have hi' : fs[i]? = some f := by simpa using hi
     have hlt : i < xs.length := by rw [hlen]; exact (Array.getElem?_eq_some_iff.1 hi').1
     exact ⟨xs[i], by rw [hm i f hi', List.getElem?_eq_getElem hlt]⟩
   ·cases h
theorem open_repF : ∀ (d fuel off : Nat) (fs : List Field) (u : Ty) (n : Nat) (cs : List Value), chkF P d off fs u n = true → cs.length = n →
 (∀ (i : Nat) f, fs[i]? = some f → ∃ y, DataW.trod enc P w base (fun _ => true) held fuel f.type ((cs.drop f.offset).take (P.cellsOf f.type)) = some y) →
 ∃ (y : u.den) (F : List Fact), gL u y (cs.drop off) F ∧ tc F w ∧ wfT u y
 | 0, _, _, _, _, _, _, h, _, _ => by simp [chkF] at h
 | d + 1, fuel, off, [], u, n, cs, h, hl, _ => by
   simp only [chkF, Bool.and_eq_true, decide_eq_true_eq] at h
   obtain ⟨rfl, rfl⟩ := h
   exact ⟨(), [], ⟨by simp [am, FU, ← hl], rfl⟩, (fun f hf => by cases hf), trivial⟩
 | d + 1, fuel, off, [f], u, n, cs, h, hl, hm => by
   simp only [chkF, Bool.and_eq_true, decide_eq_true_eq] at h
   obtain ⟨⟨ho, hc⟩, hn⟩ := h
   obtain ⟨x, hx⟩ := hm 0 f rfl
   have := ol d fuel f.type u _ x hc hx
   rw [ho, List.take_of_length_le (by rw [List.length_drop]; omega)] at this
   exact this
 | d + 1, fuel, off, f :: g :: fs, u, n, cs, h, hl, hm => by
   simp only [chkF] at h
   split at h
   ·rename_i a b
    simp only [Bool.and_eq_true, decide_eq_true_eq] at h
    obtain ⟨⟨ho, hc⟩, hn⟩ := h
    obtain ⟨x, hx⟩ := hm 0 f rfl
    obtain ⟨y1, F1, a1, a2, a3⟩ := ol d fuel f.type a _ x hc hx
    obtain ⟨y2, F2, b1, b2, b3⟩ := open_repF d fuel (off + P.cellsOf f.type) (g :: fs) b n cs hn hl (fun i f' hi => hm (i + 1) f' hi)
    refine ⟨(y1, y2), F1 ++ F2, ⟨_, _, F1, F2, ?_, rfl, a1, b1⟩, wT a2 b2, a3, b3⟩
    rw [ho, ← List.drop_drop, List.take_append_drop]
   ·cases h
end
def Ge : Ty → List Value → Value
 | .arr _ _, cs => .agg cs.toArray
 | .pair _ _, cs => .agg cs.toArray
 | .unit, cs => .agg cs.toArray
 | _, cs => cs.headD .nilFunc
def JU (P : Program) (t : TypeId) (u : Ty) : Bool :=
 match P.underlying t, u with
 | some (.struct _), .pair _ _ => true
 | some (.struct _), .unit => true
 | some (.array _ _), .arr _ _ => true
 | some (.slice _), .sl _ _ => true
 | some .bool, .bool => true
 | some (.int _), .int _ => true
 | some .string, .str => true
 | _, _ => false
structure RepOk (w : World) (d : Dyn) (v : Value) : Prop where
 rep : ∃ F, gL d.1 d.2 v.cells.toList F ∧ tc F w
 val : v = Ge d.1 v.cells.toList
theorem vm {b0 : Nat} {t : TypeId} {u : Ty} {v : Value} {d : DataW H} {ps : List MemPlace} (hc : zK P 12 t u = true) (ha : JU P t u = true) (hval : Value.okWide P w .any b0 t v) (hd : DataW.Trod enc P w base (fun _ => true) held t v d ps) :
 ∃ y : u.den, RepOk w ⟨u, y⟩ v ∧ wfT u y := by
 obtain ⟨fuel, hf⟩ := hd
 obtain ⟨y, F, h1, h2, h3⟩ := ol 12 fuel t u _ _ hc hf
 refine ⟨y, ⟨⟨F, h1, h2⟩, ?_⟩, h3⟩
 have agg : (∃ cs, v = .agg cs) → ∀ u, (match u with | .arr _ _ => true | .pair _ _ => true | .unit => true | _ => false) = true → v = Ge u v.cells.toList := by
  rintro ⟨cs, rfl⟩ u hu
  cases u <;> simp_all [Ge, Value.cells]
 unfold JU at ha
 split at ha
 ·rename_i fs e
  exact agg (by unfold Value.okWide at hval; rw [e] at hval; obtain ⟨cs, h, _⟩ := hval; exact ⟨cs, h⟩) _ rfl
 ·rename_i fs e
  exact agg (by unfold Value.okWide at hval; rw [e] at hval; obtain ⟨cs, h, _⟩ := hval; exact ⟨cs, h⟩) _ rfl
 ·rename_i n e' e
  exact agg (by unfold Value.okWide at hval; rw [e] at hval; obtain ⟨cs, h, _⟩ := hval; exact ⟨cs, h⟩) _ rfl
 ·rename_i e
  obtain ⟨a, l, c, rfl⟩ := okWide_slice e hval
  rfl
 ·rename_i e
  obtain ⟨b, rfl⟩ := okWide_bool e hval
  rfl
 ·rename_i e
  obtain ⟨b, rfl⟩ := okWide_int e hval
  rfl
 ·rename_i e
  obtain ⟨b, rfl⟩ := okWide_string e hval
  rfl
 ·cases ha
end
inductive Args (w : World) : List Dyn → List Value → Prop where
 | nil : Args w [] []
 | cons {d : Dyn} {v : Value} {ds : List Dyn} {vs : List Value} : RepOk w d v → Args w ds vs → Args w (d :: ds) (v :: vs)
def qd (u : Ty) (ls : List At) : SV :=
 match u, ls with
 | .pair _ _, ls => .v (.st ls)
 | .unit, ls => .v (.st ls)
 | _, [a] => .v (.a a)
 | _, ls => .v (.st ls)
def gi : List Dyn → Nat → List (Nat × SV) × List Ob → List (Nat × SV) × List Ob
 | [], _, s => s
 | d :: ds, i, s => gi ds (i + 1) (s.1 ++ [(i, qd d.1 (bn .lent d.1 d.2 s.2.length).1)], s.2 ++ (bn .lent d.1 d.2 s.2.length).2)
theorem vn (m : Md) : ∀ (u : Ty) (x : u.den) (n : Nat), (bn m u x n).1.all vN = true
 | .pair a b, x, n => by simp only [bn, List.all_append, vn m a x.1 n, vn m b x.2 _, Bool.and_self]
 | .int k, x, n => rfl
 | .bool, x, n => rfl
 | .str, x, n => rfl
 | .unit, x, n => rfl
 | .arr q t, x, n => rfl
 | .sl e t, x, n => rfl
theorem Gf (u : Ty) (x : u.den) (m : Md) (n : Nat) (g : Env) : aq g (qd u (bn m u x n).1) = Ge u (aw g (bn m u x n).1) ∧ kt (qd u (bn m u x n).1) = true ∧ aL (qd u (bn m u x n).1) = (bn m u x n).1.flatMap aN := by
 cases u with
 | int k => exact ⟨rfl, rfl, rfl⟩
 | bool => exact ⟨rfl, rfl, rfl⟩
 | str => exact ⟨rfl, rfl, rfl⟩
 | unit => exact ⟨rfl, rfl, rfl⟩
 | arr q t => exact ⟨by simp [qd, bn, aq, aU, aJ, Ge, aw, ba], rfl, rfl⟩
 | pair a b => exact ⟨rfl, vn m _ x n, rfl⟩
 | sl e t => exact ⟨rfl, rfl, rfl⟩
structure Started (w : World) (g : Env) (vs : List Value) (s : List (Nat × SV) × List Ob) : Prop where
 enc : s.1.map (fun p => aq g p.2) = vs
 keys : s.1.map (·.1) = List.range s.1.length
 ok : ∀ p ∈ s.1, kt p.2 = true
 rs : ∀ p ∈ s.1, ∀ o ∈ aL p.2, o < s.2.length
 ob : ∀ i ob, s.2[i]? = some ob → obP g i ob ∧ ∃ e u xs, ob = .row e u xs .lent false ∧ ∀ f ∈ (⟨(g i).v, xs.length, u.sz, (g i).cs⟩ :: (g i).fs : List Fact), Rds f.v f.n f.sz f.cs w
theorem zL {w : World} : ∀ (ds : List Dyn) (vs : List Value) (i : Nat) (s : List (Nat × SV) × List Ob) (us : List Value) (g : Env), Args w ds vs → Started w g us s → i = s.1.length →
 ∃ g', Started w g' (us ++ vs) (gi ds i s)
 | [], [], i, s, us, g, .nil, h, hi => ⟨g, by simpa [gi] using h⟩
 | d :: ds, v :: vs, i, s, us, g, .cons hd hds, h, hi => by
   obtain ⟨F, hrep, hfa⟩ := hd.rep
   obtain ⟨g1, e1, e2, e3, e4, e5⟩ := lF .lent (by decide) d.1 d.2 s.2.length g _ F hrep
   obtain ⟨s1, s2, s3⟩ := Gf d.1 d.2 .lent s.2.length g1
   have hsl : ∀ o ∈ aL (qd d.1 (bn .lent d.1 d.2 s.2.length).1), o < (s.2 ++ (bn .lent d.1 d.2 s.2.length).2).length := by
    rw [s3]
    intro o ho
    have := (e4 o ho).2
    rw [List.length_append]; exact this
   have := zL ds vs (i + 1) (s.1 ++ [(i, qd d.1 (bn .lent d.1 d.2 s.2.length).1)], s.2 ++ (bn .lent d.1 d.2 s.2.length).2) (us ++ [v]) g1 hds ?_ (by simp [hi])
   ·obtain ⟨g', h'⟩ := this
    exact ⟨g', by simpa [gi] using h'⟩
   ·refine ⟨?_, ?_, ?_, ?_, ?_⟩
    ·simp only [List.map_append, List.map_cons, List.map_nil]
     congr 1
     ·rw [← h.enc]
      apply List.map_congr_left
      intro p hp
      exact eq _ (fun o ho => e1 o (.inl (h.rs p hp o ho)))
     ·rw [s1, e2, ← hd.val]
    ·simp only [List.map_append, List.map_cons, List.map_nil, List.length_append, List.length_singleton, List.range_succ, h.keys, hi]
    ·intro p hp
     rcases List.mem_append.1 hp with hp | hp
     ·exact h.ok p hp
     ·simp only [List.mem_singleton] at hp; subst hp; exact s2
    ·intro p hp o ho
     rcases List.mem_append.1 hp with hp | hp
     ·have := h.rs p hp o ho
      simp only [List.length_append]; omega
     ·simp only [List.mem_singleton] at hp; subst hp; exact hsl o ho
    ·intro j ob hj
     rcases Nat.lt_or_ge j s.2.length with hlt | hge
     ·simp only at hj
      rw [List.getElem?_append_left hlt] at hj
      have := h.ob j ob hj
      have hg : g1 j = g j := e1 j (.inl hlt)
      obtain ⟨a1, e, u, xs, rfl, a2⟩ := this
      exact ⟨iN hg a1, e, u, xs, rfl, by rw [hg]; exact a2⟩
     ·simp only at hj
      rw [List.getElem?_append_right hge] at hj
      obtain ⟨p1, e, u, xs, he, hf⟩ := e5 _ ob hj
      have hn : s.2.length + (j - s.2.length) = j := by omega
      rw [hn] at p1 hf
      exact ⟨p1, e, u, xs, he, fun f hf' => hfa f (hf f hf')⟩
end Go.Proofs.YtlepjakmadlkjaaGreatDoor
namespace Go.Proofs.YtlepjakmadlkjaaGreatDoor
open Go Go.WideShapes Go.ChangeShapes
def isK (k : IntKind) : Value → Bool
 | .int k' _ => k' == k
 | _ => false
def noK (k : IntKind) : Ty → Bool
 | .int k' => !(k' == k)
 | .arr _ t => noK k t
 | .pair a b => noK k a && noK k b
 | .sl _ t => noK k t
 | _ => true
theorem eN (k : IntKind) : ∀ (u : Ty) (x : u.den), noK k u = true → ∀ c ∈ (am u).cells x, isK k c = false
 | .int k', x, h, c, hc => by
   have : c = .int k' x := by simpa [am, FK] using hc
   subst this
   simpa [noK, isK] using h
 | .bool, x, h, c, hc => by
   have : c = .bool x := by simpa [am, FB] using hc
   subst this; rfl
 | .str, x, h, c, hc => by
   have : c = .string x := by simpa [am, FS] using hc
   subst this; rfl
 | .unit, x, h, c, hc => by simp [am, FU] at hc
 | .arr n t, x, h, c, hc => by
   simp only [am, FA] at hc
   obtain ⟨y, _, hy⟩ := List.mem_flatMap.1 hc
   exact eN k t y h c hy
 | .pair a b, x, h, c, hc => by
   simp only [noK, Bool.and_eq_true] at h
   simp only [am, FP] at hc
   rcases List.mem_append.1 hc with hc | hc
   ·exact eN k a x.1 h.1 c hc
   ·exact eN k b x.2 h.2 c hc
 | .sl _ t, x, h, c, hc => by
   have : c = .nilFunc := by simpa [am, FL] using hc
   subst this; rfl
theorem qe {k : IntKind} {α : Type} {R : α → List Value → List Fact → Prop} (h : ∀ x cs F, R x cs F → (∀ c ∈ cs, isK k c = false) ∧ ∀ f ∈ F, ∀ c ∈ f.cs, isK k c = false) :
 ∀ (xs : List α) (cs : List Value) (F : List Fact), gn R xs cs F → (∀ c ∈ cs, isK k c = false) ∧ ∀ f ∈ F, ∀ c ∈ f.cs, isK k c = false
 | [], cs, F, ⟨h1, h2⟩ => by subst h1 h2; exact ⟨fun c hc => (by cases hc), fun f hf => (by cases hf)⟩
 | x :: xs, cs, F, ⟨c1, c2, F1, F2, h1, h2, h3, h4⟩ => by
   subst h1 h2
   obtain ⟨a1, a2⟩ := h x c1 F1 h3
   obtain ⟨b1, b2⟩ := qe h xs c2 F2 h4
   exact ⟨fun c hc => (List.mem_append.1 hc).elim (a1 c) (b1 c), fun f hf => (List.mem_append.1 hf).elim (a2 f) (b2 f)⟩
theorem oR (k : IntKind) : ∀ (u : Ty) (x : u.den) (cs : List Value) (F : List Fact), noK k u = true → gL u x cs F → (∀ c ∈ cs, isK k c = false) ∧ ∀ f ∈ F, ∀ c ∈ f.cs, isK k c = false
 | .sl e t, x, cs, F, h, ⟨v, css, F', h1, ⟨ao, c, h2, _⟩, h3, h4⟩ => by
   obtain ⟨a1, a2⟩ := qe (k := k) (R := gL t) (fun x cs F hr => oR k t x cs F h hr) x css F' h4
   subst h1 h3 h2
   refine ⟨fun c' hc => ?_, fun f hf => ?_⟩
   ·simp only [List.mem_singleton] at hc; subst hc; rfl
   ·rcases List.mem_cons.1 hf with rfl | hf
    ·exact a1
    ·exact a2 f hf
 | .pair a b, x, cs, F, h, ⟨c1, c2, F1, F2, h1, h2, h3, h4⟩ => by
   simp only [noK, Bool.and_eq_true] at h
   obtain ⟨a1, a2⟩ := oR k a x.1 c1 F1 h.1 h3
   obtain ⟨b1, b2⟩ := oR k b x.2 c2 F2 h.2 h4
   subst h1 h2
   exact ⟨fun c hc => (List.mem_append.1 hc).elim (a1 c) (b1 c), fun f hf => (List.mem_append.1 hf).elim (a2 f) (b2 f)⟩
 | .int k', x, cs, F, h, hr => by
   obtain ⟨h1, h2⟩ : cs = (am (.int k')).cells x ∧ F = [] := hr
   subst h1 h2; exact ⟨eN k _ x h, fun f hf => (by cases hf)⟩
 | .bool, x, cs, F, h, hr => by
   obtain ⟨h1, h2⟩ : cs = (am .bool).cells x ∧ F = [] := hr
   subst h1 h2; exact ⟨eN k _ x h, fun f hf => (by cases hf)⟩
 | .str, x, cs, F, h, hr => by
   obtain ⟨h1, h2⟩ : cs = (am .str).cells x ∧ F = [] := hr
   subst h1 h2; exact ⟨eN k _ x h, fun f hf => (by cases hf)⟩
 | .unit, x, cs, F, h, hr => by
   obtain ⟨h1, h2⟩ : cs = (am .unit).cells x ∧ F = [] := hr
   subst h1 h2; exact ⟨eN k _ x h, fun f hf => (by cases hf)⟩
 | .arr n t, x, cs, F, h, hr => by
   obtain ⟨h1, h2⟩ : cs = (am (.arr n t)).cells x ∧ F = [] := hr
   subst h1 h2; exact ⟨eN k _ x h, fun f hf => (by cases hf)⟩
structure Glob where
 b : Nat
 T : TypeId
 n : Nat
 k : IntKind
 x : Vector Int n
def Glob.at (gl : Glob) : At := .fl (.arr gl.n (.int gl.k)) gl.x
def Glob.cs (gl : Glob) : List Value := (am (.arr gl.n (.int gl.k))).cells gl.x
def Glob.ok (gl : Glob) (w : World) : Prop := w.heap[gl.b]? = some (.cells gl.cs.toArray gl.T (0, 0))
theorem Glob.kind (gl : Glob) : ∀ c ∈ gl.cs, isK gl.k c = true := by
 intro c hc
 simp only [Glob.cs, am, FA] at hc
 obtain ⟨y, _, hy⟩ := List.mem_flatMap.1 hc
 have : c = .int gl.k y := by simpa [FK] using hy
 subst this
 simp [isK]
theorem Bj {gl : Glob} {w : World} (h : gl.ok w) {v : Value} {n sz : Nat} {cs : List Value} (hr : Rds v n sz cs w) (hc : ∀ c ∈ cs, isK gl.k c = false) (hne : cs ≠ []) : aT v ≠ some gl.b := by
 obtain ⟨_, ao, c, rfl, _, _, _, hcell⟩ := hr
 obtain ⟨u, us, rfl⟩ := List.exists_cons_of_ne_nil hne
 obtain ⟨ad, rfl, hu⟩ := hcell 0 u rfl
 intro e
 simp only [aT, Option.some.injEq] at e
 have hblk : (ad.add 0).block = gl.b := by rw [jF]; exact e
 unfold World.cell? at hu
 unfold Glob.ok at h
 rw [hblk, h] at hu
 simp only at hu
 split at hu
 ·cases hu
 ·have hm : u ∈ gl.cs := by
   rw [List.getElem?_toArray] at hu
   exact List.mem_of_getElem? hu
  have h1 := gl.kind u hm
  rw [hc u (List.mem_cons_self ..)] at h1
  cases h1
def sk : List Glob → List (Nat × SV) × List Ob → List (Nat × SV) × List Ob
 | [], s => s
 | gl :: gs, s => sk gs (s.1 ++ [(rG + gl.b, .v (.a (.ptr s.2.length 0)))], s.2 ++ [.box gl.T [gl.at]])
def jm (ds : List Dyn) (gs : List Glob) : St := ⟨(sk gs (gi ds 0 ([], []))).1, (sk gs (gi ds 0 ([], []))).2, [], .nil⟩
theorem wU : ∀ (gs : List Glob) (s : List (Nat × SV) × List Ob), sk gs s = (s.1 ++ gs.zipIdx.map (fun p => (rG + p.1.b, .v (.a (.ptr (s.2.length + p.2) 0)))), s.2 ++ gs.map fun gl => .box gl.T [gl.at])
 | [], s => by simp [sk]
 | gl :: gs, s => by
   rw [sk, wU gs]
   simp only [List.length_append, List.length_singleton, List.append_assoc, List.cons_append, List.nil_append, List.map_cons, List.zipIdx_cons, Prod.mk.injEq, Nat.add_zero]
   refine ⟨?_, trivial⟩
   congr 2
   rw [Nat.zero_add, List.zipIdx_succ]
   simp only [List.map_map]
   apply List.map_congr_left
   intro p _
   simp only [Function.comp_apply, Prod.mk.injEq, SV.v.injEq, V1.a.injEq, At.ptr.injEq, and_true, true_and]
   omega
theorem Dt {w : World} {ds : List Dyn} {vs : List Value} (h : Args w ds vs) : ∃ g, Started w g vs (gi ds 0 ([], [])) := by
 obtain ⟨g, hs⟩ := zL ds vs 0 ([], []) [] vL h ⟨rfl, rfl, (fun p hp => by cases hp), (fun p hp => by cases hp), (fun i ob hi => by simp at hi)⟩ rfl
 exact ⟨g, by simpa using hs⟩
theorem wV : ∀ (ds : List Dyn) (i : Nat) (s : List (Nat × SV) × List Ob), (gi ds i s).1.length = s.1.length + ds.length
 | [], i, s => by simp [gi]
 | d :: ds, i, s => by rw [gi, wV ds]; simp; omega
theorem pE {k : IntKind} : ∀ (ds : List Dyn) (i : Nat) (s : List (Nat × SV) × List Ob), (∀ d ∈ ds, noK k d.1 = true) → (∀ ob ∈ s.2, ∃ e u xs, ob = .row e u xs .lent false ∧ noK k u = true) →
 ∀ ob ∈ (gi ds i s).2, ∃ e u xs, ob = .row e u xs .lent false ∧ noK k u = true
 | [], i, s, _, h => h
 | d :: ds, i, s, hd, h => by
   refine pE ds (i + 1) _ (fun d' hd' => hd d' (List.mem_cons_of_mem _ hd')) (fun ob hob => ?_)
   rcases List.mem_append.1 hob with hob | hob
   ·exact h ob hob
   ·have hk := hd d (List.mem_cons_self ..)
    revert hob
    generalize s.2.length = n
    obtain ⟨u, x⟩ := d
    have key : ∀ (u : Ty) (x : u.den) (n : Nat), noK k u = true → ob ∈ (bn .lent u x n).2 → ∃ e t xs, ob = .row e t xs .lent false ∧ noK k t = true := by
     intro u
     induction u with
     | pair a b iha ihb =>
       intro x n hk hob
       simp only [noK, Bool.and_eq_true] at hk
       simp only [bn] at hob
       rcases List.mem_append.1 hob with hob | hob
       ·exact iha _ _ hk.1 hob
       ·exact ihb _ _ hk.2 hob
     | sl e t _ =>
       intro x n hk hob
       simp only [bn, List.mem_singleton] at hob
       exact ⟨e, t, x, hob, hk⟩
     | int k' => intro x n hk hob; simp [bn] at hob
     | bool => intro x n hk hob; simp [bn] at hob
     | str => intro x n hk hob; simp [bn] at hob
     | unit => intro x n hk hob; simp [bn] at hob
     | arr m t _ => intro x n hk hob; simp [bn] at hob
    exact key u x n hk
def Kx (g0 : Env) (n : Nat) (gs : List Glob) : Env := fun i => if i < n then g0 i else match gs[i - n]? with
 | some gl => ⟨.nilFunc, rfl, (gl.b, fun _ => 0), [], [], []⟩
 | none => g0 i
theorem Du {w : World} {ds : List Dyn} {vs : List Value} {gs : List Glob} (h : Args w ds vs) (hg : ∀ gl ∈ gs, gl.ok w) (hn : (gs.map (·.b)).Nodup) (hk : ∀ gl ∈ gs, ∀ d ∈ ds, noK gl.k d.1 = true) :
 ∃ g, ((jm ds gs).slots.take ds.length).map (fun p => aq g p.2) = vs ∧ (jm ds gs).slots.map (·.1) = List.range ds.length ++ (gs.map (·.b)).map (rG + ·) ∧ (∀ p ∈ (jm ds gs).slots.drop ds.length, aq g p.2 = .pointer (some ⟨p.1 - rG, 0, none⟩)) ∧
  Cal g (jm ds gs) ∧ Cx g (jm ds gs) w (fun b => b ∈ gs.map (·.b)) (fun _ => True) w ∧
  (∀ b ∈ gs.map (·.b), ∃ i gl, i < (jm ds gs).obs.length ∧ gl ∈ gs ∧ gl.b = b ∧ (jm ds gs).ob i = .box gl.T [gl.at] ∧ (g i).b = b) := by
 obtain ⟨g0, hs⟩ := Dt h
 obtain ⟨s, hse⟩ : ∃ s, s = gi ds 0 ([], []) := ⟨_, rfl⟩
 rw [← hse] at hs
 have hl1 : s.1.length = ds.length := by rw [hse, wV]; simp
 have eS : jm ds gs = ⟨s.1 ++ gs.zipIdx.map (fun p => (rG + p.1.b, .v (.a (.ptr (s.2.length + p.2) 0)))), s.2 ++ gs.map (fun gl => .box gl.T [gl.at]), [], .nil⟩ := by
  unfold jm; rw [← hse, wU]
 rw [eS]
 obtain ⟨g, hge⟩ : ∃ g : Env, g = Kx g0 s.2.length gs := ⟨_, rfl⟩
 have glt : ∀ i, i < s.2.length → g i = g0 i := fun i hi => by rw [hge]; simp [Kx, hi]
 have gge : ∀ j gl, gs[j]? = some gl → (g (s.2.length + j)).b = gl.b := fun j gl hj => by
  rw [hge]; unfold Kx; rw [if_neg (by omega), Nat.add_sub_cancel_left, hj]
 have obs : ∀ i, (⟨s.1 ++ gs.zipIdx.map (fun p => (rG + p.1.b, .v (.a (.ptr (s.2.length + p.2) 0)))), s.2 ++ gs.map (fun gl => .box gl.T [gl.at]), [], .nil⟩ : St).ob i =
  if i < s.2.length then s.2.getD i .gone else ((gs[i - s.2.length]?).map fun gl => Ob.box gl.T [gl.at]).getD .gone := by
  intro i
  simp only [St.ob, List.getD_eq_getElem?_getD]
  split
  ·rename_i hi; rw [List.getElem?_append_left hi]
  ·rename_i hi; rw [List.getElem?_append_right (by omega), List.getElem?_map]
 have low : ∀ i, i < s.2.length → ∃ e u xs, s.2.getD i .gone = .row e u xs .lent false ∧ obP g i (.row e u xs .lent false) ∧ ∀ f ∈ (⟨(g i).v, xs.length, u.sz, (g i).cs⟩ :: (g i).fs : List Fact), Rds f.v f.n f.sz f.cs w := by
  intro i hi
  obtain ⟨ob, hob⟩ : ∃ ob, s.2[i]? = some ob := ⟨s.2[i], List.getElem?_eq_getElem hi⟩
  obtain ⟨h1, e, u, xs, rfl, h2⟩ := hs.ob i ob hob
  refine ⟨e, u, xs, by rw [List.getD_eq_getElem?_getD, hob]; rfl, iN (glt i hi) h1, ?_⟩
  rw [glt i hi]; exact h2
 have boxes : ∀ i ob, ¬ i < s.2.length → ((gs[i - s.2.length]?).map fun gl => Ob.box gl.T [gl.at]).getD .gone = ob → ob = .gone ∨ ∃ gl, gs[i - s.2.length]? = some gl ∧ ob = .box gl.T [gl.at] := by
  intro i ob _ h
  cases hgl : gs[i - s.2.length]? with
  | none => rw [hgl] at h; exact .inl h.symm
  | some gl => rw [hgl] at h; exact .inr ⟨gl, rfl, h.symm⟩
 have entB : ∀ i gl, ¬ i < s.2.length → gs[i - s.2.length]? = some gl → an g i (.box gl.T [gl.at]) = dJ false gl.b gl.T gl.cs := by
  intro i gl hi hgl
  have hb := gge (i - s.2.length) gl hgl
  rw [show s.2.length + (i - s.2.length) = i by omega] at hb
  simp only [an, qH, hb, aw, List.flatMap_cons, List.flatMap_nil, List.append_nil]
  rfl
 refine ⟨g, ?_, ?_, ?_, ⟨fun i => ?_, fun p hp => ?_, fun p hp o ho => ?_, fun i T ls hi => ?_⟩, ⟨Fr.refl _ _, fun i => ?_, fun i => ?_, fun i b hb => ?_, fun i j hij b hb hb2 => ?_, fun i j b hb hb2 => ?_, fun i _ b _ => .inl trivial⟩, ?_⟩
 ·simp only
  rw [List.take_left' hl1, ← hs.enc]
  apply List.map_congr_left
  intro p hp
  exact eq _ (fun o ho => glt o (hs.rs p hp o ho))
 ·simp only [List.map_append, hs.keys, hl1, List.map_map]
  congr 1
  apply List.ext_getElem?
  intro i
  simp only [List.getElem?_map, List.getElem?_zipIdx]
  cases gs[i]? <;> rfl
 ·simp only
  rw [List.drop_left' hl1]
  intro p hp
  obtain ⟨⟨gl, j⟩, hq, rfl⟩ := List.mem_map.1 hp
  have hj := List.mem_zipIdx_iff_getElem?.1 hq
  have := gge j gl hj
  have e : rG + gl.b - rG = gl.b := by generalize rG = r; omega
  simp only [aq, aU, aJ, this, e]
 ·rw [obs]
  split
  ·rename_i hi
   obtain ⟨e, u, xs, h1, h2, _⟩ := low i hi
   rw [h1]; exact h2
  ·rename_i hi
   rcases boxes i _ hi rfl with h | ⟨gl, _, h⟩
   ·rw [h]; trivial
   ·rw [h]; rfl
 ·rcases List.mem_append.1 hp with hp | hp
  ·exact hs.ok p hp
  ·obtain ⟨⟨gl, j⟩, hq, rfl⟩ := List.mem_map.1 hp
   rfl
 ·simp only [List.length_append, List.length_map]
  rcases List.mem_append.1 hp with hp | hp
  ·have := hs.rs p hp o ho; omega
  ·obtain ⟨⟨gl, j⟩, hq, rfl⟩ := List.mem_map.1 hp
   have hj := List.mem_zipIdx_iff_getElem?.1 hq
   have hlt := (List.getElem?_eq_some_iff.1 hj).1
   simp only [aL, bi, aN, List.mem_singleton] at ho
   subst ho
   simp only at hlt ⊢
   omega
 ·rw [obs] at hi
  split at hi
  ·rename_i hlt
   obtain ⟨e, u, xs, h1, _⟩ := low i hlt
   rw [h1] at hi; cases hi
  ·rename_i hlt
   rcases boxes i _ hlt hi with h | ⟨gl, _, h⟩
   ·cases h
   ·simp only [Ob.box.injEq] at h
    obtain ⟨rfl, rfl⟩ := h
    intro o ho
    simp [aN, Glob.at] at ho
 ·simp only [obs]
  split
  ·rename_i hi
   obtain ⟨e, u, xs, h1, _⟩ := low i hi
   rw [h1]; trivial
  ·rename_i hi
   rcases boxes i _ hi rfl with h | ⟨gl, hgl, h⟩
   ·rw [h]; trivial
   ·rw [h, entB i gl hi hgl]
    exact hg gl (List.mem_of_getElem? hgl)
 ·simp only [obs]
  split
  ·rename_i hi
   obtain ⟨e, u, xs, h1, _, h2⟩ := low i hi
   rw [h1]; exact h2
  ·rename_i hi
   rcases boxes i _ hi rfl with h | ⟨gl, hgl, h⟩
   ·rw [h]; trivial
   ·rw [h]; trivial
 ·simp only [obs] at hb
  split at hb
  ·rename_i hi
   obtain ⟨e, u, xs, h1, _⟩ := low i hi
   rw [h1] at hb; exact hb.elim
  ·rename_i hi
   rcases boxes i _ hi rfl with h | ⟨gl, hgl, h⟩
   ·rw [h] at hb; exact hb.elim
   ·rw [h, entB i gl hi hgl] at hb
    have hb : b = gl.b := hb
    exact .inl (by rw [hb]; exact List.mem_map.2 ⟨gl, List.mem_of_getElem? hgl, rfl⟩)
 ·have dom : ∀ i, (an g i ((⟨s.1 ++ gs.zipIdx.map (fun p => (rG + p.1.b, .v (.a (.ptr (s.2.length + p.2) 0)))), s.2 ++ gs.map (fun gl => .box gl.T [gl.at]), [], .nil⟩ : St).ob i)).dom b → ¬ i < s.2.length ∧ (gs[i - s.2.length]?).map (·.b) = some b := by
   intro i hb
   rw [obs] at hb
   split at hb
   ·rename_i hi
    obtain ⟨e, u, xs, h1, _⟩ := low i hi
    rw [h1] at hb; exact hb.elim
   ·rename_i hi
    rcases boxes i _ hi rfl with h | ⟨gl, hgl, h⟩
    ·rw [h] at hb; exact hb.elim
    ·rw [h, entB i gl hi hgl] at hb
     have hb : b = gl.b := hb
     exact ⟨hi, by rw [hgl, hb]; rfl⟩
  obtain ⟨h1, h2⟩ := dom i hb
  obtain ⟨h3, h4⟩ := dom j hb2
  rw [← List.getElem?_map] at h2 h4
  have hlt : i - s.2.length < (gs.map (·.b)).length := (List.getElem?_eq_some_iff.1 h2).1
  have := (List.getElem?_inj hlt hn).1 (h2.trans h4.symm)
  omega
 ·simp only [obs] at hb hb2
  split at hb
  ·rename_i hi
   obtain ⟨e, u, xs, h1, _⟩ := low i hi
   rw [h1] at hb; exact hb.elim
  ·rename_i hi
   rcases boxes i _ hi rfl with h | ⟨gl, hgl, h⟩
   ·rw [h] at hb; exact hb.elim
   ·rw [h, entB i gl hi hgl] at hb
    have hb : b = gl.b := hb
    have hgm := List.mem_of_getElem? hgl
    split at hb2
    ·rename_i hj
     obtain ⟨e, u, xs, h1, hobp, h2⟩ := low j hj
     rw [h1] at hb2
     obtain ⟨f, hf, hne, had⟩ := hb2
     have hin : Ob.row e u xs .lent false ∈ s.2 := by
      rw [← h1, List.getD_eq_getElem?_getD, List.getElem?_eq_getElem hj]
      exact List.getElem_mem hj
     have hku : noK gl.k u = true := by
      have := pE (k := gl.k) ds 0 ([], []) (hk gl hgm) (fun ob hob => (by cases hob)) (.row e u xs .lent false) (by rw [← hse]; exact hin)
      obtain ⟨e', u', xs', h5, h6⟩ := this
      cases h5
      exact h6
     have hrep : gn (gL u) xs (g j).cs (g j).fs := hobp.1
     obtain ⟨c1, c2⟩ := qe (k := gl.k) (R := gL u) (fun x cs F hr => oR gl.k u x cs F hku hr) _ _ _ hrep
     have hcl : ∀ c ∈ f.cs, isK gl.k c = false := by
      rcases List.mem_cons.1 hf with rfl | hf'
      ·exact c1
      ·exact c2 f hf'
     exact Bj (hg gl hgm) (h2 f hf) hcl hne (by rw [had, hb])
    ·rename_i hj
     rcases boxes j _ hj rfl with h5 | ⟨gl', _, h5⟩
     ·rw [h5] at hb2; exact hb2.elim
     ·rw [h5] at hb2; exact hb2.elim
 ·intro b hb
  obtain ⟨gl, hgm, rfl⟩ := List.mem_map.1 hb
  obtain ⟨j, hj⟩ := List.getElem?_of_mem hgm
  have hlt := (List.getElem?_eq_some_iff.1 hj).1
  refine ⟨s.2.length + j, gl, by simp [List.length_append]; omega, hgm, rfl, ?_, gge j gl hj⟩
  rw [obs, if_neg (by omega), show s.2.length + j - s.2.length = j by omega, hj]
  rfl
theorem Dv {P : Program} {w : World} {f : Nat} {c : Con} {ds : List Dyn} {vs : List Value} {gs : List Glob} {k : Nat} {x : HL c.pat.codes} (hc : al P c) (hfn : c.fn = f) (h : Args w ds vs) (hg : ∀ gl ∈ gs, gl.ok w) (hn : (gs.map (·.b)).Nodup) (hk : ∀ gl ∈ gs, ∀ d ∈ ds, noK gl.k d.1 = true)
 (hsh : ∀ b ∈ gs.map (·.b), b < shift) {y : fC (c.out.map NSh.codes)}
 (hy : c.f k x = some y) (hp : iV c.pat x = some (jm ds gs)) (hout : c.out = [⟨[(rB, .v (.a (.fl .bool)))], [], []⟩]) (hel : ∀ (R : Type) (q : Nat → List Dyn → R), ej (c.out.map NSh.codes) y q = q 0 [⟨.bool, true⟩]) :
 Calls P f vs.toArray w (fun e w' => ∃ v, e = .returned v ∧ v = .bool true ∧ Fr nob w w') := by
 obtain ⟨g, h1, h2, h2b, h3, h4, h5⟩ := Du h hg hn hk
 have key := hc k x y (jm ds gs) ds.length (gs.map (·.b)) hy hp h2 hsh g w _ (fun _ => True) h3 h4 h2b
 rw [h1, hfn] at key
 refine Calls.mono key ?_
 rintro e w' ⟨v, rfl, i, es, s, N, r, g', q1, q2, q3, q4, q5, q6, q7, q8, q9, q10⟩
 have e0 := q1 (Nat × List Dyn) (fun i ds => (i, ds))
 rw [hel] at e0
 simp only [Prod.mk.injEq] at e0
 obtain ⟨rfl, rfl⟩ := e0
 rw [hout] at q2
 simp only [List.getElem?_cons_zero, Option.some.injEq] at q2
 subst q2
 have q3' : fiN ⟨[(rB, .v (.a (.fl .bool)))], [], []⟩ [⟨.bool, true⟩] = some N := q3
 have hN : fiN ⟨[(rB, .v (.a (.fl .bool)))], [], []⟩ [⟨.bool, true⟩] = some ⟨[(rB, .v (.a (.fl .bool true)))], [], []⟩ := by rfl
 rw [hN] at q3'
 cases q3'
 simp only [Go.Proofs.YtlepjakmadlkjaaGreatDoor.results, Option.some.injEq] at q4
 subst q4
 refine ⟨_, rfl, q5, ?_⟩
 have fr := q9.fr
 refine ⟨fr.os, fr.tape, fr.output, fr.size, fun b hb _ => ?_⟩
 by_cases hbg : b ∈ gs.map (·.b)
 ·obtain ⟨i, gl, hi, hgm, hglb, hob, hgb⟩ := h5 b hbg
  obtain ⟨k1, k2⟩ := q10.same i hi (fun hx => by cases hx)
  have hok := q9.okL i
  have k1' : (aB (jm ds gs) ⟨[(rB, .v (.a (.fl .bool true)))], [], []⟩).ob i = .box gl.T [gl.at] := (k1.trans hob)
  simp only [k1', an, qH, k2, hgb] at hok
  have hok : w'.heap[b]? = some (.cells (aw g' [gl.at]).toArray gl.T (0, 0)) := hok
  have hen : aw g' [gl.at] = gl.cs := by simp [aw, ba, Glob.at, Glob.cs]
  rw [hok, hen, ← hglb]
  exact (hg gl hgm).symm
 ·exact fr.block b hb hbg
theorem L6 {gs : List Glob} {ds : List Dyn} (h : ((gs.map (·.k)).all fun k => (ds.map (·.1)).all (noK k)) = true) : ∀ gl ∈ gs, ∀ d ∈ ds, noK gl.k d.1 = true := by
 intro gl hgl d hd
 have h1 := List.all_eq_true.1 h gl.k (List.mem_map.2 ⟨gl, hgl, rfl⟩)
 exact List.all_eq_true.1 h1 d.1 (List.mem_map.2 ⟨d, hd, rfl⟩)
theorem H8 {P : Program} {W : World} {gl : Glob} {name : String} (hsh : W.ShapedOpen P) (hg : P.globalNamed name = some gl.b) (hz : (((begin P (fun _ _ => 0) default).world.heap[gl.b]?).bind Obj.row?).map (·.2) = some gl.T)
 (hlt : gl.b < P.globals.size) (htab : Lib.TabIs P W name gl.k gl.x.toList) : gl.ok W := by
 obtain ⟨⟨zero, T⟩, h1, h2⟩ := Option.map_eq_some_iff.1 hz
 simp only at h2
 subst h2
 obtain ⟨cs, h3, _⟩ := hsh.1 gl.b zero _ hlt h1
 unfold Lib.TabIs at htab
 have hvar : W.var? P name = some cs := by
  unfold World.var?
  rw [hg]
  simp only [Option.bind_some, h3]
 rw [hvar] at htab
 have hcs : cs = gl.cs.toArray := by
  rw [Option.some.inj htab]
  congr 1
  simp only [Glob.cs, am, FA, ua, FK]
  induction gl.x.toList with
  | nil => rfl
  | cons a l ih => simp [ih]
 unfold Glob.ok
 rw [h3, hcs]
section
variable {H : Type} {enc : TypeId × Value → H}
theorem vo {a : Assume} {C : Checked} {os : Os} {f : FuncId} {fn : Func} {s : ChangeSpec} {conds : List PathCond} {apart aQ handsOn again : Bool} {X : World → Array Value → Prop}
 (hX : ∀ (w w' : World) (args : Array Value), w.heap = w'.heap → X w args → X w' args)
 (own : ownKnob C.prog.godebug = none) (started : os.Started) (noInit : C.prog.inits.idxOf? f = none) (hfn : C.prog.funcs[f]? = some fn)
 (witness : ∃ (w : World) (tape : Tape) (i : Input), w.os = os ∧ (w.forCall tape i).Shaped C.prog ∧ i.vars = [] ∧ Input.okWide C.prog (w.forCall tape i) .any w.heap.size f i ∧
  ((s.pre enc C.prog fn conds apart (w.forCall tape i).memory i.args ∧ X (w.forCall tape i).memory i.args) ∧ sizedMet enc C.prog fn (OpenSpec.ofChange s) apart (w.forCall tape i).memory i.args) ∧ a.holds C.prog (lone (Frame.enter C.prog f i.args .normal) [] (w.forCall tape i)))
 (contract : ∀ (W : World) (base : Nat) (args : Array Value) (ds gs : List (DataW H)) (before : List MemPlace),
  (∀ (j : Nat) t v, fn.params[j]? = some t → args[j]? = some v → Value.okWide C.prog W .any base t v) →
  DataW.Whole enc C.prog fn.params.toList s.vars apart W args.toList ds gs before → X W args → W.ShapedOpen C.prog →
  Calls C.prog f args W fun e W' => ∃ v, e = .returned v ∧ s.post enc C.prog fn apart aQ handsOn again W args v W') :
 ReturnsInHanded a C os f .any (fun w args => (s.pre enc C.prog fn conds apart w args ∧ X w args) ∧ sizedMet enc C.prog fn (OpenSpec.ofChange s) apart w args) (s.post enc C.prog fn apart aQ handsOn again) := by
 refine returnsInHanded_of_calls own started noInit witness ?_
 intro w tape i _ hshape _ hok hpre hholds
 obtain ⟨_, _, _, fn', hfn', _, _, _, _, hval⟩ := hok
 have e : fn' = fn := Option.some.inj (hfn'.symm.trans hfn)
 subst e
 obtain ⟨⟨⟨ds, gs, before, hw, hc⟩, hx⟩, hz⟩ := hpre
 have hw' := DataW.Whole.of_heap (w' := w.forCall tape i) (by rfl) hw
 refine (contract (w.forCall tape i) w.heap.size i.args ds gs before hval hw' (hX _ _ _ (by rfl) hx) hshape).mono fun e W' ⟨v, he, hp⟩ => ?_
 subst he
 exact ChangeSpec.post_blind hp
end
end Go.Proofs.YtlepjakmadlkjaaGreatDoor
namespace Go.Proofs.YtlepjakmadlkjaaGreatDoor
open Go
def ak : Vector Int 64 := ⟨#[1116352408, 1899447441, 3049323471, 3921009573, 961987163, 1508970993, 2453635748, 2870763221, 3624381080, 310598401, 607225278, 1426881987, 1925078388, 2162078206, 2614888103, 3248222580, 3835390401, 4022224774, 264347078, 604807628, 770255983, 1249150122, 1555081692, 1996064986, 2554220882, 2821834349, 2952996808, 3210313671, 3336571891, 3584528711, 113926993, 338241895, 666307205, 773529912, 1294757372, 1396182291, 1695183700, 1986661051, 2177026350, 2456956037, 2730485921, 2820302411, 3259730800, 3345764771, 3516065817, 3600352804, 4094571909, 275423344, 430227734, 506948616, 659060556, 883997877, 958139571, 1322822218, 1537002063, 1747873779, 1955562222, 2024104815, 2227730452, 2361852424, 2428436474, 2756734187, 3204031479, 3329325298], rfl⟩
def td : Glob := ⟨0, 217, 64, .u32, ak⟩
theorem av {x : Int} (h1 : -9223372036854775808 ≤ x) (h2 : x ≤ 9223372036854775807) : WK .i64 x = x := jO h1 h2
theorem Bl {x : Int} (h1 : 0 ≤ x) (h2 : x ≤ 18446744073709551615) : WK .u64 x = x := by
 simp only [WK, IntKind.wrap, IntKind.bits, IntKind.signed]; simp; omega
theorem LI {x : Int} (h1 : 0 ≤ x) (h2 : x ≤ 255) : WK .u8 x = x := by
 simp only [WK, IntKind.wrap, IntKind.bits, IntKind.signed]; simp; omega
theorem Dw (x : Int) : WK .u8 x = x % 256 := by
 simp only [WK, IntKind.wrap, IntKind.bits, IntKind.signed]; simp
theorem vp (x : Int) : WK .u32 x = x % 4294967296 := by
 simp only [WK, IntKind.wrap, IntKind.bits, IntKind.signed]; simp
@[simp] theorem ag {α : Type} (x y : Option α) : ai true x y = x := rfl
@[simp] theorem ac {α : Type} (x y : Option α) : ai false x y = y := rfl
@[simp] theorem cd {α β R : Type} (a : α) (f : α → R) (g : β → R) : bT (.inl a) f g = f a := rfl
@[simp] theorem au {α β R : Type} (b : β) (f : α → R) (g : β → R) : bT (.inr b) f g = g b := rfl
theorem aj {α β : Type} {o : Option α} {f : α → Option β} {a : α} {r : Option β} (h : o = some a) (hf : f a = r) : o.bind f = r := by rw [h]; exact hf
theorem cU {a b : Int} (h : a ≠ b) : ieq a b = false := by simpa using h
theorem cu {a b : Int} (h : a = b) : ieq a b = true := by simpa using h
theorem eh {a b : Int} (h : a = b) : ine a b = false := by simpa using h
theorem rn {a b : Int} (h : a ≠ b) : ine a b = true := by simpa using h
theorem be {a b : Int} (h : a < b) : ilt a b = true := by simpa using h
theorem aM {a b : Int} (h : b ≤ a) : ilt a b = false := by simpa using h
theorem lR {a b : Int} (h : a ≤ b) : ile a b = true := by simpa using h
theorem Gg {a b : Int} (h : b < a) : ile a b = false := by simpa using h
theorem om {a b : Int} (h : b < a) : igt a b = true := by simpa using h
theorem jd {a b : Int} (h : a ≤ b) : igt a b = false := by simpa using h
theorem fA {a b : Int} (h : b ≤ a) : ige a b = true := by simpa using h
theorem lS {a b : Int} (h : a < b) : ige a b = false := by simpa using h
theorem H9 {a b : ByteArray} : sEq a b = true ↔ a = b := by
 unfold sEq
 constructor
 ·intro h
  have h : a.data.toList = b.data.toList := by simpa using h
  exact Go.WideShapes.bytes_inj h
 ·rintro rfl; simp
theorem Gh (a : ByteArray) : sEq a a = true := H9.2 rfl
theorem sm {a b : ByteArray} (h : a.data.toList = b.data.toList) : a = b := Go.WideShapes.bytes_inj h
@[simp] theorem Gi (l : List Int) : (strOfNums l).size = l.length := by simp [strOfNums, ByteArray.size]
@[simp] theorem Gj (a b : ByteArray) : (a ++ b).size = a.size + b.size := by simp
@[simp] theorem Gk (a b : ByteArray) : (a ++ b).data.toList = a.data.toList ++ b.data.toList := by simp
theorem Ky {t : Ty} {l : List t.den} {i : Int} (h0 : 0 ≤ i) (h1 : i < l.length) : at_ t l i = l[i.toNat]'(by omega) := by
 unfold at_
 rw [List.getD_eq_getElem?_getD, List.getElem?_eq_getElem (by omega)]
 rfl
theorem bL {t : Ty} {l : List t.den} {n : Nat} (h : n < l.length) : at_ t l (n : Int) = l[n] := by
 rw [Ky (by omega) (by omega)]
 congr 1
theorem lT {H E : Type} {step : H → Option (H ⊕ E)} (I : Nat → H → Prop) (Q : E → Prop)
 (hs : ∀ n h, I n h → (∃ h' m, step h = some (.inl h') ∧ m < n ∧ I m h') ∨ (∃ e, step h = some (.inr e) ∧ Q e)) : ∀ (n : Nat) (h : H), I n h → ∀ k, n < k → ∃ e, aP k step h = some e ∧ Q e := by
 intro n
 induction n using Nat.strongRecOn with
 | _ n ih =>
   intro h hI k hk
   cases k with
   | zero => omega
   | succ k =>
     rcases hs n h hI with ⟨h', m, h1, h2, h3⟩ | ⟨e, h1, h2⟩
     ·obtain ⟨e, he, hq⟩ := ih m h2 h' h3 k (by omega)
      exact ⟨e, by simp only [aP, h1, Option.bind_some, cd]; exact he, hq⟩
     ·exact ⟨e, by simp only [aP, h1, Option.bind_some, au], h2⟩
theorem bS {H E : Type} {step : H → Option (H ⊕ E)} (p : Nat → H) : ∀ (n : Nat) (e : E) (k : Nat), (∀ i < n, step (p i) = some (.inl (p (i + 1)))) → step (p n) = some (.inr e) → n < k → aP k step (p 0) = some e := by
 intro n
 induction n generalizing p with
 | zero =>
   intro e k _ h2 hk
   cases k with
   | zero => omega
   | succ k => simp only [aP, h2, Option.bind_some, au]
 | succ n ih =>
   intro e k h1 h2 hk
   cases k with
   | zero => omega
   | succ k =>
     simp only [aP, h1 0 (by omega), Option.bind_some, cd]
     exact ih (fun i => p (i + 1)) e k (fun i hi => h1 (i + 1) (by omega)) h2 (by omega)
inductive Goes {H E : Type} (I : Nat → H → Prop) (Q : E → Prop) (n : Nat) : Option (H ⊕ E) → Prop
 | on {h' : H} (m : Nat) (lt : m < n) (i : I m h') : Goes I Q n (some (.inl h'))
 | out {e : E} (q : Q e) : Goes I Q n (some (.inr e))
theorem Goes.bind {H E S : Type} {I : Nat → H → Prop} {Q : E → Prop} {n : Nat} {o : Option S} {f : S → Option (H ⊕ E)} (P : S → Prop) (h : ∃ s, o = some s ∧ P s) (hf : ∀ s, P s → Goes I Q n (f s)) : Goes I Q n (o.bind f) := by
 obtain ⟨s, rfl, hp⟩ := h
 exact hf s hp
theorem fx {H E R : Type} {step : H → Option (H ⊕ E)} {f : E → Option R} {r : Option R} {h0 : H} {k : Nat} (I : Nat → H → Prop) (Q : E → Prop) (n : Nat) (hk : n < k) (h : I n h0)
 (hs : ∀ n h, I n h → Goes I Q n (step h)) (hf : ∀ e, Q e → f e = r) : (aP k step h0).bind f = r := by
 obtain ⟨e, he, hq⟩ := lT (step := step) I Q (fun n h hi => by
  have g := hs n h hi
  generalize step h = o at g ⊢
  cases g with
  | on m lt i => exact .inl ⟨_, m, rfl, lt, i⟩
  | out q => exact .inr ⟨_, rfl, q⟩) n h0 h k hk
 rw [he]
 exact hf e hq
theorem so (x : Int) (m : Nat) (h : m < 4611686018427387904) : 0 ≤ bh .i64 x m ∧ bh .i64 x m ≤ m := by
 have e : (BitVec.ofInt IntKind.i64.bits x &&& BitVec.ofInt IntKind.i64.bits (m : Int)).toNat ≤ m := by
  rw [BitVec.toNat_and]
  refine Nat.le_trans Nat.and_le_right ?_
  rw [BitVec.toNat_ofInt]
  simp only [IntKind.bits]
  omega
 have w : bh .i64 x m = ((BitVec.ofInt IntKind.i64.bits x &&& BitVec.ofInt IntKind.i64.bits (m : Int)).toNat : Int) := jO (by omega) (by omega)
 rw [w]
 omega
theorem wW {α β H : Type} (q : β → α) (f : H → α → Option H) : ∀ (l : List β) (h : H), jq (l.map q) f h = jq l (fun h b => f h (q b)) h
 | [], h => rfl
 | b :: l, h => by
   simp only [List.map_cons, jq]
   cases f h (q b) with
   | none => rfl
   | some y => exact wW q f l y
theorem Dx {α : Type} (l : List α) : (kA l).map (·.2) = l.reverse := by
 simp [kA, List.map_reverse, List.map_map, Function.comp_def]
theorem vr {α H : Type} (l : List α) (f : H → α → Option H) (h : H) : jq (kA l) (fun h p => f h p.2) h = jq l.reverse f h := by
 rw [← Dx, wW]
theorem Gl (k : IntKind) (a b : Int) : orK k a b = orK k b a := by unfold orK; rw [BitVec.or_comm]
theorem Gm {x n : Int} (h0 : 0 ≤ x) (h1 : x < n) (h2 : n ≤ 1000000) : inR (WK .i64 x) n := by
 rw [av (by omega) (by omega)]; exact ⟨h0, h1⟩
def itr {S : Type} (f : Nat → S → S) (s : S) : Nat → S
 | 0 => s
 | n + 1 => f n (itr f s n)
theorem sq {S : Type} {f g : Nat → S → S} (s : S) : ∀ n, (∀ i < n, ∀ s, f i s = g i s) → itr f s n = itr g s n
 | 0, _ => rfl
 | n + 1, h => by
   simp only [itr]
   rw [sq s n (fun i hi => h i (by omega)), h n (by omega)]
theorem Co {S : Type} (f : Nat → S → S) (s : S) (a : Nat) : ∀ n, itr f s (a + n) = itr (fun i => f (a + i)) (itr f s a) n
 | 0 => rfl
 | n + 1 => by
   show f (a + n) (itr f s (a + n)) = _
   rw [Co f s a n]; rfl
theorem ig {S E : Type} {step : (Int × S) → Option ((Int × S) ⊕ E)} (f : Nat → S → S) (g : S → E) (a n k : Nat) (s0 : S)
 (hs : ∀ i < n, ∀ s, step (((a + i : Nat) : Int), s) = some (.inl (((a + i + 1 : Nat) : Int), f i s))) (he : ∀ s, step (((a + n : Nat) : Int), s) = some (.inr (g s))) (hk : n < k) :
 aP k step ((a : Int), s0) = some (g (itr f s0 n)) :=
 bS (fun i => (((a + i : Nat) : Int), itr f s0 i)) n _ k (fun i hi => hs i hi _) (he _) hk
theorem tK {α : Type} {d : α} {n : Nat} (v : Vector α n) (j : Nat) (h : j < n) : vAt d v (j : Int) = v[j] := by
 unfold vAt
 rw [Int.toNat_natCast]
 simp [Array.getD, h]
theorem Gn {α : Type} {n : Nat} (v : Vector α n) (i : Nat) (x : α) (j : Nat) (h : j < n) : (dG v (i : Int) x)[j] = if i = j then x else v[j] := by
 unfold dG
 rw [Int.toNat_natCast, Vector.getElem_setIfInBounds]
theorem lU {m : Nat} {f : Nat → Vector Int m → Vector Int m} (F : Nat → Int → Int) (hf : ∀ i < m, ∀ v, f i v = dG v (i : Int) (F i (vAt 0 v (i : Int)))) (w : Vector Int m) :
 ∀ n, n ≤ m → ∀ j (h : j < m), (itr f w n)[j] = if j < n then F j w[j] else w[j]
 | 0, _, j, h => by simp [itr]
 | n + 1, hn, j, h => by
   have e : itr f w (n + 1) = dG (itr f w n) (n : Int) (F n (vAt 0 (itr f w n) (n : Int))) := hf n (by omega) _
   rw [show (itr f w (n + 1))[j] = (dG (itr f w n) (n : Int) (F n (vAt 0 (itr f w n) (n : Int))))[j] by simp only [e]]
   rw [Gn, tK _ n (by omega), lU F hf w n (by omega) n (by omega), lU F hf w n (by omega) j h]
   by_cases e : n = j
   ·subst e; simp
   ·by_cases e2 : j < n
    ·rw [if_neg e, if_pos e2, if_pos (by omega)]
    ·rw [if_neg e, if_neg e2, if_neg (by omega)]
abbrev rr (n x : Int) : Int := orK .u32 (cW .u32 x (WK .u64 n)) (cq .u32 x (WK .u64 (WK .i64 (32 - n))))
abbrev pr (n x : Int) : Int := orK .u32 (cq .u32 x (bh .u64 (WK .u64 (WK .i64 (0 - n))) 31)) (cW .u32 x (WK .u64 (32 - (bh .u64 (WK .u64 (WK .i64 (0 - n))) 31))))
theorem pF {n : Int} (h1 : bh .u64 (WK .u64 (WK .i64 (0 - n))) 31 = WK .u64 (WK .i64 (32 - n))) (h2 : WK .u64 (32 - (WK .u64 (WK .i64 (32 - n)))) = WK .u64 n) (x : Int) : pr n x = rr n x := by
 unfold pr rr
 rw [h1, h2, Gl]
theorem pr2 (x : Int) : pr 2 x = rr 2 x := pF (by kernel_rfl) (by kernel_rfl) x
theorem pr6 (x : Int) : pr 6 x = rr 6 x := pF (by kernel_rfl) (by kernel_rfl) x
theorem pr7 (x : Int) : pr 7 x = rr 7 x := pF (by kernel_rfl) (by kernel_rfl) x
theorem L7 (x : Int) : pr 11 x = rr 11 x := pF (by kernel_rfl) (by kernel_rfl) x
theorem L8 (x : Int) : pr 13 x = rr 13 x := pF (by kernel_rfl) (by kernel_rfl) x
theorem L9 (x : Int) : pr 17 x = rr 17 x := pF (by kernel_rfl) (by kernel_rfl) x
theorem Ma (x : Int) : pr 18 x = rr 18 x := pF (by kernel_rfl) (by kernel_rfl) x
theorem Mb (x : Int) : pr 19 x = rr 19 x := pF (by kernel_rfl) (by kernel_rfl) x
theorem Mc (x : Int) : pr 22 x = rr 22 x := pF (by kernel_rfl) (by kernel_rfl) x
theorem Me (x : Int) : pr 25 x = rr 25 x := pF (by kernel_rfl) (by kernel_rfl) x
def Ia (w : Vector Int 64) (t : Int) : Int :=
 WK .u32 ((WK .u32 ((WK .u32 ((cM .u32 (cM .u32 (rr 17 (vAt 0 w (WK .i64 (t - 2)))) (rr 19 (vAt 0 w (WK .i64 (t - 2))))) (cW .u32 (vAt 0 w (WK .i64 (t - 2))) 10)) + (vAt 0 w (WK .i64 (t - 7))))) + (cM .u32 (cM .u32 (rr 7 (vAt 0 w (WK .i64 (t - 15)))) (rr 18 (vAt 0 w (WK .i64 (t - 15))))) (cW .u32 (vAt 0 w (WK .i64 (t - 15))) 3)))) + (vAt 0 w (WK .i64 (t - 16))))
def fW (b : Vector Int 16) (t : Nat) (w : Vector Int 64) : Vector Int 64 := if t < 16 then dG w (t : Int) (vAt 0 b (t : Int)) else dG w (t : Int) (Ia w (t : Int))
def ot (b : Vector Int 16) : Vector Int 64 := itr (fW b) (Vector.replicate 64 0) 64
theorem zM (b : Vector Int 16) : itr (fW b) (Vector.replicate 64 0) 16 = vCp (Vector.replicate 64 0) b := by
 rw [sq (g := fun t w => dG w (t : Int) ((fun (i : Nat) (_ : Int) => vAt 0 b (i : Int)) t (vAt 0 w (t : Int)))) _ 16 (fun i hi s => by simp only [fW, if_pos hi])]
 apply Vector.ext
 intro j hj
 rw [lU (fun (i : Nat) (_ : Int) => vAt 0 b (i : Int)) (fun i _ v => rfl) _ 16 (by omega) j hj]
 unfold vCp
 simp only [Vector.getElem_mk, List.getElem_toArray]
 by_cases h : j < 16
 ·rw [if_pos h, tK b j h, List.getElem_append_left (by simp; omega)]
  simp
 ·rw [if_neg h, List.getElem_append_right (by simp; omega), Vector.getElem_replicate]
  have h0 : ∀ x ∈ List.drop 16 (Vector.replicate 64 (0 : Int)).toList, x = 0 := by decide
  exact (h0 _ (List.getElem_mem _)).symm
theorem zN (b : Vector Int 16) : jC 1000 b = some (ot b) := by
 unfold jC
 refine aj (ig (fun i w => fW b (16 + i) w) id 16 48 1000 _ (fun i hi s => ?_) (fun s => ?_) (by omega)) ?_
 ·refine (congrArg (ai · _ _) (be (by omega))).trans ((ag _ _).trans ?_)
  repeat refine (aa (by first | exact Gm (by omega) (by omega) (by omega) | exact ⟨by omega, by omega⟩ | decide)).trans ?_
  have e : fW b (16 + i) s = dG s ((16 + i : Nat) : Int) (Ia s ((16 + i : Nat) : Int)) := if_neg (by omega)
  rw [e]
  unfold Ia
  simp only [← L9, ← Mb, ← pr7, ← Ma]
  rw [av (x := ((16 + i : Nat) : Int) + 1) (by omega) (by omega)]
  rfl
 ·refine (congrArg (ai · _ _) (aM (by omega))).trans (ac _ _)
 ·rw [← zM]
  show some (id (itr (fun i => fW b (16 + i)) (itr (fW b) (Vector.replicate 64 0) 16) 48)) = _
  rw [← Co (fW b) (Vector.replicate 64 0) 16 48]
  rfl
abbrev mkB (l : List UInt8) : ByteArray := ⟨l.toArray⟩
theorem ou (l : List UInt8) : (mkB l).size = l.length := by simp [ByteArray.size]
theorem dj (l : List UInt8) : cZ (mkB l) = (l.length : Int) := by rw [cZ, ou]
theorem ce (a b : List UInt8) : mkB a ++ mkB b = mkB (a ++ b) := sm (by rw [Gk])
theorem vt (l : List Int) : strOfNums l = mkB (l.map fun n => UInt8.ofNat n.toNat) := rfl
theorem Cp (l : List UInt8) (i : Int) : sAt (mkB l) i = ((l.getD i.toNat 0).toNat : Int) := rfl
theorem Dy (l : List UInt8) (n : Int) : FF (mkB l) n (cZ (mkB l)) = mkB (l.drop n.toNat) := by
 apply sm
 rw [dj]
 simp [FF, ByteArray.data_extract, List.extract]
 exact List.take_of_length_le (by simp)
theorem Ib (b : UInt8) : (b.toNat : Int) ≤ 255 := by have := b.toNat_lt; omega
def wdt (x : Nat) : Nat := (Lib.bitLen x + 7) / 8
def rp : Nat → Nat → List UInt8
 | 0, _ => []
 | n + 1, x => rp n (x / 256) ++ [UInt8.ofNat (x % 256)]
theorem vu : ∀ (n x : Nat), (rp n x).length = n
 | 0, _ => rfl
 | n + 1, x => by simp [rp, vu n]
theorem wX : ∀ (n x : Nat), rp (n + 1) x = UInt8.ofNat (x / 256 ^ n % 256) :: rp n x
 | 0, x => by simp [rp]
 | n + 1, x => by
   rw [rp, wX n (x / 256), Nat.div_div_eq_div_mul, ← Nat.pow_succ', rp]
   rfl
theorem Gp {x : Nat} (h : x < 18446744073709551616) : wdt x ≤ 8 := by
 have := Lib.bitLen_le x 64 (by decide) (by simpa using h)
 unfold wdt; omega
def bX (x : Nat) : List UInt8 := UInt8.ofNat (wdt x) :: rp (wdt x) x
theorem Gq (x : Nat) : (bX x).length = wdt x + 1 := by simp [bX, vu]
abbrev Kz (x : Int) : Int := cM .u32 (cM .u32 (rr 6 x) (rr 11 x)) (rr 25 x)
abbrev KB (x : Int) : Int := cM .u32 (cM .u32 (rr 2 x) (rr 13 x)) (rr 22 x)
abbrev chE (e f g : Int) : Int := cM .u32 (bh .u32 e f) (bh .u32 (cM .u32 4294967295 e) g)
abbrev maj (a b c : Int) : Int := cM .u32 (cM .u32 (bh .u32 a b) (bh .u32 a c)) (bh .u32 b c)
abbrev JV (h e f g kk ww : Int) : Int := WK .u32 ((WK .u32 ((WK .u32 ((WK .u32 (h + Kz e)) + chE e f g)) + kk)) + ww)
abbrev LJ (a b c : Int) : Int := WK .u32 (KB a + maj a b c)
def rnd (w : Vector Int 64) (t : Nat) (v : Vector Int 8) : Vector Int 8 :=
 ⟨#[WK .u32 (JV (vAt 0 v 7) (vAt 0 v 4) (vAt 0 v 5) (vAt 0 v 6) (vAt 0 ak (t : Int)) (vAt 0 w (t : Int)) + LJ (vAt 0 v 0) (vAt 0 v 1) (vAt 0 v 2)), vAt 0 v 0, vAt 0 v 1, vAt 0 v 2,
  WK .u32 (vAt 0 v 3 + JV (vAt 0 v 7) (vAt 0 v 4) (vAt 0 v 5) (vAt 0 v 6) (vAt 0 ak (t : Int)) (vAt 0 w (t : Int))), vAt 0 v 4, vAt 0 v 5, vAt 0 v 6], rfl⟩
def lx (st : Vector Int 8) (b : Vector Int 16) : Vector Int 8 := itr (rnd (ot b)) st 64
def wY (st : Vector Int 8) (b : Vector Int 16) : Vector Int 8 := itr (fun i v => dG v (i : Int) (WK .u32 (vAt 0 v (i : Int) + vAt 0 st (i : Int)))) (lx st b) 8
theorem Dz (st : Vector Int 8) (b : Vector Int 16) : mH 1000 (st, b) = some (wY st b) := by
 unfold mH
 dsimp only
 refine aj (ig (fW b) id 0 64 1000 _ (fun i hi s => ?_) (fun s => ?_) (by omega)) ?_
 ·simp only [Nat.zero_add]
  refine (congrArg (ai · _ _) (be (by omega))).trans ((ag _ _).trans ?_)
  by_cases h : i < 16
  ·refine (congrArg (ai · _ _) (be (by omega))).trans ((ag _ _).trans ?_)
   repeat refine (aa (by exact ⟨by omega, by omega⟩)).trans ?_
   have e : fW b i s = dG s (i : Int) (vAt 0 b (i : Int)) := if_pos h
   rw [e, av (x := (i : Int) + 1) (by omega) (by omega)]
   rfl
  ·refine (congrArg (ai · _ _) (aM (by omega))).trans ((ac _ _).trans ?_)
   repeat refine (aa (by first | exact Gm (by omega) (by omega) (by omega) | exact ⟨by omega, by omega⟩ | decide)).trans ?_
   have e : fW b i s = dG s (i : Int) (Ia s (i : Int)) := if_neg h
   rw [e, av (x := (i : Int) + 1) (by omega) (by omega)]
   rfl
 ·exact (congrArg (ai · _ _) (aM (by omega))).trans (ac _ _)
 ·refine aj (ig (rnd (ot b)) id 0 64 1000 _ (fun i hi s => ?_) (fun s => ?_) (by omega)) ?_
  ·simp only [Nat.zero_add]
   refine (congrArg (ai · _ _) (be (by omega))).trans ((ag _ _).trans ?_)
   repeat refine (aa (by first | exact ⟨by omega, by omega⟩ | decide)).trans ?_
   rw [av (x := (i : Int) + 1) (by omega) (by omega)]
   rfl
  ·exact (congrArg (ai · _ _) (aM (by omega))).trans (ac _ _)
  ·refine aj (ig (fun i v => dG v (i : Int) (WK .u32 (vAt 0 v (i : Int) + vAt 0 st (i : Int)))) id 0 8 1000 _ (fun i hi s => ?_) (fun s => ?_) (by omega)) rfl
   ·simp only [Nat.zero_add]
    refine (congrArg (ai · _ _) (be (by omega))).trans ((ag _ _).trans ?_)
    repeat refine (aa (by exact ⟨by omega, by omega⟩)).trans ?_
    rw [av (x := (i : Int) + 1) (by omega) (by omega)]
    rfl
   ·exact (congrArg (ai · _ _) (aM (by omega))).trans (ac _ _)
theorem KC (k : Nat) (x : Int) : jV k (x, 6, 11, 25) = some (Kz x) := by
 unfold jV
 dsimp only
 repeat refine (aa (by decide +kernel)).trans ?_
 unfold Kz
 rw [← pr6, ← L7, ← Me]
theorem KD (k : Nat) (x : Int) : jV k (x, 2, 13, 22) = some (KB x) := by
 unfold jV
 dsimp only
 repeat refine (aa (by decide +kernel)).trans ?_
 unfold KB
 rw [← pr2, ← L8, ← Mc]
theorem DA (st : Vector Int 8) (b : Vector Int 16) : qX 1000 (st, b, ak) = some (wY st b) := by
 unfold qX
 dsimp only
 refine aj (zN b) ?_
 repeat refine (aa (by decide)).trans ?_
 refine aj (bS (fun i : Nat => (vAt 0 (itr (rnd (ot b)) st i) 0, vAt 0 (itr (rnd (ot b)) st i) 1, vAt 0 (itr (rnd (ot b)) st i) 2, vAt 0 (itr (rnd (ot b)) st i) 3, vAt 0 (itr (rnd (ot b)) st i) 4, vAt 0 (itr (rnd (ot b)) st i) 5, vAt 0 (itr (rnd (ot b)) st i) 6, vAt 0 (itr (rnd (ot b)) st i) 7, (i : Int))) 64
  (vAt 0 (lx st b) 0, vAt 0 (lx st b) 1, vAt 0 (lx st b) 2, vAt 0 (lx st b) 3, vAt 0 (lx st b) 4, vAt 0 (lx st b) 5, vAt 0 (lx st b) 6, vAt 0 (lx st b) 7) 1000 (fun i hi => ?_) ?_ (by omega)) ?_
 ·dsimp only
  refine (congrArg (ai · _ _) (be (by omega))).trans ((ag _ _).trans ?_)
  repeat refine (aa (by exact ⟨by omega, by omega⟩)).trans ?_
  refine aj (KC _ _) (aj (KD _ _) ?_)
  rw [av (x := (i : Int) + 1) (by omega) (by omega)]
  rfl
 ·dsimp only
  exact (congrArg (ai · _ _) (aM (by omega))).trans (ac _ _)
 ·obtain ⟨V, hV⟩ : ∃ V, V = lx st b := ⟨_, rfl⟩
  rw [← hV]
  have hX : ∀ j : Nat, j < 8 → vAt 0 (⟨#[vAt 0 V 0, vAt 0 V 1, vAt 0 V 2, vAt 0 V 3, vAt 0 V 4, vAt 0 V 5, vAt 0 V 6, vAt 0 V 7], rfl⟩ : Vector Int 8) (j : Int) = vAt 0 V (j : Int) := by
   intro j hj
   match j with
   | 0 => rfl
   | 1 => rfl
   | 2 => rfl
   | 3 => rfl
   | 4 => rfl
   | 5 => rfl
   | 6 => rfl
   | 7 => rfl
   | n + 8 => omega
  refine aj (ig (fun i v => dG v (i : Int) (WK .u32 (vAt 0 v (i : Int) + vAt 0 V (i : Int)))) id 0 8 1000 _ (fun i hi s => ?_) (fun s => ?_) (by omega)) ?_
  ·simp only [Nat.zero_add]
   refine (congrArg (ai · _ _) (be (by omega))).trans ((ag _ _).trans ?_)
   repeat refine (aa (by exact ⟨by omega, by omega⟩)).trans ?_
   rw [av (x := (i : Int) + 1) (by omega) (by omega), hX i hi]
   rfl
  ·exact (congrArg (ai · _ _) (aM (by omega))).trans (ac _ _)
  ·have key : itr (fun i v => dG v (i : Int) (WK .u32 (vAt 0 v (i : Int) + vAt 0 V (i : Int)))) st 8 = wY st b := by
    unfold wY
    rw [← hV]
    apply Vector.ext
    intro j hj
    rw [lU (fun i x => WK .u32 (x + vAt 0 V (i : Int))) (fun i _ v => rfl) st 8 (by omega) j hj, lU (fun i x => WK .u32 (x + vAt 0 st (i : Int))) (fun i _ v => rfl) V 8 (by omega) j hj, if_pos hj, if_pos hj, tK V j hj, tK st j hj, Int.add_comm]
   exact congrArg some key
theorem Gr (x : Int) {y : Int} (y0 : 0 ≤ y) (y1 : y ≤ 255) : orK .u32 (cq .u32 x 8) (WK .u32 y) = WK .u32 (WK .u32 (x * 256) + WK .u32 y) := by
 obtain ⟨m, rfl⟩ := Int.eq_ofNat_of_zero_le y0
 obtain ⟨q, hq, hq2⟩ : ∃ q : Nat, WK .u32 (x * 256) = ((q * 256 : Nat) : Int) ∧ q < 16777216 := by
  rw [vp]
  refine ⟨((x * 256 % 4294967296) / 256).toNat, by omega, by omega⟩
 have e1 : cq .u32 x 8 = ((q * 256 : Nat) : Int) := by
  show WK .u32 (x * 2 ^ (min (8 : Int).toNat 32)) = _
  rw [show ((2 : Int) ^ (min (8 : Int).toNat 32)) = 256 by decide, hq]
 have e3 : WK .u32 (m : Int) = (m : Int) := by rw [vp]; omega
 rw [e1, hq, e3]
 show WK .u32 (((BitVec.ofInt 32 ((q * 256 : Nat) : Int)) ||| (BitVec.ofInt 32 (m : Int))).toNat : Int) = _
 rw [BitVec.toNat_or, BitVec.toNat_ofInt, BitVec.toNat_ofInt]
 rw [show (((q * 256 : Nat) : Int) % ((2 ^ 32 : Nat) : Int)).toNat = q * 256 by omega, show (((m : Nat) : Int) % ((2 ^ 32 : Nat) : Int)).toNat = m by omega]
 have e2 : q * 256 ||| m = q * 256 + m := by
  have := Nat.two_pow_add_eq_or_of_lt (i := 8) (b := m) (by omega) q
  rw [Nat.mul_comm q 256]
  exact this.symm
 rw [e2]
 congr 1
abbrev byt (l : List UInt8) (i : Nat) : Int := ((l.getD i 0).toNat : Int)
def fB (l : List UInt8) (i : Nat) (b : Vector Int 16) : Vector Int 16 := dG b ((i / 4 : Nat) : Int) (WK .u32 (WK .u32 (vAt 0 b ((i / 4 : Nat) : Int) * 256) + WK .u32 (byt l i)))
def Gs (l : List UInt8) : Vector Int 16 := itr (fB l) (Vector.replicate 16 0) 64
theorem Gt (l r : List UInt8) (h : 64 ≤ l.length) : Gs (l ++ r) = Gs l := by
 unfold Gs
 refine sq _ 64 (fun i hi s => ?_)
 unfold fB byt
 rw [List.getD_eq_getElem?_getD, List.getD_eq_getElem?_getD, List.getElem?_append_left (by omega)]
def jn (st : Vector Int 8) : Nat → List UInt8 → Vector Int 8
 | 0, _ => st
 | n + 1, l => jn (wY st (Gs l)) n (l.drop 64)
theorem vv : ∀ (n : Nat) (st : Vector Int 8) (l r : List UInt8), 64 * n ≤ l.length → jn st n (l ++ r) = jn st n l
 | 0, _, _, _, _ => rfl
 | n + 1, st, l, r, h => by
   simp only [jn]
   rw [Gt l r (by omega), List.drop_append_of_le_length (by omega), vv n _ _ _ (by simp; omega)]
theorem rq (b : Nat) : ∀ (a : Nat) (st : Vector Int 8) (l : List UInt8), jn st (a + b) l = jn (jn st a l) b (l.drop (64 * a))
 | 0, st, l => by simp [jn]
 | a + 1, st, l => by
   rw [show a + 1 + b = (a + b) + 1 by omega]
   simp only [jn]
   rw [rq b a, List.drop_drop]
   congr 2
   omega
theorem wZ (st : Vector Int 8) (i : Nat) (l : List UInt8) : jn st (i + 1) l = wY (jn st i l) (Gs (l.drop (64 * i))) := by
 rw [rq 1 i]; rfl
theorem DB (l : List UInt8) (a i : Nat) : (l.drop a).getD i 0 = l.getD (a + i) 0 := by
 rw [List.getD_eq_getElem?_getD, List.getD_eq_getElem?_getD, List.getElem?_drop]
theorem Cq (i : Nat) : Int.tdiv (i : Int) 4 = ((i / 4 : Nat) : Int) := rfl
theorem JW (i : Nat) : Int.tmod (i : Int) 4 = ((i % 4 : Nat) : Int) := rfl
theorem qg {n : Nat} (h : n ≤ 9223372036854775807) : WK .i64 (n : Int) = (n : Int) := av (by omega) (by omega)
theorem tL {n : Nat} (h : n ≤ 9223372036854775807) : WK .u64 (n : Int) = (n : Int) := Bl (by omega) (by omega)
theorem sr (st : Vector Int 8) (l : List UInt8) (hl : l.length ≤ 50000) : jW 1000 (st, mkB l, ak) = some (jn st (l.length / 64) l, mkB (l.drop (64 * (l.length / 64)))) := by
 unfold jW
 dsimp only
 refine aj (bS (fun i : Nat => (mkB (l.drop (64 * i)), jn st i l)) (l.length / 64) (mkB (l.drop (64 * (l.length / 64))), jn st (l.length / 64) l) 1000 (fun i hi => ?_) ?_ (by omega)) rfl
 ·dsimp only
  rw [dj, List.length_drop]
  refine (congrArg (ai · _ _) (fA (by omega))).trans ((ag _ _).trans ?_)
  refine aj (ig (fB (l.drop (64 * i))) id 0 64 1000 _ (fun j hj s => ?_) (fun s => ?_) (by omega)) ?_
  ·simp only [Nat.zero_add]
   refine (congrArg (ai · _ _) (be (by omega))).trans ((ag _ _).trans ?_)
   rw [Cq, qg (n := j / 4) (by omega), av (x := (j : Int) + 1) (by omega) (by omega)]
   repeat refine (aa (by first | exact ⟨by omega, by omega⟩ | decide)).trans ?_
   rw [Cp, Gr _ (by omega) (Ib _)]
   rfl
  ·exact (congrArg (ai · _ _) (aM (by omega))).trans (ac _ _)
  ·refine aj (DA _ _) ?_
   refine (aa ⟨by omega, by omega, by omega⟩).trans ?_
   rw [show ((l.length - 64 * i : Nat) : Int) = cZ (mkB (l.drop (64 * i))) by rw [dj, List.length_drop], Dy, List.drop_drop, wZ]
   rfl
 ·dsimp only
  rw [dj, List.length_drop]
  exact (congrArg (ai · _ _) (lS (by omega))).trans (ac _ _)
def km : Vector Int 8 := ⟨#[1779033703, 3144134277, 1013904242, 2773480762, 1359893119, 2600822924, 528734635, 1541459225], rfl⟩
def LL (st : Vector Int 8) : Vector Int 32 := itr (fun i v => dG v (i : Int) (WK .u8 (cW .u32 (vAt 0 st ((i / 4 : Nat) : Int)) ((24 - 8 * (i % 4) : Nat) : Int)))) (Vector.replicate 32 0) 32
def lbt (n j : Nat) : Int := WK .u8 (cW .u64 (WK .u64 ((n : Int) * 8)) ((8 * j : Nat) : Int))
def ru (n : Nat) : List UInt8 := (List.range 8).map fun i => UInt8.ofNat (lbt n (7 - i)).toNat
def zs (n : Nat) : Nat := (119 - n % 64) % 64
def kv (l : List UInt8) : List UInt8 := l ++ [128] ++ List.replicate (zs l.length) 0 ++ ru l.length
theorem lV (n : Nat) : (ru n).length = 8 := by simp [ru]
theorem vw (l : List UInt8) : (kv l).length = l.length + 9 + zs l.length := by simp [kv, lV]; omega
theorem zO (l : List UInt8) : (kv l).length % 64 = 0 := by rw [vw]; unfold zs; omega
def hsh (l : List UInt8) : Vector Int 32 := LL (jn km ((kv l).length / 64) (kv l))
theorem cr {a b : List UInt8} (h : a.length + b.length ≤ 1000000) : bJ (mkB a) (mkB b) := by
 unfold bJ; rw [ou, ou]; omega
theorem zP (st : Vector Int 8) {step : (Int × Vector Int 32) → Option ((Int × Vector Int 32) ⊕ Vector Int 32)}
 (hs : ∀ i : Nat, i < 32 → ∀ s, step ((i : Int), s) = some (.inl (((i + 1 : Nat) : Int), dG s (i : Int) (WK .u8 (cW .u32 (vAt 0 st ((i / 4 : Nat) : Int)) ((24 - 8 * (i % 4) : Nat) : Int)))))) (he : ∀ s, step (32, s) = some (.inr s)) :
 aP 1000 step (0, Vector.replicate 32 0) = some (LL st) :=
 ig (fun i v => dG v (i : Int) (WK .u8 (cW .u32 (vAt 0 st ((i / 4 : Nat) : Int)) ((24 - 8 * (i % 4) : Nat) : Int)))) id 0 32 1000 _ (fun i hi s => by simp only [Nat.zero_add]; exact hs i hi s) (fun s => he s) (by omega)
theorem KE (l : List UInt8) (hl : l.length ≤ 50000) : ja 1000 (mkB l) = some (hsh l) := by
 unfold ja
 refine (aa (cr (b := [128]) (by simp; omega))).trans ?_
 have hz : zs l.length < 64 := by unfold zs; omega
 have e0 : mkB l ++ ⟨#[128]⟩ = (fun i : Nat => mkB (l ++ [128] ++ List.replicate i 0)) 0 := by
  show mkB l ++ mkB [128] = _
  rw [ce]; simp
 rw [e0]
 refine aj (bS (fun i : Nat => mkB (l ++ [128] ++ List.replicate i 0)) (zs l.length) (mkB (l ++ [128] ++ List.replicate (zs l.length) 0)) 1000 (fun i hi => ?_) ?_ (by omega)) ?_
 ·refine (aa (by decide)).trans ?_
  have hb : cZ (mkB (l ++ [128] ++ List.replicate i 0)) = ((l.length + 1 + i : Nat) : Int) := by rw [dj]; simp; omega
  rw [hb]
  refine (congrArg (ai · _ _) (rn (show Int.tmod ((l.length + 1 + i : Nat) : Int) 64 ≠ 56 from ?_))).trans ((ag _ _).trans ?_)
  ·show (((l.length + 1 + i) % 64 : Nat) : Int) ≠ 56
   unfold zs at hi; omega
  ·refine (aa (cr (b := [0]) (by simp; omega))).trans ?_
   have : mkB (l ++ [128] ++ List.replicate i 0) ++ ⟨#[0]⟩ = mkB (l ++ [128] ++ List.replicate (i + 1) 0) := by
    show mkB _ ++ mkB [0] = _
    rw [ce, List.append_assoc (l ++ [128]), List.replicate_succ' (n := i)]
   rw [this]
 ·refine (aa (by decide)).trans ?_
  have hb : cZ (mkB (l ++ [128] ++ List.replicate (zs l.length) 0)) = ((l.length + 1 + zs l.length : Nat) : Int) := by rw [dj]; simp; omega
  rw [hb]
  refine (congrArg (ai · _ _) (eh (show Int.tmod ((l.length + 1 + zs l.length : Nat) : Int) 64 = 56 from ?_))).trans (ac _ _)
  show (((l.length + 1 + zs l.length) % 64 : Nat) : Int) = 56
  unfold zs; omega
 ·obtain ⟨A, hA⟩ : ∃ A, A = l ++ [128] ++ List.replicate (zs l.length) 0 := ⟨_, rfl⟩
  have hAl : A.length ≤ 50100 := by rw [hA]; simp; omega
  have hP : kv l = A ++ ru l.length := by rw [hA]; rfl
  rw [← hA]
  have e1 : ((mkB A, 7) : ByteArray × Int) = (fun i : Nat => (mkB (A ++ (ru l.length).take i), (7 : Int) - (i : Int))) 0 := by simp
  rw [e1]
  refine aj (bS (fun i : Nat => (mkB (A ++ (ru l.length).take i), (7 : Int) - (i : Int))) 8 (mkB (kv l)) 1000 (fun i hi => ?_) ?_ (by omega)) ?_
  ·dsimp only
   refine (congrArg (ai · _ _) (fA (by omega))).trans ((ag _ _).trans ?_)
   have e2 : WK .i64 (8 * ((7 : Int) - (i : Int))) = ((8 * (7 - i) : Nat) : Int) := by rw [av (by omega) (by omega)]; omega
   rw [e2, tL (n := 8 * (7 - i)) (by omega), dj, tL (n := l.length) (by omega)]
   refine (aa (show nn ((8 * (7 - i) : Nat) : Int) by unfold nn; omega)).trans ?_
   have e3 : strOfNums [WK .u8 (cW .u64 (WK .u64 ((l.length : Int) * 8)) ((8 * (7 - i) : Nat) : Int))] = mkB [UInt8.ofNat (lbt l.length (7 - i)).toNat] := rfl
   rw [e3]
   refine (aa (cr (by simp [lV]; omega))).trans ?_
   rw [ce, List.append_assoc, av (x := (7 : Int) - (i : Int) - 1) (by omega) (by omega)]
   have e4 : (ru l.length).take i ++ [UInt8.ofNat (lbt l.length (7 - i)).toNat] = (ru l.length).take (i + 1) := by
    rw [List.take_add_one, List.getElem?_eq_getElem (by rw [lV]; omega)]
    simp [ru]
   rw [e4]
   congr 3
   omega
  ·dsimp only
   rw [List.take_of_length_le (by rw [lV]; omega), ← hP]
   exact (congrArg (ai · _ _) (lS (by omega))).trans (ac _ _)
  ·have hm := zO l
   have hpl := vw l
   refine aj (bS (fun i : Nat => (((64 * i : Nat) : Int), jn km i (kv l))) ((kv l).length / 64) (jn km ((kv l).length / 64) (kv l)) 1000 (fun i hi => ?_) ?_ (by omega)) ?_
   ·dsimp only
    rw [dj]
    refine (congrArg (ai · _ _) (be (by omega))).trans ((ag _ _).trans ?_)
    refine aj (ig (fB ((kv l).drop (64 * i))) id 0 64 1000 _ (fun j hj s => ?_) (fun s => ?_) (by omega)) ?_
    ·simp only [Nat.zero_add]
     refine (congrArg (ai · _ _) (be (by omega))).trans ((ag _ _).trans ?_)
     rw [Cq, qg (n := j / 4) (by omega), av (x := (j : Int) + 1) (by omega) (by omega)]
     have e5 : WK .i64 (((64 * i : Nat) : Int) + (j : Int)) = ((64 * i + j : Nat) : Int) := by rw [av (by omega) (by omega)]; omega
     rw [e5]
     repeat refine (aa (by first | exact ⟨by omega, by omega⟩ | decide)).trans ?_
     rw [Cp, Int.toNat_natCast, ← DB]
     rfl
    ·exact (congrArg (ai · _ _) (aM (by omega))).trans (ac _ _)
    ·refine aj (Dz _ _) ?_
     rw [wZ]
     have e6 : WK .i64 (((64 * i : Nat) : Int) + 64) = ((64 * (i + 1) : Nat) : Int) := by rw [av (by omega) (by omega)]; omega
     rw [e6]
     rfl
   ·dsimp only
    rw [dj]
    exact (congrArg (ai · _ _) (aM (by omega))).trans (ac _ _)
   ·refine aj (zP (jn km ((kv l).length / 64) (kv l)) (fun i hi s => ?_) (fun s => ?_)) rfl
    ·dsimp only
     refine (congrArg (ai · _ _) (be (by omega))).trans ((ag _ _).trans ?_)
     have e7 : WK .i64 (8 * ((i % 4 : Nat) : Int)) = ((8 * (i % 4) : Nat) : Int) := by rw [av (by omega) (by omega)]; omega
     have e8 : WK .i64 (24 - ((8 * (i % 4) : Nat) : Int)) = ((24 - 8 * (i % 4) : Nat) : Int) := by rw [av (by omega) (by omega)]; omega
     rw [Cq, JW, qg (n := i / 4) (by omega), e7, e8, tL (n := 24 - 8 * (i % 4)) (by omega), av (x := (i : Int) + 1) (by omega) (by omega)]
     repeat refine (aa (by first | exact ⟨by omega, by omega⟩ | decide | (unfold nn; omega))).trans ?_
     rfl
    ·exact (congrArg (ai · _ _) (aM (by omega))).trans (ac _ _)
abbrev cI (l : List UInt8) : Bool × Vector Int 8 × ByteArray × Int := (true, jn km (l.length / 64) l, mkB (l.drop (64 * (l.length / 64))), (l.length : Int))
theorem te (s : List UInt8) (hs : s.length ≤ 50000) (z : Vector Int 8) : bC 1000 (mkB s, false, z, aG, 0, ak) = some ((s.length : Int), cI s) := by
 unfold bC
 simp only [Bool.not_false, ag, Option.bind_some]
 refine (aa (cr (a := []) (by simp; omega))).trans ?_
 have e : (aG : ByteArray) ++ mkB s = mkB s := by
  show mkB [] ++ mkB s = _
  rw [ce]; rfl
 rw [e]
 refine aj (sr _ s hs) ?_
 rw [dj, Int.zero_add, qg (by omega)]
 rfl
theorem qh (t s : List UInt8) (hs : t.length + s.length ≤ 50000) : bC 1000 (mkB s, (cI t).1, (cI t).2.1, (cI t).2.2.1, (cI t).2.2.2, ak) = some ((s.length : Int), cI (t ++ s)) := by
 unfold bC
 simp only [Bool.not_true, ac, Option.bind_some]
 refine (aa (cr (by simp; omega))).trans ?_
 rw [ce]
 refine aj (sr _ _ (by simp; omega)) ?_
 have e1 : (t.drop (64 * (t.length / 64)) ++ s) = (t ++ s).drop (64 * (t.length / 64)) := by
  rw [List.drop_append_of_le_length (by omega)]
 have e2 : (t ++ s).length / 64 = t.length / 64 + (((t ++ s).drop (64 * (t.length / 64))).length / 64) := by
  simp only [List.length_drop, List.length_append]; omega
 have e3 : jn km (t.length / 64) t = jn km (t.length / 64) (t ++ s) := (vv _ _ _ _ (by omega)).symm
 rw [e1, e3, ← rq, ← e2, List.drop_drop, dj]
 have e4 : 64 * (t.length / 64) + 64 * (((t ++ s).drop (64 * (t.length / 64))).length / 64) = 64 * ((t ++ s).length / 64) := by rw [e2]; omega
 have e5 : WK .i64 ((t.length : Int) + (s.length : Int)) = ((t ++ s).length : Int) := by rw [av (by omega) (by omega)]; simp
 rw [e4, e5]
theorem zQ : ∀ n, Lib.repeatL [0] n = List.replicate n (0 : UInt8)
 | 0 => rfl
 | n + 1 => by rw [Lib.repeatL, zQ n]; rfl
theorem Gu {n : Nat} (h : n ≤ 1000) : strings_Repeat 1000 (⟨#[0]⟩, (n : Int)) = some (mkB (List.replicate n 0)) := by
 show cw 1000 _ = _
 unfold cw
 have h3 : (⟨#[0]⟩ : ByteArray).size * (n : Int).toNat ≤ 140737488355328 := by
  show 1 * (n : Int).toNat ≤ _
  omega
 refine (aa ⟨by omega, by omega, h3⟩).trans ?_
 rw [← zQ]; rfl
theorem Gv (n : Nat) (w : Vector Int 8) : ((itr (fun i v => dG v (i : Int) (lbt n (7 - i))) w 8).toList.map fun x => UInt8.ofNat x.toNat) = ru n := by
 apply List.ext_getElem
 ·simp [ru]
 ·intro j h1 h2
  have hj : j < 8 := by rw [lV] at h2; exact h2
  simp only [List.getElem_map, Vector.getElem_toList]
  rw [lU (fun i _ => lbt n (7 - i)) (fun i _ v => rfl) w 8 (by omega) j hj, if_pos hj]
  simp [ru]
theorem Bm (x : Bool × Vector Int 8 × ByteArray × Int) (t : List UInt8) (ht : t.length ≤ 49000) (hx : x = cI t ∨ (x.1 = false ∧ t = [])) : fe 1000 (x.1, x.2.1, x.2.2.1, x.2.2.2, ak) = some (hsh t) := by
 unfold fe
 have e0 : (ai x.1 (some ((x.2.2.1, (WK .u64 x.2.2.2), x.2.1))) (some ((aG, 0, ⟨#[1779033703, 3144134277, 1013904242, 2773480762, 1359893119, 2600822924, 528734635, 1541459225], rfl⟩))) : Option (ByteArray × Int × (Vector Int 8))) = some (mkB (t.drop (64 * (t.length / 64))), (t.length : Int), jn km (t.length / 64) t) := by
  rcases hx with rfl | ⟨h1, rfl⟩
  ·simp only [ag]
   rw [tL (by omega)]
  ·rw [h1, ac]; rfl
 refine aj e0 ?_
 dsimp only
 refine (aa (by decide)).trans ?_
 refine aj (ig (fun i v => dG v (i : Int) (lbt t.length (7 - i))) id 0 8 1000 _ (fun i hi s => ?_) (fun s => ?_) (by omega)) ?_
 ·simp only [Nat.zero_add]
  refine (congrArg (ai · _ _) (be (by omega))).trans ((ag _ _).trans ?_)
  have e1 : WK .i64 (7 - (i : Int)) = ((7 - i : Nat) : Int) := by rw [av (by omega) (by omega)]; omega
  have e2 : WK .i64 (8 * ((7 - i : Nat) : Int)) = ((8 * (7 - i) : Nat) : Int) := by rw [av (by omega) (by omega)]; omega
  rw [e1, e2, av (x := (i : Int) + 1) (by omega) (by omega)]
  repeat refine (aa (by first | exact ⟨by omega, by omega⟩ | (unfold nn; omega))).trans ?_
  rfl
 ·exact (congrArg (ai · _ _) (aM (by omega))).trans (ac _ _)
 ·obtain ⟨r, hr⟩ : ∃ r, r = t.drop (64 * (t.length / 64)) := ⟨_, rfl⟩
  have hrl : r.length = t.length % 64 := by rw [hr, List.length_drop]; omega
  rw [← hr]
  refine (aa (cr (b := [128]) (by simp; omega))).trans ?_
  have e3 : Int.tmod (WK .i64 (119 - cZ (mkB r))) 64 = ((zs t.length : Nat) : Int) := by
   rw [dj, av (by omega) (by omega), show (119 : Int) - (r.length : Int) = ((119 - t.length % 64 : Nat) : Int) by omega]
   rfl
  have hz : zs t.length < 64 := by unfold zs; omega
  rw [e3]
  refine aj (Gu (by omega)) ?_
  have e4 : mkB r ++ ⟨#[128]⟩ = mkB (r ++ [128]) := by
   show mkB r ++ mkB [128] = _
   rw [ce]
  rw [e4]
  refine (aa (cr (by simp; omega))).trans ?_
  rw [ce]
  have e5 : strOfNums (Vector.toList (id (itr (fun i v => dG v (i : Int) (lbt t.length (7 - i))) (Vector.replicate 8 0) 8))) = mkB (ru t.length) := by
   rw [vt, id, Gv]
  rw [e5]
  refine (aa (cr (by simp [lV]; omega))).trans ?_
  rw [ce]
  have e6 : r ++ [128] ++ List.replicate (zs t.length) 0 ++ ru t.length = (kv t).drop (64 * (t.length / 64)) := by
   unfold kv
   simp only [List.append_assoc]
   rw [List.drop_append_of_le_length (by omega), hr]
  have hpl := vw t
  have hpm := zO t
  rw [e6]
  refine aj (sr _ _ (by rw [List.length_drop]; omega)) ?_
  have e7 : jn km (t.length / 64) t = jn km (t.length / 64) (kv t) := by
   unfold kv
   simp only [List.append_assoc]
   exact (vv _ _ _ _ (by omega)).symm
  have e8 : t.length / 64 + ((kv t).drop (64 * (t.length / 64))).length / 64 = (kv t).length / 64 := by rw [List.length_drop]; omega
  rw [e7, ← rq, e8]
  refine aj (zP (jn km ((kv t).length / 64) (kv t)) (fun i hi s => ?_) (fun s => ?_)) rfl
  ·dsimp only
   refine (congrArg (ai · _ _) (be (by omega))).trans ((ag _ _).trans ?_)
   have e9 : WK .i64 (8 * ((i % 4 : Nat) : Int)) = ((8 * (i % 4) : Nat) : Int) := by rw [av (by omega) (by omega)]; omega
   have e10 : WK .i64 (24 - ((8 * (i % 4) : Nat) : Int)) = ((24 - 8 * (i % 4) : Nat) : Int) := by rw [av (by omega) (by omega)]; omega
   rw [Cq, JW, qg (n := i / 4) (by omega), e9, e10, av (x := (i : Int) + 1) (by omega) (by omega)]
   repeat refine (aa (by first | exact ⟨by omega, by omega⟩ | decide | (unfold nn; omega))).trans ?_
   rfl
  ·exact (congrArg (ai · _ _) (aM (by omega))).trans (ac _ _)
theorem qj (ps : List (List UInt8)) (hn : ps.length ≤ 900) (hl : ps.flatten.length ≤ 49000) : dM 1000 (ps.map mkB, ak) = some (hsh ps.flatten) := by
 have pre : ∀ i, (ps.take i).flatten.length ≤ 49000 := fun i => by
  have h : ps.flatten = (ps.take i).flatten ++ (ps.drop i).flatten := by rw [← List.flatten_append, List.take_append_drop]
  rw [h, List.length_append] at hl
  omega
 unfold dM
 dsimp only
 refine fx (fun d h => ∃ (i : Nat) (x : Bool × Vector Int 8 × ByteArray × Int), h = ((i : Int), x) ∧ i + d = ps.length ∧ ((i = 0 ∧ x = (false, Vector.replicate 8 0, aG, 0)) ∨ (0 < i ∧ x = cI (ps.take i).flatten))) (fun e => e = cI ps.flatten ∨ (e.1 = false ∧ ps.flatten = [])) ps.length (by omega) ⟨0, _, rfl, by omega, .inl ⟨rfl, rfl⟩⟩ ?_ ?_
 ·rintro d _ ⟨i, x, rfl, hi, hx⟩
  dsimp only
  have hll : ae (ps.map mkB) = (ps.length : Int) := by simp [ae]
  rw [hll]
  by_cases a : i < ps.length
  ·refine (congrArg (fun b => Goes _ _ _ (ai b _ _)) (be (a := (i : Int)) (b := (ps.length : Int)) (by omega))).mpr ?_
   rw [ag, aa ⟨by omega, by omega⟩]
   have e1 : at_ .str (ps.map mkB) (i : Int) = mkB ps[i] := by
    rw [bL (t := .str) (by simpa using a)]
    simp
   have e2 : (ps.take (i + 1)).flatten = (ps.take i).flatten ++ ps[i] := by
    rw [List.take_add_one, List.getElem?_eq_getElem a, List.flatten_append]
    simp
   have hb := pre (i + 1)
   rw [e2, List.length_append] at hb
   rw [e1]
   have e3 : WK .i64 ((i : Int) + 1) = ((i + 1 : Nat) : Int) := av (by omega) (by omega)
   rcases hx with ⟨rfl, rfl⟩ | ⟨h0, rfl⟩
   ·rw [te _ (by omega), Option.bind_some, e3]
    exact .on (d - 1) (by omega) ⟨1, _, rfl, by omega, .inr ⟨by omega, by rw [e2]; simp⟩⟩
   ·rw [qh _ _ (by omega), Option.bind_some, e3]
    exact .on (d - 1) (by omega) ⟨i + 1, _, rfl, by omega, .inr ⟨by omega, by rw [e2]⟩⟩
  ·refine (congrArg (fun b => Goes _ _ _ (ai b _ _)) (aM (a := (i : Int)) (b := (ps.length : Int)) (by omega))).mpr ?_
   rw [ac]
   refine .out ?_
   rcases hx with ⟨rfl, rfl⟩ | ⟨h0, rfl⟩
   ·have : ps = [] := List.eq_nil_of_length_eq_zero (by omega)
    subst this
    exact .inr ⟨rfl, rfl⟩
   ·rw [List.take_of_length_le (by omega)]
    exact .inl rfl
 ·intro e he
  exact aj (Bm e ps.flatten hl he) rfl
def sp (n : Nat) : Nat := 2 ^ Nat.log2 (n - 1)
theorem xa {n : Nat} (h0 : 2 ≤ n) (h : n ≤ 1099511627776) : Nat.log2 (n - 1) < 40 := by
 have h1 := Nat.log2_self_le (n := n - 1) (by omega)
 apply Nat.lt_of_not_le
 intro h2
 have := Nat.pow_le_pow_right (n := 2) (by omega) h2
 omega
theorem ii {n : Nat} (h : 2 ≤ n) : sp n < n ∧ n ≤ 2 * sp n ∧ 1 ≤ sp n := by
 have h1 := Nat.log2_self_le (n := n - 1) (by omega)
 have h2 := Nat.lt_log2_self (n := n - 1)
 have h3 : 1 ≤ 2 ^ Nat.log2 (n - 1) := Nat.one_le_two_pow
 rw [Nat.pow_succ] at h2
 unfold sp
 omega
theorem xc {n d : Nat} (h : 2 ≤ n) (hd : n ≤ 2 ^ (d + 1)) : sp n ≤ 2 ^ d := by
 have h1 := (ii h).1
 unfold sp at h1 ⊢
 apply Nat.pow_le_pow_right (by omega)
 apply Nat.le_of_lt_succ
 exact (Nat.pow_lt_pow_iff_right (a := 2) (by omega)).1 (Nat.lt_of_lt_of_le h1 hd)
theorem zT : ∀ x : Nat, x ≠ 0 → x < 2 ^ 64 → Lib.bitLen x = Nat.log2 x + 1 := by
 intro x
 induction x using Nat.strongRecOn with
 | _ x ih =>
   intro h0 h
   rw [Lib.bitLen_half x h0 h, Nat.log2_def]
   by_cases h2 : 2 ≤ x
   ·rw [if_pos h2, ih (x / 2) (by omega) (by omega) (by omega)]
    omega
   ·have : x = 1 := by omega
    subst this
    decide
theorem Ic (j : Nat) (h : j ≤ 62) : cq .i64 1 (j : Int) = ((2 ^ j : Nat) : Int) := by
 unfold cq
 have e : min (j : Int).toNat IntKind.i64.bits = j := by
  have : IntKind.i64.bits = 64 := rfl
  omega
 rw [e, Int.one_mul]
 have h1 : (2 : Nat) ^ j ≤ 2 ^ 62 := Nat.pow_le_pow_right (by omega) h
 have h2 : ((2 : Int) ^ j) = ((2 ^ j : Nat) : Int) := by simp
 rw [h2]
 have h3 : (2 : Nat) ^ 62 = 4611686018427387904 := by decide
 rw [h3] at h1
 generalize 2 ^ j = p at h1 ⊢
 exact av (by omega) (by omega)
theorem qk {n d : Nat} (h : 2 ≤ n) (hd : n ≤ 2 ^ d) : ∃ d', d = d' + 1 := by
 cases d with
 | zero => simp at hd; omega
 | succ d => exact ⟨d, rfl⟩
theorem Gw {n : Nat} (h : n ≤ 1099511627776) : gJ 1000 (n : Int) = some (if n < 2 then 0 else ((sp n : Nat) : Int)) := by
 unfold gJ
 by_cases a : n < 2
 ·rw [be (by omega), ag, if_pos a]
 ·rw [aM (by omega), ac, if_neg a]
  have a1 : 2 ≤ n := by omega
  have hl := xa a1 h
  refine fx (fun d h => ∃ i, h = ((2 ^ i : Nat) : Int) ∧ i + d = Nat.log2 (n - 1)) (fun e => e = ((sp n : Nat) : Int)) (Nat.log2 (n - 1)) (by omega) ⟨0, by simp, by simp⟩ ?_ (fun e he => by rw [he])
  rintro d _ ⟨i, rfl, hi⟩
  have g1 := Nat.log2_self_le (n := n - 1) (by omega)
  have g2 := Nat.lt_log2_self (n := n - 1)
  have e1 : WK .i64 ((n : Int) - 1) = ((n - 1 : Nat) : Int) := by rw [av (by omega) (by omega)]; omega
  have e2 : Int.tdiv ((n - 1 : Nat) : Int) 2 = (((n - 1) / 2 : Nat) : Int) := rfl
  have hp : 2 ^ i ≤ 2 ^ Nat.log2 (n - 1) := Nat.pow_le_pow_right (by omega) (by omega)
  rw [aa (by decide), e1, e2, av (x := (((n - 1) / 2 : Nat) : Int)) (by omega) (by omega)]
  cases d with
  | zero =>
    have : i = Nat.log2 (n - 1) := by omega
    subst this
    rw [Nat.pow_succ] at g2
    rw [Gg (by omega), ac]
    exact .out rfl
  | succ d =>
    have hq : 2 ^ (i + 1) ≤ 2 ^ Nat.log2 (n - 1) := Nat.pow_le_pow_right (by omega) (by omega)
    rw [Nat.pow_succ] at hq
    rw [lR (by omega), ag]
    have e3 : WK .i64 (2 * ((2 ^ i : Nat) : Int)) = ((2 ^ (i + 1) : Nat) : Int) := by
     rw [av (by omega) (by omega), Nat.pow_succ]; omega
    rw [e3]
    exact .on d (by omega) ⟨i + 1, rfl, by omega⟩
theorem mN {H E R : Type} {step : H → Option (H ⊕ E)} {f : E → Option R} {P : R → Prop} {h0 : H} {k : Nat} (I : Nat → H → Prop) (Q : E → Prop) (n : Nat) (hk : n < k) (h : I n h0)
 (hs : ∀ n h, I n h → Goes I Q n (step h)) (hf : ∀ e, Q e → ∃ r, f e = some r ∧ P r) : ∃ r, (aP k step h0).bind f = some r ∧ P r := by
 obtain ⟨e, he, hq⟩ := lT (step := step) I Q (fun n h hi => by
  have g := hs n h hi
  generalize step h = o at g ⊢
  cases g with
  | on m lt i => exact .inl ⟨_, m, rfl, lt, i⟩
  | out q => exact .inr ⟨_, rfl, q⟩) n h0 h k hk
 obtain ⟨r, h1, h2⟩ := hf e hq
 exact ⟨r, by rw [he]; exact h1, h2⟩
abbrev Vh := Vector Int 32
def vb (v : Vh) : List UInt8 := v.toList.map fun n => UInt8.ofNat n.toNat
theorem ij (v : Vh) : (vb v).length = 32 := by simp [vb]
theorem vx (v : Vh) : strOfNums (Vector.toList v) = mkB (vb v) := rfl
def ov (a b : Vh) : Vh := hsh ([1] ++ vb a ++ vb b)
theorem lW (a : Vh) : bJ ⟨#[1]⟩ (strOfNums (Vector.toList a)) := cr (a := [1]) (b := vb a) (by rw [ij]; decide)
theorem lX (a b : Vh) : bJ (⟨#[1]⟩ ++ strOfNums (Vector.toList a)) (strOfNums (Vector.toList b)) := by
 have e : (⟨#[1]⟩ : ByteArray) ++ strOfNums (Vector.toList a) = mkB ([1] ++ vb a) := ce [1] _
 rw [e]
 exact cr (b := vb b) (by rw [ij, List.length_append, ij]; decide)
theorem xd (a b : Vh) : ((⟨#[1]⟩ : ByteArray) ++ strOfNums (Vector.toList a)) ++ strOfNums (Vector.toList b) = mkB ([1] ++ vb a ++ vb b) := by
 have e : (⟨#[1]⟩ : ByteArray) ++ strOfNums (Vector.toList a) = mkB ([1] ++ vb a) := ce [1] _
 rw [e]
 exact ce _ _
theorem zU (a b : Vh) : ja 1000 ((⟨#[1]⟩ ++ strOfNums (Vector.toList a)) ++ strOfNums (Vector.toList b)) = some (ov a b) := by
 rw [xd]
 exact KE _ (by simp [ij])
theorem vy (a b : Vh) : dM 1000 ([((⟨#[1]⟩ ++ strOfNums (Vector.toList a)) ++ strOfNums (Vector.toList b))], ak) = some (ov a b) := by
 rw [xd]
 have := qj [[1] ++ vb a ++ vb b] (by simp) (by simp [ij])
 simpa [ov] using this
abbrev nil0 : Vh := hsh []
def rt : Nat → List Vh → Vh
 | 0, l => l.headD nil0
 | d + 1, l => if l.length ≤ 1 then l.headD nil0 else ov (rt d (l.take (sp l.length))) (rt d (l.drop (sp l.length)))
theorem cJ {l : List Vh} (h : l.length ≤ 1) : ∀ d, rt d l = l.headD nil0
 | 0 => rfl
 | d + 1 => by rw [rt, if_pos h]
theorem su {l : List Vh} {d : Nat} (h : 2 ≤ l.length) : rt (d + 1) l = ov (rt d (l.take (sp l.length))) (rt d (l.drop (sp l.length))) := by
 rw [rt, if_neg (by omega)]
theorem xe {n j : Nat} (h1 : 2 ^ j < n) (h2 : n ≤ 2 ^ (j + 1)) : sp n = 2 ^ j := by
 have h0 : 1 ≤ 2 ^ j := Nat.one_le_two_pow
 obtain ⟨a1, a2, a3⟩ := ii (n := n) (by omega)
 have a4 := xc (n := n) (d := j) (by omega) h2
 have a5 : 2 ^ j ≤ sp n := by
  unfold sp at a2 ⊢
  apply Nat.pow_le_pow_right (by omega)
  have : 2 ^ j < 2 ^ (Nat.log2 (n - 1) + 1) := by rw [Nat.pow_succ]; omega
  have := (Nat.pow_lt_pow_iff_right (a := 2) (by omega)).1 this
  omega
 omega
theorem mO : ∀ (d : Nat) (l : List Vh), l.length ≤ 2 ^ d → ∀ e, d ≤ e → rt e l = rt d l
 | 0, l, h, e, _ => by rw [cJ (by simpa using h), cJ (by simpa using h)]
 | d + 1, l, h, e, he => by
   obtain ⟨e, rfl⟩ : ∃ f, e = f + 1 := ⟨e - 1, by omega⟩
   by_cases h1 : l.length ≤ 1
   ·rw [cJ h1, cJ h1]
   ·obtain ⟨a1, a2, a3⟩ := ii (n := l.length) (by omega)
    have a4 := xc (n := l.length) (d := d) (by omega) h
    rw [su (by omega), su (by omega), mO d _ (by rw [List.length_take]; omega) e (by omega), mO d _ (by rw [List.length_drop]; omega) e (by omega)]
theorem cO {α : Type} (n : Nat) (l : List α) : dh (n : Int) l = l.take n := by unfold dh; rw [Int.toNat_natCast]
theorem sw {α : Type} (n : Nat) (l : List α) : ta (n : Int) l = l.drop n := by unfold ta; rw [Int.toNat_natCast]
theorem zW {l : List Vh} (h1 : 2 ≤ l.length) (h : l.length ≤ 512) : rt 40 l = ov (rt 40 (l.take (sp l.length))) (rt 40 (l.drop (sp l.length))) := by
 have a1 : (l.take (sp l.length)).length ≤ 2 ^ 9 := by rw [List.length_take]; omega
 have a2 : (l.drop (sp l.length)).length ≤ 2 ^ 9 := by rw [List.length_drop]; omega
 rw [su (d := 39) h1, mO 9 _ a1 39 (by omega), mO 9 _ a2 39 (by omega), mO 9 _ a1 40 (by omega), mO 9 _ a2 40 (by omega)]
theorem rv (l : List Vh) (h : 2 ≤ l.length) : (l.take (sp l.length)).length = sp l.length := by
 have := ii h
 rw [List.length_take]; omega
theorem iI (n : Nat) (v : Vector Int n) : ∀ l : List Nat, jp n v v l = true
 | [] => rfl
 | i :: l => by rw [jp, iI n v l]; simp
def byI (l : List UInt8) : List Int := l.map fun b => (b.toNat : Int)
theorem Gx (l : List UInt8) : strOfNums (byI l) = mkB l := by
 rw [vt, byI, List.map_map]
 congr 1
 conv => rhs; rw [← List.map_id l]
 refine List.map_congr_left (fun b _ => ?_)
 simp
theorem Gy (x : Nat) : ((UInt8.ofNat (x % 256)).toNat : Int) = ((x % 256 : Nat) : Int) := by simp
theorem Gz (x i : Nat) (hi : i < 8) : WK .u8 (cW .u64 (x : Int) (8 * (i : Int))) = ((x / 256 ^ i % 256 : Nat) : Int) := by
 have e : cW .u64 (x : Int) (8 * (i : Int)) = ((x / 256 ^ i : Nat) : Int) := by
  show Int.fdiv (x : Int) (2 ^ (min (8 * (i : Int)).toNat 64)) = _
  have e2 : (2 : Int) ^ (8 * i) = ((256 ^ i : Nat) : Int) := by
   have h1 : (2 : Nat) ^ (8 * i) = 256 ^ i := by rw [Nat.pow_mul]
   rw [← h1, Int.natCast_pow]; rfl
  rw [show min (8 * (i : Int)).toNat 64 = 8 * i by omega, e2, Int.fdiv_eq_ediv_of_nonneg _ (Int.natCast_nonneg _)]
  exact (Int.natCast_ediv _ _).symm
 rw [e, Dw]
 omega
theorem KF (k : Nat) (hk : 8 < k) {x : Nat} (h : x < 18446744073709551616) : bj k (x : Int) = some (mkB (bX x)) := by
 unfold bj
 have hw := Gp h
 have hb : Lib.bitLen x ≤ 64 := Lib.bitLen_le x 64 (by decide) (by simpa using h)
 have e0 : bits_Len64 k (x : Int) = some ((Lib.bitLen x : Nat) : Int) := by
  show bB k (x : Int) = _
  unfold bB
  rw [aa ⟨by omega, by omega⟩, Int.toNat_natCast]
 rw [e0]
 simp only [Option.bind_some]
 have e1 : WK .i64 (Int.tdiv (WK .i64 (WK .i64 (((Lib.bitLen x : Nat) : Int) + 8) - 1)) 8) = ((wdt x : Nat) : Int) := by
  rw [av (x := ((Lib.bitLen x : Nat) : Int) + 8) (by omega) (by omega), av (x := ((Lib.bitLen x : Nat) : Int) + 8 - 1) (by omega) (by omega), Int.tdiv_eq_ediv_of_nonneg (by omega)]
  unfold wdt
  rw [av (by omega) (by omega)]
  omega
 rw [e1]
 have e2 : WK .i64 (1 + ((wdt x : Nat) : Int)) = ((wdt x + 1 : Nat) : Int) := by
  rw [av (by omega) (by omega)]; omega
 rw [e2, LI (x := ((wdt x : Nat) : Int)) (by omega) (by omega)]
 rw [aa (by decide), aa ⟨by omega, rfl, by omega, by omega⟩, aa ⟨by decide, by simp only [ae, FE, List.length_replicate]; omega⟩]
 have e3 : bA (FE ((wdt x + 1 : Nat) : Int) (0 : Int)) 0 ((wdt x : Nat) : Int) = ((wdt x : Nat) : Int) :: List.replicate (wdt x) 0 := by
  simp only [bA, FE, Int.toNat_natCast, List.replicate_succ]
  rfl
 rw [e3]
 refine aj (a := byI (bX x)) ?_ (by rw [Gx])
 have hc : ((UInt8.ofNat (wdt x)).toNat : Int) = (wdt x : Int) := by
  have : (UInt8.ofNat (wdt x)).toNat = wdt x := by simp; omega
  rw [this]
 have fin : byI (bX x) = ((wdt x : Nat) : Int) :: (List.replicate (wdt x - wdt x) 0 ++ byI (rp (wdt x) x)) := by
  simp only [bX, byI, List.map_cons, hc, Nat.sub_self, List.replicate_zero, List.nil_append]
 have st : (((wdt x : Nat) : Int) :: List.replicate (wdt x) 0) = ((wdt x : Nat) : Int) :: (List.replicate (wdt x - 0) 0 ++ byI (rp 0 x)) := by
  simp [rp, byI]
 rw [st]
 refine bS (fun i => ((i : Int), ((wdt x : Nat) : Int) :: (List.replicate (wdt x - i) 0 ++ byI (rp i x)))) (wdt x) _ k ?_ ?_ (by omega)
 ·intro i hi
  have hlen : (((wdt x : Nat) : Int) :: (List.replicate (wdt x - i) 0 ++ byI (rp i x))).length = wdt x + 1 := by
   simp only [List.length_cons, List.length_append, List.length_replicate, byI, List.length_map, vu]; omega
  simp only [be (show (i : Int) < ((wdt x : Nat) : Int) by omega), ag]
  rw [av (x := 8 * (i : Int)) (by omega) (by omega), aa (by omega), av (x := ((wdt x : Nat) : Int) - (i : Int)) (by omega) (by omega), aa ⟨by omega, by rw [ae, hlen]; omega⟩, av (x := (i : Int) + 1) (by omega) (by omega), Gz x i (by omega)]
  congr 3
  obtain ⟨m, hm⟩ : ∃ m, wdt x - i = m + 1 := ⟨wdt x - i - 1, by omega⟩
  rw [show wdt x - (i + 1) = m by omega, hm]
  simp only [bA]
  rw [show (((wdt x : Nat) : Int) - (i : Int)).toNat = m + 1 by omega, List.set_cons_succ, List.replicate_succ', List.append_assoc, List.set_append_right _ _ (by simp), List.length_replicate, Nat.sub_self]
  rw [wX]
  simp only [byI, List.map_cons, Gy, List.singleton_append, List.set_cons_zero]
 ·simp only [aM (Int.le_refl _), ac, fin]
abbrev Fz := Int × Int × Vh
abbrev TV : Ty := .arr 32 (.int .u8)
abbrev TF : Ty := .pair (.int .i64) (.pair (.int .i64) TV)
def rx (w c : Int) : Prop := 0 ≤ w ∧ w ≤ 1125899906842624 ∧ 1 ≤ c ∧ c ≤ 4000
instance (w c : Int) : Decidable (rx w c) := by unfold rx; infer_instance
def fzL (w c : Int) (r : Vh) : List UInt8 := [70] ++ bX w.toNat ++ bX c.toNat ++ (bX 32 ++ vb r)
theorem bH {x : Nat} (h : x < 18446744073709551616) : (bX x).length ≤ 9 := by
 have := Gp h
 rw [Gq]; omega
theorem tM {w c : Int} (h : rx w c) (r : Vh) : (fzL w c r).length ≤ 70 := by
 obtain ⟨h1, h2, h3, h4⟩ := h
 have a := bH (x := w.toNat) (by omega)
 have b := bH (x := c.toNat) (by omega)
 have d := bH (x := 32) (by decide)
 simp only [fzL, List.length_append, ij, List.length_singleton]
 omega
theorem iJ {x : Int} (h0 : 0 ≤ x) (h1 : x ≤ 1125899906842624) : bj 1000 (WK .u64 x) = some (mkB (bX x.toNat)) := by
 rw [Bl h0 (by omega)]
 obtain ⟨n, rfl⟩ := Int.eq_ofNat_of_zero_le h0
 rw [KF 1000 (by decide) (by omega)]
 rfl
theorem yg (r : Vh) : cZ (strOfNums (Vector.toList r)) = 32 := by
 rw [vx, dj, ij]; rfl
theorem Bn {w c : Int} (h : rx w c) (r : Vh) : cC 1000 (w, c, r) = some (mkB (fzL w c r), 0) := by
 obtain ⟨h1, h2, h3, h4⟩ := h
 have hl := tM (show rx w c from ⟨h1, h2, h3, h4⟩) r
 unfold cC
 dsimp only
 rw [fA h1, ag, lR h2, Bool.not_true, ac, cU (show c ≠ 0 by omega), ac, fA (show 0 ≤ c by omega), ag, lR h4, Bool.not_true, ac]
 refine aj (iJ h1 h2) (aj (iJ (by omega) (by omega)) ?_)
 rw [yg]
 refine aj (iJ (x := 32) (by decide) (by decide)) ?_
 have d := bH (x := 32) (by decide)
 refine (aa (cr (a := bX 32) (b := vb r) (by rw [ij]; omega))).trans ?_
 rw [vx, show mkB (bX (32 : Int).toNat) ++ mkB (vb r) = mkB (bX 32 ++ vb r) from ce _ _]
 refine aj (a := mkB (fzL w c r)) ?_ rfl
 show aV 1000 _ = _
 unfold aV
 have hj : Lib.join (([⟨#[70]⟩, mkB (bX w.toNat), mkB (bX c.toNat), mkB (bX 32 ++ vb r)] : List ByteArray).map (·.data.toList)) (aG : ByteArray).data.toList = fzL w c r := by
  simp [Lib.join, fzL, mkB]
 have hb : (Lib.join (([⟨#[70]⟩, mkB (bX w.toNat), mkB (bX c.toNat), mkB (bX 32 ++ vb r)] : List ByteArray).map (·.data.toList)) (aG : ByteArray).data.toList).length ≤ 140737488355328 := by
  rw [hj]; omega
 refine (aa ⟨by simp, by simp, hb⟩).trans ?_
 exact congrArg (fun l => some (mkB l)) hj
def lfF (f : Fz) : Vh := hsh ([0] ++ fzL f.1 f.2.1 f.2.2)
theorem GA {w c : Int} (h : rx w c) (r : Vh) : dM 1000 ([⟨#[0]⟩, mkB (fzL w c r)], ak) = some (lfF (w, c, r)) := by
 have hl := tM h r
 have := qj [[0], fzL w c r] (by simp) (by simp; omega)
 simpa [lfF] using this
inductive Stk : Nat → Nat → List Vh → List Vh → Prop
 | zero (j : Nat) : Stk j 0 [] []
 | even {j k : Nat} {ps l : List Vh} : Stk (j + 1) k ps l → Stk j (2 * k) ps l
 | odd {j k : Nat} {ps l1 l2 : List Vh} : l2.length = 2 ^ j → Stk (j + 1) k ps l1 → Stk j (2 * k + 1) (rt 40 l2 :: ps) (l1 ++ l2)
theorem GB {j : Nat} {l t : List Vh} (h : l.length = 2 ^ j) (h1 : 1 ≤ t.length) (h2 : t.length ≤ 2 ^ j) (hb : l.length + t.length ≤ 512) : rt 40 (l ++ t) = ov (rt 40 l) (rt 40 t) := by
 have h0 : 1 ≤ 2 ^ j := Nat.one_le_two_pow
 have hs : sp (l ++ t).length = 2 ^ j := by
  rw [List.length_append]
  exact xe (by omega) (by rw [Nat.pow_succ]; omega)
 rw [zW (by rw [List.length_append]; omega) (by rw [List.length_append]; omega), hs, ← h, List.take_left, List.drop_left]
theorem Id {j k : Nat} {ps l : List Vh} (h : Stk j k ps l) : l.length = k * 2 ^ j := by
 induction h with
 | zero j => simp
 | @even j k ps l _ ih => rw [ih, Nat.pow_succ, Nat.mul_comm (2 ^ j) 2, ← Nat.mul_assoc, Nat.mul_comm k 2]
 | @odd j k ps l1 l2 h2 _ ih => rw [List.length_append, ih, h2, Nat.add_mul, Nat.pow_succ, Nat.one_mul, Nat.mul_comm (2 ^ j) 2, ← Nat.mul_assoc, Nat.mul_comm k 2]
theorem GC {j k : Nat} {ps l : List Vh} (h : Stk j k ps l) : ∀ t : List Vh, 1 ≤ t.length → t.length ≤ 2 ^ j → l.length + t.length ≤ 512 → ps.foldl (fun r p => ov p r) (rt 40 t) = rt 40 (l ++ t) := by
 induction h with
 | zero j => intro t _ _ _; rw [List.foldl_nil, List.nil_append]
 | even _ ih => intro t h1 h2 h3; exact ih t h1 (by rw [Nat.pow_succ]; omega) h3
 | odd hl _ ih =>
   intro t h1 h2 h3
   rw [List.length_append] at h3
   rw [List.foldl_cons, ← GB hl h1 h2 (by omega), ih _ (by rw [List.length_append]; omega) (by rw [List.length_append, Nat.pow_succ]; omega) (by rw [List.length_append]; omega), List.append_assoc]
theorem zX {j k : Nat} {p : Vh} {ps l : List Vh} (h : Stk j k (p :: ps) l) (hb : l.length ≤ 512) : ps.foldl (fun r p => ov p r) p = rt 40 l := by
 generalize hq : p :: ps = q at h
 induction h with
 | zero j => cases hq
 | even _ ih => exact ih hb hq
 | @odd j' k' ps' l1 l2 hl hs _ =>
   cases hq
   have h0 : 1 ≤ 2 ^ j' := Nat.one_le_two_pow
   rw [List.length_append] at hb
   exact GC hs l2 (by omega) (by rw [Nat.pow_succ]; omega) hb
theorem ry (l : List Vh) (h : l.length ≤ 900) : cT 1000 l = some l := by
 have hb : l.length * 32 ≤ 140737488355328 := by omega
 exact aa hb
theorem Bo {j k : Nat} {ps l : List Vh} (h : Stk j k ps l) : ps.length ≤ l.length := by
 induction h with
 | zero j => simp
 | even _ ih => exact ih
 | odd hl _ ih =>
   rename_i j' k' _ _ _ _
   have h0 : 1 ≤ 2 ^ j' := Nat.one_le_two_pow
   rw [List.length_cons, List.length_append]; omega
theorem GD (x : Vh) (l pk : List Vh) (n : Nat) (hs : Stk 0 n pk.reverse l) (hb : l.length ≤ 100) :
 ∃ pk', cN 1000 (x, (n : Int), ak, pk) = some (((n + 1 : Nat) : Int), ((n + 1 : Nat) : Int), pk') ∧ Stk 0 (n + 1) pk'.reverse (l ++ [x]) := by
 have hn := Id hs
 have hp := Bo hs
 rw [List.length_reverse] at hp
 rw [Nat.pow_zero, Nat.mul_one] at hn
 suffices hk : ∃ r, cN 1000 (x, (n : Int), ak, pk) = some r ∧ ∃ pk', r = (((n + 1 : Nat) : Int), ((n + 1 : Nat) : Int), pk') ∧ Stk 0 (n + 1) pk'.reverse (l ++ [x]) by
  obtain ⟨_, h1, pk', rfl, h2⟩ := hk
  exact ⟨pk', h1, h2⟩
 unfold cN
 dsimp only
 rw [lS (show (n : Int) < 1099511627776 by omega), ac, ry pk (by omega), Option.bind_some]
 refine mN (fun d h => ∃ (j k : Nat) (ps l' blk : List Vh), h = ((k : Int), rt 40 blk, ps.reverse) ∧ blk.length = 2 ^ j ∧ Stk j k ps l' ∧ l' ++ blk = l ++ [x] ∧ k < 2 ^ d ∧ d ≤ 10 ∧ ps.length ≤ 100 ∧ ∀ Q, Stk j (k + 1) Q (l ++ [x]) → Stk 0 (n + 1) Q (l ++ [x])) (fun e : Vh × List Vh => Stk 0 (n + 1) (e.1 :: e.2.reverse) (l ++ [x]) ∧ e.2.length ≤ 100) 10 (by omega)
  ⟨0, n, pk.reverse, l, [x], by rw [cJ (by simp), List.reverse_reverse]; rfl, rfl, hs, rfl, by show n < 1024; omega, Nat.le_refl 10, by rw [List.length_reverse]; omega, fun Q h => h⟩ ?_ ?_
 ·rintro d _ ⟨j, k, ps, l', blk, rfl, h1, h2, h3, h4, h5, h6, h7⟩
  dsimp only
  rw [aa (show nz 2 by decide)]
  have em : Int.tmod (k : Int) 2 = ((k % 2 : Nat) : Int) := rfl
  rw [em]
  have htot := congrArg List.length h3
  simp only [List.length_append, List.length_singleton] at htot
  cases h2 with
  | zero =>
    rw [cu (by rfl), ag]
    refine .out ⟨?_, by simp⟩
    rw [List.reverse_reverse]
    rw [List.nil_append] at h3
    refine h7 _ ?_
    have := Stk.odd (j := j) (k := 0) (l2 := blk) h1 (Stk.zero (j + 1))
    rw [List.nil_append] at this
    rw [← h3]
    exact this
  | even hs' =>
    rename_i k'
    rw [cu (by omega), ag]
    refine .out ⟨?_, by simpa using h6⟩
    rw [List.reverse_reverse]
    refine h7 _ ?_
    have := Stk.odd (j := j) (k := k') (l2 := blk) h1 hs'
    rw [h3] at this
    exact this
  | odd hl hs' =>
    rename_i k' ps' l1 l2
    rw [cU (by omega), ac]
    have hlen : (rt 40 l2 :: ps').reverse.length = ps'.length + 1 := by simp
    have e1 : WK .i64 (ae (rt 40 l2 :: ps').reverse - 1) = ((ps'.length : Nat) : Int) := by
     have : ae (rt 40 l2 :: ps').reverse = (ps'.length : Int) + 1 := by unfold ae; rw [hlen]; omega
     rw [this, av (by omega) (by simp at h6; omega)]; omega
    have e2 : at_ TV (rt 40 l2 :: ps').reverse ((ps'.length : Nat) : Int) = rt 40 l2 := by
     rw [bL (t := TV) (by rw [hlen]; omega)]
     simp
    have e3 : (rt 40 l2 :: ps').reverse.take ps'.length = ps'.reverse := by
     rw [List.reverse_cons, List.take_left' (by simp)]
    obtain ⟨d, rfl⟩ : ∃ d', d = d' + 1 := by
     cases d with
     | zero => rw [Nat.pow_zero] at h4; omega
     | succ d => exact ⟨d, rfl⟩
    have ek : WK .i64 (Int.tdiv ((2 * k' + 1 : Nat) : Int) 2) = (k' : Int) := by
     show WK .i64 (((2 * k' + 1) / 2 : Nat) : Int) = _
     rw [show (2 * k' + 1) / 2 = k' by omega]
     have : 2 ^ (d + 1) ≤ 2 ^ 10 := Nat.pow_le_pow_right (by omega) h5
     exact qg (by omega)
    have hpw : 2 ^ (d + 1) = 2 * 2 ^ d := by rw [Nat.pow_succ, Nat.mul_comm]
    rw [e1, e2, aa ⟨by omega, by unfold ae; rw [hlen]; omega⟩, aa (lW _), aa (lX _ _), vy, Option.bind_some]
    rw [aa (show Le _ _ from ⟨by omega, by unfold ae; rw [hlen]; omega⟩), aa (show nz 2 by decide), cO, e3, ek]
    simp only [List.length_append] at htot
    have hj0 : 1 ≤ 2 ^ j := Nat.one_le_two_pow
    refine .on d (by omega) ⟨j + 1, k', ps', l1, l2 ++ blk, ?_, by rw [List.length_append, hl, h1, Nat.pow_succ]; omega, hs', by rw [← List.append_assoc]; exact h3, by omega, by omega, by simp at h6; omega, fun Q hQ => h7 Q (by have := Stk.even hQ; rw [show 2 * (k' + 1) = 2 * k' + 1 + 1 by omega] at this; exact this)⟩
    rw [GB hl (by omega) (by omega) (by omega)]
 ·rintro ⟨y, ps⟩ ⟨h1, h2⟩
  dsimp only at h1 h2 ⊢
  have e1 : WK .i64 ((n : Int) + 1) = ((n + 1 : Nat) : Int) := by rw [av (by omega) (by omega)]; omega
  refine ⟨_, (aa (show bc ps [y] 32 by unfold bc; simp; omega)).trans rfl, ps ++ [y], ?_, ?_⟩
  ·rw [e1]
  ·rw [List.reverse_append]; exact h1
structure Inv (all : List Fz) (lv : List Vh) (n : Int) (pk : List Vh) : Prop where
 lv_eq : lv = all.map lfF
 n_eq : n = (all.length : Int)
 stk : Stk 0 all.length pk.reverse lv
 may : ∀ g ∈ all, rx g.1 g.2.1
theorem Ie : Inv [] [] 0 [] := ⟨rfl, rfl, Stk.zero 0, fun g h => by cases h⟩
def xf (all : List Fz) : Int := (all.getLast?.map (·.1)).getD (-1)
theorem If {all : List Fz} (h : all ≠ []) : (at_ TF all ((all.length - 1 : Nat) : Int)).1 = xf all := by
 have hl : 0 < all.length := List.length_pos_iff.2 h
 rw [bL (t := TF) (by omega)]
 unfold xf
 rw [List.getLast?_eq_getElem?, List.getElem?_eq_getElem (by omega)]
 rfl
theorem Ig {all : List Fz} (h : all ≠ []) (hb : all.length ≤ 1000) : WK .i64 (ae all - 1) = ((all.length - 1 : Nat) : Int) := by
 have hl : 0 < all.length := List.length_pos_iff.2 h
 rw [av (by unfold ae; omega) (by unfold ae; omega)]
 unfold ae; omega
theorem DC {w c : Int} (r : Vh) (h : rx w c) {all : List Fz} {lv : List Vh} {n : Int} {pk : List Vh} (I : Inv all lv n pk) (hb : all.length ≤ 60) (hw : xf all < w) :
 ∃ lv' n' pk', dx 1000 (w, c, r, ak, all, lv, n, pk) = some ((all.length : Int), 0, n', all ++ [(w, c, r)], lv', pk') ∧ Inv (all ++ [(w, c, r)]) lv' n' pk' := by
 have hlv : lv.length = all.length := by rw [I.lv_eq, List.length_map]
 obtain ⟨pk', h1, h2⟩ := GD (lfF (w, c, r)) lv pk all.length I.stk (by omega)
 refine ⟨lv ++ [lfF (w, c, r)], ((all.length + 1 : Nat) : Int), pk', ?_, ⟨by rw [I.lv_eq, List.map_append]; rfl, by simp, by rw [List.length_append]; exact h2, fun g hg => ?_⟩⟩
 ·unfold dx
  refine aj (Bn h r) ?_
  dsimp only
  have key : (ai (ine (0 : Int) 0) (some (.inl ((0 : Int), (1 : Int)))) (ai (igt (ae all) 0) (af ((inR (WK .i64 ((ae all) - 1)) (ae all))) (ai (ile w (at_ T0 all (WK .i64 ((ae all) - 1))).1) (some (.inl (0, 13))) (some (.inr (()))))) (some (.inr (())))) : Option ((Int × Int) ⊕ (Unit))) = some (.inr ()) := by
   rw [eh (rfl : (0 : Int) = 0), ac]
   by_cases hne : all = []
   ·subst hne; rfl
   ·have hl : 0 < all.length := List.length_pos_iff.2 hne
    rw [om (show 0 < ae all by unfold ae; omega), ag, Ig hne (by omega), aa ⟨by omega, by unfold ae; omega⟩]
    have e : (at_ T0 all ((all.length - 1 : Nat) : Int)).1 = xf all := If hne
    rw [e, Gg hw, ac]
  refine aj key ?_
  rw [au]
  refine aj (Bn h r) (aj (GA h r) ?_)
  have t1 : dh (ae all) all = all := by unfold dh ae; rw [Int.toNat_natCast, List.take_length]
  have t2 : dh (ae lv) lv = lv := by unfold dh ae; rw [Int.toNat_natCast, List.take_length]
  rw [t1, t2]
  refine (aa ⟨by omega, by unfold ae; omega, by omega, rfl⟩).trans ?_
  refine (aa (show bc _ _ _ from by unfold bc; simp; omega)).trans ?_
  refine (aa ⟨by omega, by unfold ae; omega, by omega, rfl⟩).trans ?_
  refine (aa (show bc _ _ _ from by unfold bc; simp; omega)).trans ?_
  rw [I.n_eq]
  refine aj h1 ?_
  dsimp only
  rw [av (x := ((all.length + 1 : Nat) : Int) - 1) (by omega) (by omega)]
  congr 2
  omega
 ·rcases List.mem_append.1 hg with hg | hg
  ·exact I.may g hg
  ·rw [List.mem_singleton] at hg; subst hg; exact h
theorem Ih (all : List Fz) (w : Int) (lv : List Vh) (n : Int) (pk : List Vh) (hb : all.length ≤ 900) :
 (∃ (i : Nat) (h : i < all.length), cD 1000 (w, all, lv, n, pk) = some ((i : Int), true) ∧ (all[i]).1 = w ∧ ∀ j (hj : j < i), (all[j]'(by omega)).1 ≠ w) ∨
 (cD 1000 (w, all, lv, n, pk) = some (0, false) ∧ ∀ g ∈ all, g.1 ≠ w) := by
 have key : ∃ r, dz 1000 (all, w) = some r ∧ ((∃ (i : Nat) (h : i < all.length), r = (i : Int) ∧ (all[i]).1 = w ∧ ∀ j (hj : j < i), (all[j]'(by omega)).1 ≠ w) ∨ (r = -1 ∧ ∀ g ∈ all, g.1 ≠ w)) := by
  unfold dz
  dsimp only
  refine mN (fun d h => ∃ i : Nat, h = (i : Int) ∧ i + d = all.length ∧ ∀ j (hj : j < all.length), j < i → (all[j]).1 ≠ w) (fun e : Int ⊕ Unit => match e with | .inl r => ∃ (i : Nat) (h : i < all.length), r = (i : Int) ∧ (all[i]).1 = w ∧ ∀ j (hj : j < i), (all[j]'(by omega)).1 ≠ w | .inr _ => ∀ g ∈ all, g.1 ≠ w) all.length (by omega) ⟨0, rfl, by omega, fun j _ h => by omega⟩ ?_ ?_
  ·rintro d _ ⟨i, rfl, hi, hf⟩
   by_cases a : i < all.length
   ·have e1 : at_ T0 all (i : Int) = all[i] := bL (t := TF) a
    rw [be (show (i : Int) < ae all by unfold ae; omega), ag, aa ⟨by omega, by unfold ae; omega⟩, e1]
    by_cases b : (all[i]).1 = w
    ·rw [cu b, ag]
     exact .out ⟨i, a, rfl, b, fun j hj => hf j (by omega) hj⟩
    ·rw [cU b, ac, av (by omega) (by omega)]
     exact .on (d - 1) (by omega) ⟨i + 1, by omega, by omega, fun j hj hlt => by
      rcases Nat.lt_or_ge j i with h | h
      ·exact hf j hj h
      ·obtain rfl : j = i := by omega
       exact b⟩
   ·rw [aM (show ae all ≤ (i : Int) by unfold ae; omega), ac]
    refine .out ?_
    show ∀ g ∈ all, g.1 ≠ w
    intro g hg
    obtain ⟨j, hj, rfl⟩ := List.mem_iff_getElem.1 hg
    exact hf j hj (by omega)
  ·rintro (r | u) h
   ·exact ⟨r, rfl, .inl h⟩
   ·exact ⟨-1, rfl, .inr ⟨rfl, h⟩⟩
 obtain ⟨r, h1, h2⟩ := key
 have e : cD 1000 (w, all, lv, n, pk) = some (mxI r 0, ige r 0) := aj h1 rfl
 rcases h2 with ⟨i, h, rfl, h3, h4⟩ | ⟨rfl, h3⟩
 ·refine .inl ⟨i, h, ?_, h3, h4⟩
  rw [e, fA (by omega)]
  unfold mxI
  rw [if_neg (by omega)]
 ·exact .inr ⟨e, h3⟩
def ow (h p : Vh) : Option Vh := af ((bJ ⟨#[1]⟩ (strOfNums (Vector.toList p)))) (af ((bJ (⟨#[1]⟩ ++ (strOfNums (Vector.toList p))) (strOfNums (Vector.toList h)))) ((dM 1000 (([((⟨#[1]⟩ ++ (strOfNums (Vector.toList p))) ++ (strOfNums (Vector.toList h)))] : List ByteArray), ak)).bind fun r1 => some (r1)))
theorem zY (h p : Vh) : ow h p = some (ov p h) := by
 unfold ow
 rw [aa (lW _), aa (lX _ _), vy, Option.bind_some]
theorem sx : ∀ (l : List Vh) (r : Vh), jq l ow r = some (l.foldl (fun r p => ov p r) r)
 | [], r => by simp [jq]
 | p :: l, r => by
   simp only [jq]
   rw [zY, Option.bind_some, sx l, List.foldl_cons]
theorem GE {all : List Fz} {lv : List Vh} {n : Int} {pk : List Vh} (I : Inv all lv n pk) (h0 : all ≠ []) (hb : all.length ≤ 500) : aX 1000 (n, ak, pk) = some (rt 40 lv) := by
 have hl : 0 < all.length := List.length_pos_iff.2 h0
 have hlv : lv.length = all.length := by rw [I.lv_eq, List.length_map]
 have hps := Bo I.stk
 rw [List.length_reverse] at hps
 obtain ⟨p, ps, hpk⟩ : ∃ p ps, pk.reverse = p :: ps := by
  cases hq : pk.reverse with
  | nil =>
    have := I.stk
    rw [hq] at this
    have key : ∀ {j k : Nat} {ps l : List Vh}, Stk j k ps l → ps = [] → k = 0 := by
     intro j k ps l h
     induction h with
     | zero j => intro _; rfl
     | even _ ih => intro e; rw [ih e]
     | odd _ _ _ => intro e; cases e
    have := key this rfl
    omega
  | cons p ps => exact ⟨p, ps, rfl⟩
 have hst := I.stk
 rw [hpk] at hst
 have hroot := zX hst (by omega)
 have hpk2 : pk = ps.reverse ++ [p] := by
  have := congrArg List.reverse hpk
  simpa using this
 have hpl : pk.length = ps.length + 1 := by rw [hpk2]; simp
 unfold aX
 dsimp only
 have e1 : WK .i64 (ae pk - 1) = ((ps.length : Nat) : Int) := by
  rw [av (by unfold ae; omega) (by unfold ae; omega)]
  unfold ae; omega
 have e2 : at_ T1 pk ((ps.length : Nat) : Int) = p := by
  rw [bL (t := TV) (by omega)]
  simp [hpk2]
 have e3 : pk.take ps.length = ps.reverse := by rw [hpk2, List.take_left' (by simp)]
 rw [cU (show n ≠ 0 by rw [I.n_eq]; omega), ac, e1, aa ⟨by omega, by unfold ae; omega⟩, aa ⟨by omega, by omega, by unfold ae; omega, rfl⟩, cO, e3, e2]
 have hf : jq (kA ps.reverse) (fun h q => ow h q.2) p = some (rt 40 lv) := by
  rw [vr, sx, List.reverse_reverse, hroot]
 exact aj hf (Eq.refl (some (rt 40 lv)))
def pdL (key : List UInt8) : List UInt8 := key ++ List.replicate (64 - key.length) 0
theorem Cr {key : List UInt8} (h : key.length ≤ 64) : (pdL key).length = 64 := by
 unfold pdL; rw [List.length_append, List.length_replicate]; omega
theorem oS (l : List UInt8) : cZ (mkB l) = (l.length : Int) := by
 show ((mkB l).size : Int) = _
 rw [ou]
def xb (c : Int) (b : UInt8) : Int := cM .u8 (b.toNat : Int) c
def Bp (l : List UInt8) (c : Int) : List UInt8 := l.map fun b => UInt8.ofNat (xb c b).toNat
theorem ox (l : List UInt8) (c : Int) : (Bp l c).length = l.length := by simp [Bp]
def zZ (key t : List UInt8) : Vh := hsh (Bp (pdL key) 92 ++ vb (hsh (Bp (pdL key) 54 ++ t)))
theorem Cs (key : List UInt8) (h : key.length ≤ 64) : re 1000 (mkB key, ak) = some (mkB (pdL key)) := by
 unfold re
 dsimp only
 refine aj (a := mkB key) ((congrArg (ai · _ _) (jd (show cZ (mkB key) ≤ 64 by rw [oS]; omega))).trans (ac _ _)) ?_
 have e : WK .i64 (64 - cZ (mkB key)) = ((64 - key.length : Nat) : Int) := by rw [oS, av (by omega) (by omega)]; omega
 rw [e]
 refine aj (Gu (n := 64 - key.length) (by omega)) ?_
 refine (aa (cr (by simp; omega))).trans ?_
 rw [ce]
 rfl
theorem Bq (l : List UInt8) : cj (mkB l) = l.map fun b => (b.toNat : Int) := rfl
theorem rz (c : Int) (l : List UInt8) (h : l.length = 64) : da 1000 (c, mkB l, ak) = some (cI (Bp l c)) := by
 unfold da
 dsimp only
 refine (aa (show FI (mkB l) from by unfold FI; rw [ou]; omega)).trans ?_
 rw [Bq]
 have hll : ae (l.map fun b => (b.toNat : Int)) = 64 := by unfold ae; simp [h]
 rw [hll]
 refine aj (bS (fun i : Nat => ((i : Int), (l.take i).map (xb c) ++ (l.drop i).map fun b => (b.toNat : Int))) 64 (l.map (xb c)) 1000 (fun i hi => ?_) ?_ (by omega) |> fun h => (by simpa using h)) ?_
 ·have hil : i < l.length := by omega
  have hlen : ((l.take i).map (xb c) ++ (l.drop i).map fun b => (b.toNat : Int)).length = 64 := by simp; omega
  have hin : inR (i : Int) (ae ((l.take i).map (xb c) ++ (l.drop i).map fun b => (b.toNat : Int))) := ⟨by omega, by unfold ae; rw [hlen]; omega⟩
  have e1 : at_ (.int .u8) ((l.take i).map (xb c) ++ (l.drop i).map fun b => (b.toNat : Int)) (i : Int) = (l[i].toNat : Int) := by
   rw [bL (t := .int .u8) (by rw [hlen]; omega), List.getElem_append_right (by simp; omega)]
   simp [Nat.min_eq_left (Nat.le_of_lt hil)]
  dsimp only
  rw [be (by omega), ag, aa hin, aa hin, e1, av (by omega) (by omega)]
  have e2 : bA ((l.take i).map (xb c) ++ (l.drop i).map fun b => (b.toNat : Int)) (i : Int) (cM .u8 (l[i].toNat : Int) c) = (l.take (i + 1)).map (xb c) ++ (l.drop (i + 1)).map fun b => (b.toNat : Int) := by
   unfold bA
   rw [Int.toNat_natCast, List.set_append_right _ _ (by simp; omega)]
   have e3 : i - ((l.take i).map (xb c)).length = 0 := by simp; omega
   rw [e3, List.drop_eq_getElem_cons hil, List.map_cons, List.set_cons_zero, List.take_add_one, List.getElem?_eq_getElem hil, List.map_append]
   simp [xb]
  rw [e2]
  rfl
 ·dsimp only
  rw [aM (by omega), ac, List.take_of_length_le (by omega), List.drop_eq_nil_of_le (by omega), List.map_nil, List.append_nil]
 ·have e4 : strOfNums (l.map (xb c)) = mkB (Bp l c) := by rw [vt, List.map_map]; rfl
  rw [e4]
  exact aj (te (Bp l c) (by rw [ox]; omega) _) rfl
theorem Ct (t A B : List UInt8) (ht : t.length ≤ 40000) (hA : A.length = 64) (hB : B.length = 64) :
 ga 1000 (([mkB t] : List ByteArray), ak, (cI A).1, (cI A).2.1, (cI A).2.2.1, (cI A).2.2.2, (cI B).1, (cI B).2.1, (cI B).2.2.1, (cI B).2.2.2) = some (hsh (B ++ vb (hsh (A ++ t)))) := by
 unfold ga
 dsimp only
 refine aj (a := cI (A ++ t)) ?_ ?_
 ·refine bS (fun i : Nat => ((i : Int), if i = 0 then cI A else cI (A ++ t))) 1 _ 1000 (fun i hi => ?_) ?_ (by omega)
  ·obtain rfl : i = 0 := by omega
   rw [if_pos rfl, if_neg (by decide)]
   dsimp only
   rw [be (show ((0 : Nat) : Int) < ae [mkB t] by unfold ae; simp), ag, aa ⟨by omega, by unfold ae; simp⟩]
   have e1 : at_ .str ([mkB t] : List ByteArray) ((0 : Nat) : Int) = mkB t := rfl
   rw [e1, qh A t (by omega), Option.bind_some]
   rfl
  ·rw [if_neg (by decide)]
   dsimp only
   rw [aM (show ae [mkB t] ≤ ((1 : Nat) : Int) by unfold ae; simp), ac]
 ·have hs1 := Bm (cI (A ++ t)) (A ++ t) (by simp; omega) (.inl rfl)
  refine aj hs1 ?_
  rw [vx]
  refine aj (qh B (vb (hsh (A ++ t))) (by rw [ij]; omega)) ?_
  exact aj (Bm (cI (B ++ vb (hsh (A ++ t)))) _ (by rw [List.length_append, ij]; omega) (.inl rfl)) rfl
def rA (n : Nat) (r : Vh) (t : Int) : List UInt8 := ([72] ++ bX n) ++ (bX 32 ++ vb r) ++ bX t.toNat
theorem Ii : ∀ {j k : Nat} {ps l : List Vh}, Stk j k ps l → ps = [] → k = 0 := by
 intro j k ps l h
 induction h with
 | zero j => intro _; rfl
 | even _ ih => intro e; rw [ih e]
 | odd _ _ _ => intro e; cases e
theorem xg {lv pk : List Vh} (hs : Stk 0 lv.length pk.reverse lv) (hb : lv.length ≤ 500) : aX 1000 ((lv.length : Int), ak, pk) = some (rt 40 lv) := by
 unfold aX
 dsimp only
 by_cases h0 : lv.length = 0
 ·have : lv = [] := List.eq_nil_of_length_eq_zero h0
  subst this
  rw [cu (show (([] : List Vh).length : Int) = 0 from rfl), ag]
  have := qj [] (by simp) (by simp)
  refine aj (qj [] (by simp) (by simp)) ?_
  rw [cJ (by simp)]; rfl
 ·have hps := Bo hs
  rw [List.length_reverse] at hps
  obtain ⟨p, ps, hpk⟩ : ∃ p ps, pk.reverse = p :: ps := by
   cases hq : pk.reverse with
   | nil =>
     rw [hq] at hs
     have := Ii hs rfl
     omega
   | cons p ps => exact ⟨p, ps, rfl⟩
  rw [hpk] at hs
  have hroot := zX hs (by omega)
  have hpk2 : pk = ps.reverse ++ [p] := by
   have := congrArg List.reverse hpk
   simpa using this
  have hpl : pk.length = ps.length + 1 := by rw [hpk2]; simp
  have e1 : WK .i64 (ae pk - 1) = ((ps.length : Nat) : Int) := by
   rw [av (by unfold ae; omega) (by unfold ae; omega)]
   unfold ae; omega
  have e2 : at_ TV pk ((ps.length : Nat) : Int) = p := by
   rw [bL (t := TV) (by omega)]
   simp [hpk2]
  have e3 : pk.take ps.length = ps.reverse := by rw [hpk2, List.take_left' (by simp)]
  rw [cU (show (lv.length : Int) ≠ 0 by omega), ac, e1, aa ⟨by omega, by unfold ae; omega⟩, aa ⟨by omega, by omega, by unfold ae; omega, rfl⟩, cO, e3, e2]
  have hf : jq (kA ps.reverse) (fun h q => ow h q.2) p = some (rt 40 lv) := by
   rw [vr, sx, List.reverse_reverse, hroot]
  exact aj hf (Eq.refl (some (rt 40 lv)))
abbrev Rec := Int × Int × Int × ByteArray
def Aa (w i t : Int) (p : ByteArray) : Prop := (0 ≤ w ∧ w ≤ 1125899906842624) ∧ (0 ≤ t ∧ t ≤ 1125899906842624) ∧ (0 ≤ i ∧ i ≤ 3999) ∧ p.size ≤ 2000
def Br (r : Rec) : List UInt8 := (bX r.1.toNat ++ bX r.2.1.toNat) ++ (bX r.2.2.1.toNat ++ (bX r.2.2.2.size ++ r.2.2.2.data.toList))
theorem DE (p : ByteArray) : mkB p.data.toList = p := by
 apply sm
 rfl
theorem sA (p : ByteArray) : p.data.toList.length = p.size := by simp
theorem Ab {w i t : Int} {p : ByteArray} (h : Aa w i t p) : (Br (w, i, t, p)).length ≤ 2040 := by
 obtain ⟨⟨h1, h2⟩, ⟨h3, h4⟩, ⟨h5, h6⟩, h7⟩ := h
 have a := bH (x := w.toNat) (by omega)
 have b := bH (x := i.toNat) (by omega)
 have c := bH (x := t.toNat) (by omega)
 have d := bH (x := p.size) (by omega)
 unfold Br
 simp only [List.length_append, sA]
 omega
theorem xh {w i t : Int} {p : ByteArray} (h : Aa w i t p) : dw 1000 (w, i, t, p) = some 0 := by
 obtain ⟨⟨h1, h2⟩, ⟨h3, h4⟩, ⟨h5, h6⟩, h7⟩ := h
 unfold dw
 dsimp only
 rw [fA h1, ag, lR h2, Bool.not_true, ac, fA h3, ag, lR h4, Bool.not_true, ac, fA h5, ag, lR h6, Bool.not_true, ac, jd (show cZ p ≤ 2000 by show ((p.size : Nat) : Int) ≤ 2000; omega), ac]
theorem DF {w i t : Int} {p : ByteArray} (h : Aa w i t p) : jB 1000 (w, i, t, p) = some (mkB (Br (w, i, t, p)), 0) := by
 have hc := xh h
 have hl := Ab h
 obtain ⟨⟨h1, h2⟩, ⟨h3, h4⟩, ⟨h5, h6⟩, h7⟩ := h
 unfold Br at hl ⊢
 simp only [List.length_append, sA] at hl
 unfold jB
 dsimp only
 refine aj hc ?_
 rw [eh (rfl : (0 : Int) = 0), ac]
 have e4 : bj 1000 (WK .u64 (cZ p)) = some (mkB (bX p.size)) := iJ (x := (p.size : Int)) (by omega) (by omega)
 refine aj (iJ h1 h2) (aj (iJ h5 (by omega)) ?_)
 refine (aa (cr (by omega))).trans ?_
 refine aj (iJ h3 h4) (aj e4 ?_)
 have hp := DE p
 obtain ⟨pl, hpl⟩ : ∃ pl, pl = p.data.toList := ⟨_, rfl⟩
 have hpn : pl.length = p.size := by rw [hpl]; exact sA p
 rw [← hpl] at hp ⊢
 rw [← hp]
 refine (aa (cr (by rw [hpn, hp]; omega))).trans ?_
 rw [ce]
 refine (aa (cr (by rw [List.length_append, hpn, hp]; omega))).trans ?_
 rw [ce, ce]
 refine (aa (cr (by simp only [List.length_append]; rw [hpn, hp]; omega))).trans ?_
 rw [ce]
def lfR (r : Rec) : Vh := hsh ([0] ++ Br r)
theorem DG {w i t : Int} {p : ByteArray} (h : Aa w i t p) : dM 1000 ([⟨#[0]⟩, mkB (Br (w, i, t, p))], ak) = some (lfR (w, i, t, p)) := by
 have hl := Ab h
 have := qj [[0], Br (w, i, t, p)] (by simp) (by simp; omega)
 simpa [lfR] using this
theorem LM {w i t : Int} {p : ByteArray} (h : Aa w i t p) {lv pk : List Vh} {rows : List Rec} (s : Int) (a b : Int) (c : Vh) (d : Int) (e : Vh) (hs : Stk 0 lv.length pk.reverse lv) (hb : lv.length ≤ 60) (hr : rows.length ≤ 60) :
 ∃ pk', gc 1000 (w, i, t, p, w, s, a, b, c, d, e, ak, lv, rows, (lv.length : Int), pk) = some (w, s, a, b, c, d, e, ((lv.length + 1 : Nat) : Int), lv ++ [lfR (w, i, t, p)], rows ++ [(w, i, t, p)], pk') ∧ Stk 0 (lv.length + 1) pk'.reverse (lv ++ [lfR (w, i, t, p)]) := by
 obtain ⟨pk', h1, h2⟩ := GD (lfR (w, i, t, p)) lv pk lv.length hs (by omega)
 refine ⟨pk', ?_, h2⟩
 unfold gc
 dsimp only
 refine aj (DF h) (aj (DG h) ?_)
 have e1 : dh (ae lv) lv = lv := by unfold ae; rw [cO, List.take_length]
 have e2 : dh (ae rows) rows = rows := by unfold ae; rw [cO, List.take_length]
 rw [e1, e2, aa ⟨by omega, by unfold ae; omega, by unfold ae; omega, by unfold ae; omega⟩, aa (show bc _ _ _ from by unfold bc; simp; omega), aa ⟨by omega, by unfold ae; omega, by unfold ae; omega, by unfold ae; omega⟩, aa (show bc _ _ _ from by unfold bc; simp; omega)]
 exact aj h1 rfl
theorem LN {w t : Int} {p : ByteArray} {lv pk : List Vh} {rows : List Rec} (h : Aa w (lv.length : Int) t p) (a b : Int) (c : Vh) (d : Int) (e : Vh) (hs : Stk 0 lv.length pk.reverse lv) (hb : lv.length ≤ 60) (hr : rows.length ≤ 60) :
 ∃ pk', aS 1000 (t, p, w, 0, a, b, c, d, e, ak, lv, rows, (lv.length : Int), pk) = some ((lv.length : Int), 0, w, 0, a, b, c, d, e, ((lv.length + 1 : Nat) : Int), lv ++ [lfR (w, (lv.length : Int), t, p)], rows ++ [(w, (lv.length : Int), t, p)], pk') ∧ Stk 0 (lv.length + 1) pk'.reverse (lv ++ [lfR (w, (lv.length : Int), t, p)]) := by
 obtain ⟨pk', h1, h2⟩ := LM h 0 a b c d e hs hb hr
 refine ⟨pk', ?_, h2⟩
 unfold aS
 dsimp only
 rw [eh (rfl : (0 : Int) = 0), ac, lS (show ae lv < 4000 by unfold ae; omega), ac]
 refine aj (xh h) ?_
 rw [eh (rfl : (0 : Int) = 0), ac]
 exact aj h1 rfl
theorem xi (l : List Rec) (h : l.length ≤ 900) : ib 1000 l = some l := by
 have hb : l.length * 40 ≤ 140737488355328 := by omega
 exact aa hb
abbrev z32 : Vh := Vector.replicate 32 0
def dU (w c : Int) (r : Vh) (t : Int) : List UInt8 := ([84] ++ (bX (fzL w c r).length ++ fzL w c r)) ++ bX t.toNat
theorem ql {w c : Int} (h : rx w c) (r : Vh) {t : Int} (h0 : 0 ≤ t) (h1 : t ≤ 1125899906842624) : (dU w c r t).length ≤ 100 := by
 have a := tM h r
 have b := bH (x := t.toNat) (by omega)
 have d := bH (x := (fzL w c r).length) (by omega)
 unfold dU
 simp only [List.length_append, List.length_cons, List.length_nil]
 omega
theorem Ac {w c : Int} (h : rx w c) (r : Vh) {t : Int} (h0 : 0 ≤ t) (h1 : t ≤ 1125899906842624) (m : Vh) : eF 1000 (w, c, r, t, m) = some (mkB (dU w c r t), 0) := by
 have a := tM h r
 have b := bH (x := t.toNat) (by omega)
 have d := bH (x := (fzL w c r).length) (by omega)
 have hl := ql h r h0 h1
 unfold eF
 refine aj (Bn h r) ?_
 dsimp only
 rw [eh rfl, ac, fA h0, ag, lR h1, Bool.not_true, ac]
 have e1 : bj 1000 (WK .u64 (cZ (mkB (fzL w c r)))) = some (mkB (bX (fzL w c r).length)) := by
  rw [oS]
  exact iJ (x := ((fzL w c r).length : Int)) (by omega) (by omega)
 refine aj e1 ?_
 rw [aa (cr (by omega)), ce]
 refine aj (iJ h0 h1) ?_
 refine aj (a := mkB (dU w c r t)) ?_ rfl
 show aV 1000 _ = _
 unfold aV
 have hj : Lib.join (([⟨#[84]⟩, mkB (bX (fzL w c r).length ++ fzL w c r), mkB (bX t.toNat)] : List ByteArray).map (·.data.toList)) (aG : ByteArray).data.toList = dU w c r t := by
  simp [Lib.join, dU, mkB]
 have hb : (Lib.join (([⟨#[84]⟩, mkB (bX (fzL w c r).length ++ fzL w c r), mkB (bX t.toNat)] : List ByteArray).map (·.data.toList)) (aG : ByteArray).data.toList).length ≤ 140737488355328 := by
  rw [hj]; omega
 refine (aa ⟨by simp, by simp, hb⟩).trans ?_
 exact congrArg (fun l => some (mkB l)) hj
theorem DH {w c : Int} (h : rx w c) (r : Vh) {t : Int} (h0 : 0 ≤ t) (h1 : t ≤ 1125899906842624) (m : Vh) : gh 1000 (w, c, r, t, m) = some (mkB (dU w c r t ++ (bX 32 ++ vb m)), 0) := by
 have hl := ql h r h0 h1
 have d := bH (x := 32) (by decide)
 unfold gh
 refine aj (Ac h r h0 h1 m) ?_
 dsimp only
 rw [eh rfl, ac, yg]
 refine aj (iJ (x := 32) (by decide) (by decide)) ?_
 refine (aa (cr (a := bX 32) (b := vb m) (by rw [ij]; omega))).trans ?_
 rw [vx, show mkB (bX (32 : Int).toNat) ++ mkB (vb m) = mkB (bX 32 ++ vb m) from ce _ _]
 refine aj (a := mkB (dU w c r t ++ (bX 32 ++ vb m))) ?_ rfl
 show aV 1000 _ = _
 unfold aV
 have hj : Lib.join (([mkB (dU w c r t), mkB (bX 32 ++ vb m)] : List ByteArray).map (·.data.toList)) (aG : ByteArray).data.toList = dU w c r t ++ (bX 32 ++ vb m) := by
  simp [Lib.join, mkB]
 have hb : (Lib.join (([mkB (dU w c r t), mkB (bX 32 ++ vb m)] : List ByteArray).map (·.data.toList)) (aG : ByteArray).data.toList).length ≤ 140737488355328 := by
  rw [hj]; simp only [List.length_append, ij]; omega
 refine (aa ⟨by simp, by simp, hb⟩).trans ?_
 exact congrArg (fun l => some (mkB l)) hj
def Ad (k : Int) (n : Nat) : Nat := min k.toNat n
theorem yh {k w : Int} {lv pk : List Vh} {rows : List Rec} {n : Int} (a b : Int) (c : Vh) (d : Int) (e : Vh) (hr : rows.length ≤ 900) : ec 1000 (k, w, 2, a, b, c, d, e, lv, rows, n, pk) = some (((rows.length - Ad k rows.length : Nat) : Int), w, 2, a, b, c, d, e, lv, rows.take (rows.length - Ad k rows.length)) := by
 unfold ec
 dsimp only
 have e1 : mnI (mxI k 0) (ae rows) = ((Ad k rows.length : Nat) : Int) := by
  unfold mnI mxI Ad ae
  split <;> split <;> omega
 have hc : Ad k rows.length ≤ rows.length := Nat.min_le_right ..
 have e2 : WK .i64 (ae rows - mnI (mxI k 0) (ae rows)) = ((rows.length - Ad k rows.length : Nat) : Int) := by
  rw [e1, av (by unfold ae; omega) (by unfold ae; omega)]; unfold ae; omega
 rw [e2]
 refine aj (a := (w, 2, a, b, c, d, e, lv, rows.take (rows.length - Ad k rows.length))) ((congrArg (ai · _ _) (cu rfl)).trans ((ag _ _).trans ((aa ⟨by omega, by omega, by unfold ae; omega, by omega⟩).trans ?_))) ?_
 ·rw [cO]
  exact aj (xi _ (by rw [List.length_take]; omega)) rfl
 ·dsimp only
  unfold ae
  rw [List.length_take, Nat.min_eq_left (by omega)]
theorem yi {w s : Int} {lv pk : List Vh} {rows : List Rec} (a b : Int) (c : Vh) (d : Int) (e : Vh) (hst : Stk 0 lv.length pk.reverse lv) (hb : lv.length ≤ 500) : cz 1000 (w, s, a, b, c, d, e, ak, lv, rows, (lv.length : Int), pk) = some (w, (lv.length : Int), rt 40 lv) := by
 unfold cz
 exact aj (xg hst hb) rfl
theorem GF {w : Int} {lv pk : List Vh} {rows : List Rec} (a b : Int) (c : Vh) (d : Int) (e : Vh) (hst : Stk 0 lv.length pk.reverse lv) (hb : lv.length ≤ 500) (h0 : 1 ≤ lv.length) : dZ 1000 (w, 0, a, b, c, d, e, ak, lv, rows, (lv.length : Int), pk) = some (w, (lv.length : Int), rt 40 lv, 0, w, 1, a, b, c, d, e, lv, rows) := by
 unfold dZ
 dsimp only
 rw [eh rfl, ac, cU (show ae lv ≠ 0 by unfold ae; omega), ac]
 exact aj (yi a b c d e hst hb) rfl
theorem GG {w t : Int} {m : Vh} {lv pk : List Vh} {rows : List Rec} (a b : Int) (c : Vh) (d : Int) (e : Vh) (hst : Stk 0 lv.length pk.reverse lv) (hb : lv.length ≤ 500) (hF : rx w (lv.length : Int)) (h0 : 0 ≤ t) (h1 : t ≤ 1125899906842624) :
 bZ 1000 (w, (lv.length : Int), rt 40 lv, t, m, w, 1, a, b, c, d, e, ak, lv, rows, (lv.length : Int), pk) = some (0, w, 2, w, (lv.length : Int), rt 40 lv, t, m, lv, rows) := by
 unfold bZ
 dsimp only
 rw [eh rfl, ac]
 refine aj (DH hF _ h0 h1 m) ?_
 dsimp only
 rw [eh rfl, ac]
 refine aj (yi a b c d e hst hb) ?_
 dsimp only
 rw [iI, cu rfl, cu rfl]
 rfl
theorem GH (k : Nat) {n : Nat} (h0 : 2 ≤ n) (h : n ≤ 1099511627776) : bits_Len64 k (WK .u64 (WK .i64 ((n : Int) - 1))) = some ((Nat.log2 (n - 1) + 1 : Nat) : Int) := by
 rw [av (by omega) (by omega), Bl (by omega) (by omega)]
 show bB k _ = _
 unfold bB
 rw [aa ⟨by omega, by omega⟩]
 have e : ((n : Int) - 1).toNat = n - 1 := by omega
 rw [e, zT (n - 1) (by omega) (by omega)]
theorem Cu {n : Nat} (h0 : 2 ≤ n) (h : n ≤ 1099511627776) : WK .i64 (((Nat.log2 (n - 1) + 1 : Nat) : Int) - 1) = ((Nat.log2 (n - 1) : Nat) : Int) ∧ cq .i64 1 ((Nat.log2 (n - 1) : Nat) : Int) = ((sp n : Nat) : Int) := by
 have := xa h0 h
 refine ⟨?_, Ic _ (by omega)⟩
 rw [av (by omega) (by omega)]
 omega
def stp (w : Bool) : Nat → Nat → Nat → List (Bool × Nat × Nat)
 | 0, _, _ => []
 | d + 1, m, n => if n < 2 ∨ (w = true ∧ m = n) then [] else if m < sp n ∨ (w = true ∧ m = sp n) then (false, sp n, m) :: stp w d m (sp n) else (true, n - sp n, m - sp n) :: stp w d (m - sp n) (n - sp n)
theorem jD (w : Bool) : ∀ d m n, (stp w d m n).length ≤ d
 | 0, _, _ => by simp [stp]
 | d + 1, m, n => by
   have h1 := jD w d m (sp n)
   have h2 := jD w d (m - sp n) (n - sp n)
   simp only [stp]
   split
   ·simp
   ·split <;> simp <;> omega
abbrev tv (p : Bool × Nat × Nat) : Bool × Int × Int := (p.1, (p.2.1 : Int), (p.2.2 : Int))
def plc (w : Bool) (m n : Nat) : Prop := if w = true then 1 ≤ m ∧ m ≤ n else m < n
theorem oT {w : Bool} {m n : Nat} (h : n < 2 ∨ (w = true ∧ m = n)) (d : Nat) : stp w d m n = [] := by
 cases d with
 | zero => rfl
 | succ d => simp only [stp, if_pos h]
theorem GI {w : Bool} {m n : Nat} (hp : plc w m n) (b : m < sp n ∨ (w = true ∧ m = sp n)) : plc w m (sp n) := by
 unfold plc at *
 cases w
 ·simp at b hp ⊢; exact b
 ·simp at b hp ⊢; omega
theorem DI {w : Bool} {m n : Nat} (h2 : 2 ≤ n) (hp : plc w m n) (b : ¬ (m < sp n ∨ (w = true ∧ m = sp n))) : plc w (m - sp n) (n - sp n) := by
 have := ii h2
 unfold plc at *
 cases w
 ·simp at b hp ⊢; omega
 ·simp at b hp ⊢; omega
theorem Cv {w : Bool} {m n : Nat} (hp : plc w m n) (hn : n ≤ 1099511627776) : lO 1000 ((m : Int), (n : Int), w) = some ((stp w 40 m n).map tv) := by
 obtain ⟨L, hL⟩ : ∃ L, L = (stp w 40 m n).map tv := ⟨_, rfl⟩
 rw [← hL]
 unfold lO
 refine fx (fun d h => ∃ (m n : Nat) (out : List (Bool × Int × Int)), h = ((m : Int), (n : Int), out) ∧ n ≤ 2 ^ d ∧ n ≤ 1099511627776 ∧ plc w m n ∧ out.length + d ≤ 40 ∧ out ++ (stp w d m n).map tv = L) (fun e => e.2.2 = L) 40 (by omega) ⟨m, n, [], rfl, hn, hn, hp, by simp, by simp [hL]⟩ ?_ (fun e he => by rw [he])
 clear hL hp hn
 rintro d _ ⟨m, n, out, rfl, h1, h2, h3, h4, h5⟩
 dsimp only
 by_cases a : n < 2 ∨ (w = true ∧ m = n)
 ·have e1 : (ai (ilt (n : Int) 2) (some (.inl ())) (ai w (ai (ieq (m : Int) (n : Int)) (some (.inl ())) (some (.inr (())))) (some (.inr (())))) : Option ((Unit) ⊕ (Unit))) = some (.inl ()) := by
   by_cases a1 : n < 2
   ·rw [be (by omega), ag]
   ·obtain ⟨rfl, rfl⟩ := a.resolve_left a1
    rw [aM (by omega), ac, ag, cu rfl, ag]
  rw [e1]
  simp only [Option.bind_some, cd]
  refine .out ?_
  rw [oT a] at h5
  simpa using h5
 ·have a1 : 2 ≤ n := by omega
  have e1 : (ai (ilt (n : Int) 2) (some (.inl ())) (ai w (ai (ieq (m : Int) (n : Int)) (some (.inl ())) (some (.inr (())))) (some (.inr (())))) : Option ((Unit) ⊕ (Unit))) = some (.inr ()) := by
   rw [aM (by omega), ac]
   cases w
   ·rfl
   ·rw [ag, cU (by simp at a; omega), ac]
  rw [e1]
  obtain ⟨d, rfl⟩ := qk a1 h1
  obtain ⟨s1, s2, s3⟩ := ii a1
  have s4 := xc a1 h1
  simp only [Option.bind_some, au, aM (show (2 : Int) ≤ (n : Int) by omega), ac, GH 1000 a1 h2, (Cu a1 h2).1, (Cu a1 h2).2]
  rw [aa (show nn ((Nat.log2 (n - 1) : Nat) : Int) by unfold nn; omega)]
  simp only [stp, if_neg a] at h5
  have ap : ∀ x : Bool × Int × Int, bc out [x] 24 := fun x => by unfold bc; simp; omega
  have r1 : WK .i64 ((m : Int) - (sp n : Nat)) = (m : Int) - (sp n : Nat) := av (by unfold plc at h3; cases w <;> simp at h3 <;> omega) (by unfold plc at h3; cases w <;> simp at h3 <;> omega)
  have r2 : WK .i64 ((n : Int) - (sp n : Nat)) = ((n - sp n : Nat) : Int) := by rw [av (by omega) (by omega)]; omega
  by_cases b : m < sp n ∨ (w = true ∧ m = sp n)
  ·rw [if_pos b] at h5
   have key : Goes (fun d h => ∃ (m n : Nat) (out : List (Bool × Int × Int)), h = ((m : Int), (n : Int), out) ∧ n ≤ 2 ^ d ∧ n ≤ 1099511627776 ∧ plc w m n ∧ out.length + d ≤ 40 ∧ out ++ (stp w d m n).map tv = L) (fun e : Int × Int × List (Bool × Int × Int) => e.2.2 = L) (d + 1) (some (.inl ((m : Int), (sp n : Int), out ++ [(false, (sp n : Int), (m : Int))]))) :=
    .on d (by omega) ⟨m, sp n, _, rfl, s4, by omega, GI h3 b, by simp; omega, by simpa [tv] using h5⟩
   by_cases b1 : m < sp n
   ·rw [be (by omega), ag, aa (ap _)]
    exact key
   ·obtain ⟨rfl, b2⟩ := b.resolve_left b1
    rw [aM (by omega), ac, ag, cu (by omega), ag, aa (ap _)]
    exact key
  ·rw [if_neg b] at h5
   have hm : sp n ≤ m := by omega
   have r1' : WK .i64 ((m : Int) - (sp n : Nat)) = ((m - sp n : Nat) : Int) := by rw [r1]; omega
   have key : Goes (fun d h => ∃ (m n : Nat) (out : List (Bool × Int × Int)), h = ((m : Int), (n : Int), out) ∧ n ≤ 2 ^ d ∧ n ≤ 1099511627776 ∧ plc w m n ∧ out.length + d ≤ 40 ∧ out ++ (stp w d m n).map tv = L) (fun e : Int × Int × List (Bool × Int × Int) => e.2.2 = L) (d + 1) (some (.inl (((m - sp n : Nat) : Int), ((n - sp n : Nat) : Int), out ++ [(true, ((n - sp n : Nat) : Int), ((m - sp n : Nat) : Int))]))) :=
    .on d (by omega) ⟨m - sp n, n - sp n, _, rfl, by omega, by omega, DI a1 h3 b, by simp; omega, by simpa [tv] using h5⟩
   rw [aM (by omega), ac, r1', r2]
   cases w
   ·rw [ac, aa (ap _)]
    exact key
   ·rw [ag, cU (by simp at b; omega), ac, aa (ap _)]
    exact key
theorem xj {m n : Nat} (hp : m < n) (hn : n ≤ 1099511627776) : jb 1000 ((m : Int), (n : Int)) = some ((stp false 40 m n).map (·.1)).reverse := by
 obtain ⟨L, hL⟩ : ∃ L, L = (stp false 40 m n).map (·.1) := ⟨_, rfl⟩
 have hl : L.length ≤ 40 := by rw [hL, List.length_map]; exact jD ..
 rw [← hL]
 unfold jb
 dsimp only
 rw [aM (show (0 : Int) ≤ (m : Int) by omega), lS (show (m : Int) < (n : Int) by omega), jd (show (n : Int) ≤ 1099511627776 by omega), ac, ac, ac]
 refine fx (fun d h => ∃ (m n : Nat) (out : List Bool), h = ((m : Int), (n : Int), out) ∧ n ≤ 2 ^ d ∧ n ≤ 1099511627776 ∧ m < n ∧ out.length + d ≤ 40 ∧ out ++ (stp false d m n).map (·.1) = L) (fun e => e = L) 40 (by omega) ⟨m, n, [], rfl, hn, hn, hp, by simp, by simp [hL]⟩ ?_ ?_
 ·clear hL hp hn
  rintro d _ ⟨m, n, out, rfl, h1, h2, h3, h4, h5⟩
  dsimp only
  by_cases a : n < 2
  ·rw [jd (by omega), ac]
   refine .out ?_
   rw [oT (.inl a)] at h5
   simpa using h5
  ·have a1 : 2 ≤ n := by omega
   obtain ⟨d, rfl⟩ := qk a1 h1
   obtain ⟨s1, s2, s3⟩ := ii a1
   have s4 := xc a1 h1
   rw [om (by omega), ag, Gw h2, if_neg a, Option.bind_some]
   have a2 : ¬ (n < 2 ∨ (false = true ∧ m = n)) := by simp; omega
   simp only [stp, if_neg a2] at h5
   have ap : ∀ x : Bool, bc out [x] 1 := fun x => by unfold bc; simp; omega
   by_cases b : m < sp n
   ·rw [if_pos (Or.inl b)] at h5
    rw [be (by omega), ag, aa (ap _)]
    exact .on d (by omega) ⟨m, sp n, _, rfl, s4, by omega, b, by simp; omega, by simpa using h5⟩
   ·rw [if_neg (show ¬ (m < sp n ∨ (false = true ∧ m = sp n)) by simp; omega)] at h5
    have r1 : WK .i64 ((m : Int) - (sp n : Nat)) = ((m - sp n : Nat) : Int) := by rw [av (by omega) (by omega)]; omega
    have r2 : WK .i64 ((n : Int) - (sp n : Nat)) = ((n - sp n : Nat) : Int) := by rw [av (by omega) (by omega)]; omega
    rw [aM (by omega), ac, aa (ap _), r1, r2]
    exact .on d (by omega) ⟨m - sp n, n - sp n, _, rfl, by omega, by omega, by omega, by simp; omega, by simpa using h5⟩
 ·intro e he
  subst he
  refine aj (?_ : aP _ _ _ = some e.reverse) rfl
  rw [show ((WK .i64 (ae e - 1)), ([] : List Bool)) = (fun i : Nat => (((e.length : Int) - 1 - (i : Int)), e.reverse.take i)) 0 from by rw [av (by unfold ae; omega) (by unfold ae; omega)]; simp]
  refine bS (fun i : Nat => (((e.length : Int) - 1 - (i : Int)), e.reverse.take i)) e.length e.reverse 1000 (fun i hi => ?_) ?_ (by omega)
  ·dsimp only
   have e1 : (e.length : Int) - 1 - (i : Int) = ((e.length - 1 - i : Nat) : Int) := by omega
   have e2 : WK .i64 ((e.length : Int) - 1 - (i : Int) - 1) = (e.length : Int) - 1 - ((i + 1 : Nat) : Int) := by rw [av (by omega) (by omega)]; omega
   have ap : ∀ x : Bool, bc (e.reverse.take i) [x] 1 := fun x => by unfold bc; simp; omega
   rw [fA (by omega), ag, aa ⟨by omega, by unfold ae; omega⟩, aa (ap _), e2]
   have e3 : at_ .bool e ((e.length : Int) - 1 - (i : Int)) = e.reverse[i]'(by simpa using hi) := by
    rw [e1, bL (t := .bool) (by omega), List.getElem_reverse]
   rw [e3, List.take_add_one, List.getElem?_eq_getElem (by simpa using hi)]
   rfl
  ·dsimp only
   rw [lS (by omega), ac, List.take_of_length_le (by simp)]
theorem DJ {m n : Nat} (hp : m < n) (hn : n ≤ 1099511627776) : mI 1000 ((m : Int), (n : Int)) = some ((stp false 40 m n).length : Int) := by
 unfold mI
 simp only [aM (show (0 : Int) ≤ (m : Int) by omega), lS (show (m : Int) < (n : Int) by omega), jd (show (n : Int) ≤ 1099511627776 by omega), ac, xj hp hn, Option.bind_some, ae, List.length_reverse, List.length_map]
theorem GJ (l : List (Bool × Int × Int)) (hl : l.length ≤ 900) : ∃ r, dC 1000 l = some r ∧ ige r 0 = l.any (·.1) := by
 unfold dC
 refine mN (fun d h => ∃ i : Nat, h = (i : Int) ∧ i + d = l.length ∧ ∀ j (hj : j < l.length), j < i → (l[j]).1 = false) (fun e => match e with | .inl i => 0 ≤ i ∧ l.any (·.1) = true | .inr _ => l.any (·.1) = false) l.length (by omega) ⟨0, rfl, by omega, fun j _ h => by omega⟩ ?_ ?_
 ·rintro d _ ⟨i, rfl, hi, hf⟩
  by_cases a : i < l.length
  ·have e1 : at_ (.pair .bool (.pair (.int .i64) (.int .i64))) l (i : Int) = l[i] := bL (t := .pair .bool (.pair (.int .i64) (.int .i64))) a
   rw [be (show (i : Int) < ae l by unfold ae; omega), ag, aa ⟨by omega, by unfold ae; omega⟩]
   by_cases b : (l[i]).1 = true
   ·have e2 : (at_ T8 l (i : Int)).1 = true := (congrArg (·.1) e1).trans b
    rw [e2, ag]
    exact .out ⟨by omega, List.any_eq_true.2 ⟨l[i], List.getElem_mem a, b⟩⟩
   ·have b' : (l[i]).1 = false := by simpa using b
    have e2 : (at_ T8 l (i : Int)).1 = false := (congrArg (·.1) e1).trans b'
    rw [e2, ac, av (by omega) (by omega)]
    exact .on (d - 1) (by omega) ⟨i + 1, by omega, by omega, fun j hj hlt => by
     rcases Nat.lt_or_ge j i with h | h
     ·exact hf j hj h
     ·obtain rfl : j = i := by omega
      exact b'⟩
  ·rw [aM (show ae l ≤ (i : Int) by unfold ae; omega), ac]
   refine .out ?_
   show l.any (·.1) = false
   rw [List.any_eq_false]
   intro x hx
   obtain ⟨j, hj, rfl⟩ := List.mem_iff_getElem.1 hx
   have := hf j hj (by omega)
   rw [this]
   decide
 ·rintro (i | u) h
  ·exact ⟨i, rfl, by rw [h.2]; exact fA h.1⟩
  ·exact ⟨-1, rfl, by rw [show l.any (·.1) = false from h]; rfl⟩
theorem oy {w : Bool} {d m n : Nat} (a : ¬ (n < 2 ∨ (w = true ∧ m = n))) (b : m < sp n ∨ (w = true ∧ m = sp n)) : stp w (d + 1) m n = (false, sp n, m) :: stp w d m (sp n) := by
 rw [stp, if_neg a, if_pos b]
theorem lY {w : Bool} {d m n : Nat} (a : ¬ (n < 2 ∨ (w = true ∧ m = n))) (b : ¬ (m < sp n ∨ (w = true ∧ m = sp n))) : stp w (d + 1) m n = (true, n - sp n, m - sp n) :: stp w d (m - sp n) (n - sp n) := by
 rw [stp, if_neg a, if_neg b]
end Go.Proofs.YtlepjakmadlkjaaGreatDoor
