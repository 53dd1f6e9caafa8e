/- Texts of the proof, put together: part 8. No condition. -/
import Derived.Test.YtlepjakmadlkjaaGreatDoorT7
import Derived.Test.YtlepjakmadlkjaaGreatDoorRows
import Derived.WalkKit
import Derived.ProofKit
import Derived.OpenShut
import Derived.ShutString
import Derived.ChangeOld
import Derived.SizedLaws
import Derived.Deep.Slices
import Derived.LaidMore
import Derived.Lib.LaidTab
import Derived.Stop.Joined
import Derived.Lib.BitFns
import Derived.Lib.ItoaNum
set_option linter.unusedVariables false
set_option linter.unusedSimpArgs false
namespace Go.Proofs.YtlepjakmadlkjaaGreatDoor
open Go Go.WideShapes Go.ChangeShapes
mutual
def chkT (P : Program) : Nat → TypeId → Ty → Bool
 | 0, _, _ => false
 | d + 1, t, u => match P.underlying t with
   | some .bool => decide (u = .bool)
   | some (.int k) => decide (u = .int k)
   | some .string => decide (u = .str)
   | some (.array n e) => match u with
     | .arr m v => decide (n = m) && v.flat && chkT P d e v && decide (n * P.cellsOf e = P.cellsOf t) && decide (P.cellsOf e = v.sz)
     | _ => false
   | some (.slice e) => match u with
     | .sl e' v => decide (e = e') && chkT P d e v && decide (P.cellsOf e = v.sz)
     | _ => false
   | some (.struct fs) => chkF P d 0 fs.toList u (P.cellsOf t)
   | _ => false
def chkF (P : Program) : Nat → Nat → List Field → Ty → Nat → Bool
 | 0, _, _, _, _ => false
 | _ + 1, off, [], u, n => decide (u = .unit) && decide (off = n)
 | d + 1, off, [f], u, n => decide (f.offset = off) && chkT P d f.type u && decide (off + P.cellsOf f.type = n)
 | d + 1, off, f :: g :: fs, u, n => match u with
   | .pair a b => decide (f.offset = off) && chkT P d f.type a && chkF P d (off + P.cellsOf f.type) (g :: fs) b n
   | _ => false
end
def wfT : (u : Ty) → u.den → Prop
 | .int k, x => (Lit.int k x).wf = true
 | .bool, _ => True
 | .str, s => s.size ≤ 9223372036854775807
 | .unit, _ => True
 | .arr n t, v => ∀ i : Fin n, wfT t (v.get i)
 | .pair a b, x => wfT a x.1 ∧ wfT b x.2
 | .sl _ t, l => l.length ≤ 9223372036854775807 ∧ ∀ x ∈ l, wfT t x
def Facts (F : List Fact) (w : World) : Prop := ∀ f ∈ F, Rds f.v f.n f.sz f.cs w
section
variable {H : Type} {enc : TypeId × Value → H} {P : Program} {w : World} {base : Nat} {held : Bool}
theorem facts_app {F G : List Fact} (h : Facts F w) (k : Facts G w) : Facts (F ++ G) w := fun f hf => by
 rcases List.mem_append.1 hf with hf | hf
 ·exact h f hf
 ·exact k f hf
mutual
theorem open_rep : ∀ (d fuel : Nat) (t : TypeId) (u : Ty) (cs : List Value) (x : DataW H × List MemPlace), chkT P d t u = true → DataW.trod enc P w base (fun _ => true) held fuel t cs = some x →
 ∃ (y : u.den) (F : List Fact), RepP u y cs F ∧ Facts F w ∧ wfT u y
 | 0, _, _, _, _, _, h, _ => by simp [chkT] at h
 | d + 1, fuel, t, u, cs, x, h, hx => by
   simp only [chkT] at h
   split at h
   ·rename_i hu
    obtain rfl := of_decide_eq_true h
    obtain ⟨b, rfl, _⟩ := DataW.trod_bool hu hx
    exact ⟨b, [], ⟨rfl, rfl⟩, (fun f hf => by cases hf), trivial⟩
   ·rename_i k hu
    obtain rfl := of_decide_eq_true h
    obtain ⟨n, rfl, _, hw⟩ := DataW.trod_int hu hx
    exact ⟨n, [], ⟨rfl, rfl⟩, (fun f hf => by cases hf), hw⟩
   ·rename_i hu
    obtain rfl := of_decide_eq_true h
    obtain ⟨s, rfl, _, hw⟩ := DataW.trod_string hu hx
    exact ⟨s, [], ⟨rfl, rfl⟩, (fun f hf => by cases hf), hw⟩
   ·rename_i n e hu
    split at h
    ·rename_i m v
     simp only [Bool.and_eq_true, decide_eq_true_eq] at h
     obtain ⟨⟨⟨⟨rfl, hfl⟩, hc⟩, hsz⟩, hv⟩ := h
     obtain ⟨xs, m, rfl, _, hl, hlen, hm⟩ := DataW.trod_array hu hx
     have one : ∀ i, i < n → ∃ y : v.den, (cs.drop (i * v.sz)).take v.sz = (flatT v).cells y ∧ wfT v y := by
      intro i hi
      have hlt : i < xs.length := by omega
      obtain ⟨y, F, h1, h2, h3⟩ := open_rep d m e v _ xs[i] hc (by rw [hm i hi, List.getElem?_eq_getElem hlt])
      rw [hv] at h1
      exact ⟨y, ((RepP_flat v hfl _ _ _).1 h1).1, h3⟩
     haveI : Inhabited v.den := ⟨v.dflt⟩
     obtain ⟨f, hf⟩ := Go.Deep.choose_lt one
     refine ⟨Vector.ofFn (fun i : Fin n => f i.1), [], ⟨?_, rfl⟩, (fun f hf => by cases hf), fun i => ?_⟩
     ·have har : arL (flatT v).dflt n (Vector.ofFn (fun i : Fin n => f i.1)) = (List.range n).map f := by
       unfold arL
       apply List.map_congr_left
       intro i hi
       have hi : i < n := by simpa using hi
       have h1 : (Vector.ofFn (fun i : Fin n => f i.1)).toArray.size = n := by simp
       simp only [Array.getD, h1, hi, dif_pos]
       simp [Array.getInternal_eq_getElem]
      have hcs : ∀ k, k ≤ n → ((List.range k).map f).flatMap (flatT v).cells = cs.take (k * v.sz) := by
       intro k
       induction k with
       | zero => intro _; simp
       | succ k ih =>
         intro hk
         rw [List.range_succ, List.map_append, List.flatMap_append, ih (by omega)]
         simp only [List.map_cons, List.map_nil, List.flatMap_cons, List.flatMap_nil, List.append_nil]
         rw [← (hf k (by omega)).1, Nat.add_mul, Nat.one_mul, List.take_add]
      show cs = (arL (flatT v).dflt n _).flatMap (flatT v).cells
      rw [har, hcs n (Nat.le_refl _), List.take_of_length_le]
      rw [hl, ← hsz, hv]; exact Nat.le_refl _
     ·have : (Vector.ofFn (fun i : Fin n => f i.1)).get i = f i.1 := by
       simp only [Vector.get]
       simp
       first | rfl | done
      rw [this]; exact (hf i.1 i.2).2
    ·cases h
   ·rename_i e hu
    split at h
    ·rename_i e' v
     simp only [Bool.and_eq_true, decide_eq_true_eq] at h
     obtain ⟨⟨rfl, hc⟩, hv⟩ := h
     rcases Go.Deep.open_slice hu hx with ⟨h0, _⟩ | ⟨a, len, cap, m, n, D, Pl, hcs, hb, hl, hm, hmm, _, hel⟩
     ·subst h0
      exact ⟨[], [⟨.slice none 0 0, 0, v.sz, []⟩], ⟨_, [], [], rfl, ⟨none, 0, rfl, fun _ => rfl⟩, rfl, rfl, rfl⟩, (fun f hf => by
       simp only [List.mem_singleton] at hf; subst hf; exact rds_nil _ _), by simp, by simp⟩
     ·subst hcs
      have hm' : len ≤ m := by rw [hmm]; split <;> omega
      have one : ∀ i, i < len → ∃ y : v.den × List Value × List Fact, w.cells? base (a.add (i * v.sz)) v.sz = some y.2.1 ∧ RepP v y.1 y.2.1 y.2.2 ∧ Facts y.2.2 w ∧ wfT v y.1 := by
       intro i hi
       obtain ⟨cs', h1, h2⟩ := hel i (by omega)
       rw [hv] at h1
       obtain ⟨y, F, k1, k2, k3⟩ := open_rep d n e v cs' _ hc h2
       exact ⟨(y, cs', F), h1, k1, k2, k3⟩
      haveI : Inhabited (v.den × List Value × List Fact) := ⟨(v.dflt, [], [])⟩
      obtain ⟨f, hf⟩ := Go.Deep.choose_lt one
      have build : ∀ k, k ≤ len → ∃ css F, RepL (RepP v) ((List.range k).map fun i => (f i).1) css F ∧ Facts F w ∧ css.length = k * v.sz ∧ ∀ j c, css[j]? = some c → w.cell? (a.add j) = some c := by
       intro k
       induction k with
       | zero => intro _; exact ⟨[], [], ⟨rfl, rfl⟩, (fun f hf => by cases hf), by simp, by simp⟩
       | succ k ih =>
         intro hk
         obtain ⟨css, F, r1, r2, r3, r4⟩ := ih (by omega)
         obtain ⟨c1, c2, c3, _⟩ := hf k (by omega)
         obtain ⟨_, hcl, hce⟩ := World.cells?_some c1
         refine ⟨css ++ (f k).2.1, F ++ (f k).2.2, ?_, facts_app r2 c3, ?_, fun j c hj => ?_⟩
         ·rw [List.range_succ, List.map_append]
          refine RepL_app _ _ _ _ _ _ r1 ?_
          exact ⟨(f k).2.1, [], (f k).2.2, [], by simp, by simp, c2, rfl, rfl⟩
         ·rw [List.length_append, r3, RepP_len v _ _ _ c2, Nat.add_mul, Nat.one_mul]
         ·by_cases hlt : j < k * v.sz
          ·rw [List.getElem?_append_left (by omega)] at hj
           exact r4 j c hj
          ·rw [List.getElem?_append_right (by omega), r3] at hj
           have hlt2 := (List.getElem?_eq_some_iff.1 hj).1
           rw [RepP_len v _ _ _ c2] at hlt2
           have := hce (j - k * v.sz) hlt2
           rw [hj, Go.Deep.add_add] at this
           rw [← this]; congr 2; omega
      obtain ⟨css, F, r1, r2, r3, r4⟩ := build len (Nat.le_refl _)
      have hlen : ((List.range len).map fun i => (f i).1).length = len := by simp
      have hmx : cap ≤ 9223372036854775807 := by unfold maxLen at hm; omega
      refine ⟨(List.range len).map fun i => (f i).1, ⟨.slice (some a) len cap, len, v.sz, css⟩ :: F, ⟨_, css, F, rfl, ⟨some a, cap, by rw [hlen], fun h => by cases h⟩, by rw [hlen], r1⟩, fun f0 hf0 => ?_, ?_, ?_⟩
      ·rcases List.mem_cons.1 hf0 with rfl | hf0
       ·exact ⟨r3, some a, cap, rfl, hl, hmx, (fun h => by cases h), fun j u hu => ⟨a, rfl, r4 j u hu⟩⟩
       ·exact r2 f0 hf0
      ·rw [hlen]; omega
      ·intro y hy
       simp only [List.mem_map, List.mem_range] at hy
       obtain ⟨i, hi, rfl⟩ := hy
       exact (hf i hi).2.2.2
    ·cases h
   ·rename_i fs hu
    obtain ⟨xs, m, rfl, _, hl, hlen, hm⟩ := DataW.trod_struct hu hx
    have := open_repF d m 0 fs.toList u (P.cellsOf t) cs h hl (fun i f hi => ?_)
    ·simpa using this
    ·have hi' : fs[i]? = some f := by simpa using hi
     have hlt : i < xs.length := by rw [hlen]; exact (Array.getElem?_eq_some_iff.1 hi').1
     exact ⟨xs[i], by rw [hm i f hi', List.getElem?_eq_getElem hlt]⟩
   ·cases h
theorem open_repF : ∀ (d fuel off : Nat) (fs : List Field) (u : Ty) (n : Nat) (cs : List Value), chkF P d off fs u n = true → cs.length = n →
 (∀ (i : Nat) f, fs[i]? = some f → ∃ y, DataW.trod enc P w base (fun _ => true) held fuel f.type ((cs.drop f.offset).take (P.cellsOf f.type)) = some y) →
 ∃ (y : u.den) (F : List Fact), RepP u y (cs.drop off) F ∧ Facts F w ∧ wfT u y
 | 0, _, _, _, _, _, _, h, _, _ => by simp [chkF] at h
 | d + 1, fuel, off, [], u, n, cs, h, hl, _ => by
   simp only [chkF, Bool.and_eq_true, decide_eq_true_eq] at h
   obtain ⟨rfl, rfl⟩ := h
   exact ⟨(), [], ⟨by simp [flatT, FU, ← hl], rfl⟩, (fun f hf => by cases hf), trivial⟩
 | d + 1, fuel, off, [f], u, n, cs, h, hl, hm => by
   simp only [chkF, Bool.and_eq_true, decide_eq_true_eq] at h
   obtain ⟨⟨ho, hc⟩, hn⟩ := h
   obtain ⟨x, hx⟩ := hm 0 f rfl
   have := open_rep d fuel f.type u _ x hc hx
   rw [ho, List.take_of_length_le (by rw [List.length_drop]; omega)] at this
   exact this
 | d + 1, fuel, off, f :: g :: fs, u, n, cs, h, hl, hm => by
   simp only [chkF] at h
   split at h
   ·rename_i a b
    simp only [Bool.and_eq_true, decide_eq_true_eq] at h
    obtain ⟨⟨ho, hc⟩, hn⟩ := h
    obtain ⟨x, hx⟩ := hm 0 f rfl
    obtain ⟨y1, F1, a1, a2, a3⟩ := open_rep d fuel f.type a _ x hc hx
    obtain ⟨y2, F2, b1, b2, b3⟩ := open_repF d fuel (off + P.cellsOf f.type) (g :: fs) b n cs hn hl (fun i f' hi => hm (i + 1) f' hi)
    refine ⟨(y1, y2), F1 ++ F2, ⟨_, _, F1, F2, ?_, rfl, a1, b1⟩, facts_app a2 b2, a3, b3⟩
    rw [ho, ← List.drop_drop, List.take_append_drop]
   ·cases h
end
def valC : Ty → List Value → Value
 | .arr _ _, cs => .agg cs.toArray
 | .pair _ _, cs => .agg cs.toArray
 | .unit, cs => .agg cs.toArray
 | _, cs => cs.headD .nilFunc
def aggOk (P : Program) (t : TypeId) (u : Ty) : Bool :=
 match P.underlying t, u with
 | some (.struct _), .pair _ _ => true
 | some (.struct _), .unit => true
 | some (.array _ _), .arr _ _ => true
 | some (.slice _), .sl _ _ => true
 | some .bool, .bool => true
 | some (.int _), .int _ => true
 | some .string, .str => true
 | _, _ => false
structure RepOk (w : World) (d : Dyn) (v : Value) : Prop where
 rep : ∃ F, RepP d.1 d.2 v.cells.toList F ∧ Facts F w
 val : v = valC d.1 v.cells.toList
theorem open_arg {b0 : Nat} {t : TypeId} {u : Ty} {v : Value} {d : DataW H} {ps : List MemPlace} (hc : chkT P 12 t u = true) (ha : aggOk P t u = true) (hval : Value.okWide P w .any b0 t v) (hd : DataW.Trod enc P w base (fun _ => true) held t v d ps) :
 ∃ y : u.den, RepOk w ⟨u, y⟩ v ∧ wfT u y := by
 obtain ⟨fuel, hf⟩ := hd
 obtain ⟨y, F, h1, h2, h3⟩ := open_rep 12 fuel t u _ _ hc hf
 refine ⟨y, ⟨⟨F, h1, h2⟩, ?_⟩, h3⟩
 have agg : (∃ cs, v = .agg cs) → ∀ u, (match u with | .arr _ _ => true | .pair _ _ => true | .unit => true | _ => false) = true → v = valC u v.cells.toList := by
  rintro ⟨cs, rfl⟩ u hu
  cases u <;> simp_all [valC, Value.cells]
 unfold aggOk at ha
 split at ha
 ·rename_i fs e
  exact agg (by unfold Value.okWide at hval; rw [e] at hval; obtain ⟨cs, h, _⟩ := hval; exact ⟨cs, h⟩) _ rfl
 ·rename_i fs e
  exact agg (by unfold Value.okWide at hval; rw [e] at hval; obtain ⟨cs, h, _⟩ := hval; exact ⟨cs, h⟩) _ rfl
 ·rename_i n e' e
  exact agg (by unfold Value.okWide at hval; rw [e] at hval; obtain ⟨cs, h, _⟩ := hval; exact ⟨cs, h⟩) _ rfl
 ·rename_i e
  obtain ⟨a, l, c, rfl⟩ := okWide_slice e hval
  rfl
 ·rename_i e
  obtain ⟨b, rfl⟩ := okWide_bool e hval
  rfl
 ·rename_i e
  obtain ⟨b, rfl⟩ := okWide_int e hval
  rfl
 ·rename_i e
  obtain ⟨b, rfl⟩ := okWide_string e hval
  rfl
 ·cases ha
end
inductive Args (w : World) : List Dyn → List Value → Prop where
 | nil : Args w [] []
 | cons {d : Dyn} {v : Value} {ds : List Dyn} {vs : List Value} : RepOk w d v → Args w ds vs → Args w (d :: ds) (v :: vs)
def slotOf (u : Ty) (ls : List At) : SV :=
 match u, ls with
 | .pair _ _, ls => .v (.st ls)
 | .unit, ls => .v (.st ls)
 | _, [a] => .v (.a a)
 | _, ls => .v (.st ls)
def startGo : List Dyn → Nat → List (Nat × SV) × List Ob → List (Nat × SV) × List Ob
 | [], _, s => s
 | d :: ds, i, s => startGo ds (i + 1) (s.1 ++ [(i, slotOf d.1 (unpk .lent d.1 d.2 s.2.length).1)], s.2 ++ (unpk .lent d.1 d.2 s.2.length).2)
theorem unpk_nrm (m : Md) : ∀ (u : Ty) (x : u.den) (n : Nat), (unpk m u x n).1.all nrmA = true
 | .pair a b, x, n => by simp only [unpk, List.all_append, unpk_nrm m a x.1 n, unpk_nrm m b x.2 _, Bool.and_self]
 | .int k, x, n => rfl
 | .bool, x, n => rfl
 | .str, x, n => rfl
 | .unit, x, n => rfl
 | .arr q t, x, n => rfl
 | .sl e t, x, n => rfl
theorem slot_enc (u : Ty) (x : u.den) (m : Md) (n : Nat) (g : Env) : encS g (slotOf u (unpk m u x n).1) = valC u (encL g (unpk m u x n).1) ∧ nrmS (slotOf u (unpk m u x n).1) = true ∧ refS (slotOf u (unpk m u x n).1) = (unpk m u x n).1.flatMap refA := by
 cases u with
 | int k => exact ⟨rfl, rfl, rfl⟩
 | bool => exact ⟨rfl, rfl, rfl⟩
 | str => exact ⟨rfl, rfl, rfl⟩
 | unit => exact ⟨rfl, rfl, rfl⟩
 | arr q t => exact ⟨by simp [slotOf, unpk, encS, encV, val1, valC, encL, encA], rfl, rfl⟩
 | pair a b => exact ⟨rfl, unpk_nrm m _ x n, rfl⟩
 | sl e t => exact ⟨rfl, rfl, rfl⟩
structure Started (w : World) (g : Env) (vs : List Value) (s : List (Nat × SV) × List Ob) : Prop where
 enc : s.1.map (fun p => encS g p.2) = vs
 keys : s.1.map (·.1) = List.range s.1.length
 ok : ∀ p ∈ s.1, nrmS p.2 = true
 rs : ∀ p ∈ s.1, ∀ o ∈ refS p.2, o < s.2.length
 ob : ∀ i ob, s.2[i]? = some ob → obP g i ob ∧ ∃ e u xs, ob = .row e u xs .lent false ∧ ∀ f ∈ (⟨(g i).v, xs.length, u.sz, (g i).cs⟩ :: (g i).fs : List Fact), Rds f.v f.n f.sz f.cs w
theorem start_go {w : World} : ∀ (ds : List Dyn) (vs : List Value) (i : Nat) (s : List (Nat × SV) × List Ob) (us : List Value) (g : Env), Args w ds vs → Started w g us s → i = s.1.length →
 ∃ g', Started w g' (us ++ vs) (startGo ds i s)
 | [], [], i, s, us, g, .nil, h, hi => ⟨g, by simpa [startGo] using h⟩
 | d :: ds, v :: vs, i, s, us, g, .cons hd hds, h, hi => by
   obtain ⟨F, hrep, hfa⟩ := hd.rep
   obtain ⟨g1, e1, e2, e3, e4, e5⟩ := unpk_spec .lent (by decide) d.1 d.2 s.2.length g _ F hrep
   obtain ⟨s1, s2, s3⟩ := slot_enc d.1 d.2 .lent s.2.length g1
   have hsl : ∀ o ∈ refS (slotOf d.1 (unpk .lent d.1 d.2 s.2.length).1), o < (s.2 ++ (unpk .lent d.1 d.2 s.2.length).2).length := by
    rw [s3]
    intro o ho
    have := (e4 o ho).2
    rw [List.length_append]; exact this
   have := start_go ds vs (i + 1) (s.1 ++ [(i, slotOf d.1 (unpk .lent d.1 d.2 s.2.length).1)], s.2 ++ (unpk .lent d.1 d.2 s.2.length).2) (us ++ [v]) g1 hds ?_ (by simp [hi])
   ·obtain ⟨g', h'⟩ := this
    exact ⟨g', by simpa [startGo] using h'⟩
   ·refine ⟨?_, ?_, ?_, ?_, ?_⟩
    ·simp only [List.map_append, List.map_cons, List.map_nil]
     congr 1
     ·rw [← h.enc]
      apply List.map_congr_left
      intro p hp
      exact encS_ext _ (fun o ho => e1 o (.inl (h.rs p hp o ho)))
     ·rw [s1, e2, ← hd.val]
    ·simp only [List.map_append, List.map_cons, List.map_nil, List.length_append, List.length_singleton, List.range_succ, h.keys, hi]
    ·intro p hp
     rcases List.mem_append.1 hp with hp | hp
     ·exact h.ok p hp
     ·simp only [List.mem_singleton] at hp; subst hp; exact s2
    ·intro p hp o ho
     rcases List.mem_append.1 hp with hp | hp
     ·have := h.rs p hp o ho
      simp only [List.length_append]; omega
     ·simp only [List.mem_singleton] at hp; subst hp; exact hsl o ho
    ·intro j ob hj
     rcases Nat.lt_or_ge j s.2.length with hlt | hge
     ·simp only at hj
      rw [List.getElem?_append_left hlt] at hj
      have := h.ob j ob hj
      have hg : g1 j = g j := e1 j (.inl hlt)
      obtain ⟨a1, e, u, xs, rfl, a2⟩ := this
      exact ⟨obP_ext hg a1, e, u, xs, rfl, by rw [hg]; exact a2⟩
     ·simp only at hj
      rw [List.getElem?_append_right hge] at hj
      obtain ⟨p1, e, u, xs, he, hf⟩ := e5 _ ob hj
      have hn : s.2.length + (j - s.2.length) = j := by omega
      rw [hn] at p1 hf
      exact ⟨p1, e, u, xs, he, fun f hf' => hfa f (hf f hf')⟩
end Go.Proofs.YtlepjakmadlkjaaGreatDoor
namespace Go.Proofs.YtlepjakmadlkjaaGreatDoor
open Go Go.WideShapes Go.ChangeShapes
def isK (k : IntKind) : Value → Bool
 | .int k' _ => k' == k
 | _ => false
def noK (k : IntKind) : Ty → Bool
 | .int k' => !(k' == k)
 | .arr _ t => noK k t
 | .pair a b => noK k a && noK k b
 | .sl _ t => noK k t
 | _ => true
theorem flat_clean (k : IntKind) : ∀ (u : Ty) (x : u.den), noK k u = true → ∀ c ∈ (flatT u).cells x, isK k c = false
 | .int k', x, h, c, hc => by
   have : c = .int k' x := by simpa [flatT, FK] using hc
   subst this
   simpa [noK, isK] using h
 | .bool, x, h, c, hc => by
   have : c = .bool x := by simpa [flatT, FB] using hc
   subst this; rfl
 | .str, x, h, c, hc => by
   have : c = .string x := by simpa [flatT, FS] using hc
   subst this; rfl
 | .unit, x, h, c, hc => by simp [flatT, FU] at hc
 | .arr n t, x, h, c, hc => by
   simp only [flatT, FA] at hc
   obtain ⟨y, _, hy⟩ := List.mem_flatMap.1 hc
   exact flat_clean k t y h c hy
 | .pair a b, x, h, c, hc => by
   simp only [noK, Bool.and_eq_true] at h
   simp only [flatT, FP] at hc
   rcases List.mem_append.1 hc with hc | hc
   ·exact flat_clean k a x.1 h.1 c hc
   ·exact flat_clean k b x.2 h.2 c hc
 | .sl _ t, x, h, c, hc => by
   have : c = .nilFunc := by simpa [flatT, FL] using hc
   subst this; rfl
theorem repL_clean {k : IntKind} {α : Type} {R : α → List Value → List Fact → Prop} (h : ∀ x cs F, R x cs F → (∀ c ∈ cs, isK k c = false) ∧ ∀ f ∈ F, ∀ c ∈ f.cs, isK k c = false) :
 ∀ (xs : List α) (cs : List Value) (F : List Fact), RepL R xs cs F → (∀ c ∈ cs, isK k c = false) ∧ ∀ f ∈ F, ∀ c ∈ f.cs, isK k c = false
 | [], cs, F, ⟨h1, h2⟩ => by subst h1 h2; exact ⟨fun c hc => (by cases hc), fun f hf => (by cases hf)⟩
 | x :: xs, cs, F, ⟨c1, c2, F1, F2, h1, h2, h3, h4⟩ => by
   subst h1 h2
   obtain ⟨a1, a2⟩ := h x c1 F1 h3
   obtain ⟨b1, b2⟩ := repL_clean h xs c2 F2 h4
   exact ⟨fun c hc => (List.mem_append.1 hc).elim (a1 c) (b1 c), fun f hf => (List.mem_append.1 hf).elim (a2 f) (b2 f)⟩
theorem rep_clean (k : IntKind) : ∀ (u : Ty) (x : u.den) (cs : List Value) (F : List Fact), noK k u = true → RepP u x cs F → (∀ c ∈ cs, isK k c = false) ∧ ∀ f ∈ F, ∀ c ∈ f.cs, isK k c = false
 | .sl e t, x, cs, F, h, ⟨v, css, F', h1, ⟨ao, c, h2, _⟩, h3, h4⟩ => by
   obtain ⟨a1, a2⟩ := repL_clean (k := k) (R := RepP t) (fun x cs F hr => rep_clean k t x cs F h hr) x css F' h4
   subst h1 h3 h2
   refine ⟨fun c' hc => ?_, fun f hf => ?_⟩
   ·simp only [List.mem_singleton] at hc; subst hc; rfl
   ·rcases List.mem_cons.1 hf with rfl | hf
    ·exact a1
    ·exact a2 f hf
 | .pair a b, x, cs, F, h, ⟨c1, c2, F1, F2, h1, h2, h3, h4⟩ => by
   simp only [noK, Bool.and_eq_true] at h
   obtain ⟨a1, a2⟩ := rep_clean k a x.1 c1 F1 h.1 h3
   obtain ⟨b1, b2⟩ := rep_clean k b x.2 c2 F2 h.2 h4
   subst h1 h2
   exact ⟨fun c hc => (List.mem_append.1 hc).elim (a1 c) (b1 c), fun f hf => (List.mem_append.1 hf).elim (a2 f) (b2 f)⟩
 | .int k', x, cs, F, h, hr => by
   obtain ⟨h1, h2⟩ : cs = (flatT (.int k')).cells x ∧ F = [] := hr
   subst h1 h2; exact ⟨flat_clean k _ x h, fun f hf => (by cases hf)⟩
 | .bool, x, cs, F, h, hr => by
   obtain ⟨h1, h2⟩ : cs = (flatT .bool).cells x ∧ F = [] := hr
   subst h1 h2; exact ⟨flat_clean k _ x h, fun f hf => (by cases hf)⟩
 | .str, x, cs, F, h, hr => by
   obtain ⟨h1, h2⟩ : cs = (flatT .str).cells x ∧ F = [] := hr
   subst h1 h2; exact ⟨flat_clean k _ x h, fun f hf => (by cases hf)⟩
 | .unit, x, cs, F, h, hr => by
   obtain ⟨h1, h2⟩ : cs = (flatT .unit).cells x ∧ F = [] := hr
   subst h1 h2; exact ⟨flat_clean k _ x h, fun f hf => (by cases hf)⟩
 | .arr n t, x, cs, F, h, hr => by
   obtain ⟨h1, h2⟩ : cs = (flatT (.arr n t)).cells x ∧ F = [] := hr
   subst h1 h2; exact ⟨flat_clean k _ x h, fun f hf => (by cases hf)⟩
structure Glob where
 b : Nat
 T : TypeId
 n : Nat
 k : IntKind
 x : Vector Int n
def Glob.at (gl : Glob) : At := .fl (.arr gl.n (.int gl.k)) gl.x
def Glob.cs (gl : Glob) : List Value := (flatT (.arr gl.n (.int gl.k))).cells gl.x
def Glob.ok (gl : Glob) (w : World) : Prop := w.heap[gl.b]? = some (.cells gl.cs.toArray gl.T (0, 0))
theorem Glob.kind (gl : Glob) : ∀ c ∈ gl.cs, isK gl.k c = true := by
 intro c hc
 simp only [Glob.cs, flatT, FA] at hc
 obtain ⟨y, _, hy⟩ := List.mem_flatMap.1 hc
 have : c = .int gl.k y := by simpa [FK] using hy
 subst this
 simp [isK]
theorem glob_apart {gl : Glob} {w : World} (h : gl.ok w) {v : Value} {n sz : Nat} {cs : List Value} (hr : Rds v n sz cs w) (hc : ∀ c ∈ cs, isK gl.k c = false) (hne : cs ≠ []) : addrOf v ≠ some gl.b := by
 obtain ⟨_, ao, c, rfl, _, _, _, hcell⟩ := hr
 obtain ⟨u, us, rfl⟩ := List.exists_cons_of_ne_nil hne
 obtain ⟨ad, rfl, hu⟩ := hcell 0 u rfl
 intro e
 simp only [addrOf, Option.some.injEq] at e
 have hblk : (ad.add 0).block = gl.b := by rw [add_block]; exact e
 unfold World.cell? at hu
 unfold Glob.ok at h
 rw [hblk, h] at hu
 simp only at hu
 split at hu
 ·cases hu
 ·have hm : u ∈ gl.cs := by
   rw [List.getElem?_toArray] at hu
   exact List.mem_of_getElem? hu
  have h1 := gl.kind u hm
  rw [hc u (List.mem_cons_self ..)] at h1
  cases h1
def globGo : List Glob → List (Nat × SV) × List Ob → List (Nat × SV) × List Ob
 | [], s => s
 | gl :: gs, s => globGo gs (s.1 ++ [(rG + gl.b, .v (.a (.ptr s.2.length 0)))], s.2 ++ [.box gl.T [gl.at]])
def startG (ds : List Dyn) (gs : List Glob) : St := ⟨(globGo gs (startGo ds 0 ([], []))).1, (globGo gs (startGo ds 0 ([], []))).2, [], .nil⟩
theorem globGo_eq : ∀ (gs : List Glob) (s : List (Nat × SV) × List Ob), globGo gs s = (s.1 ++ gs.zipIdx.map (fun p => (rG + p.1.b, .v (.a (.ptr (s.2.length + p.2) 0)))), s.2 ++ gs.map fun gl => .box gl.T [gl.at])
 | [], s => by simp [globGo]
 | gl :: gs, s => by
   rw [globGo, globGo_eq gs]
   simp only [List.length_append, List.length_singleton, List.append_assoc, List.cons_append, List.nil_append, List.map_cons, List.zipIdx_cons, Prod.mk.injEq, Nat.add_zero]
   refine ⟨?_, trivial⟩
   congr 2
   rw [Nat.zero_add, List.zipIdx_succ]
   simp only [List.map_map]
   apply List.map_congr_left
   intro p _
   simp only [Function.comp_apply, Prod.mk.injEq, SV.v.injEq, V1.a.injEq, At.ptr.injEq, and_true, true_and]
   omega
theorem start_goQ {w : World} {ds : List Dyn} {vs : List Value} (h : Args w ds vs) : ∃ g, Started w g vs (startGo ds 0 ([], [])) := by
 obtain ⟨g, hs⟩ := start_go ds vs 0 ([], []) [] env0 h ⟨rfl, rfl, (fun p hp => by cases hp), (fun p hp => by cases hp), (fun i ob hi => by simp at hi)⟩ rfl
 exact ⟨g, by simpa using hs⟩
theorem start_len : ∀ (ds : List Dyn) (i : Nat) (s : List (Nat × SV) × List Ob), (startGo ds i s).1.length = s.1.length + ds.length
 | [], i, s => by simp [startGo]
 | d :: ds, i, s => by rw [startGo, start_len ds]; simp; omega
theorem started_clean {k : IntKind} : ∀ (ds : List Dyn) (i : Nat) (s : List (Nat × SV) × List Ob), (∀ d ∈ ds, noK k d.1 = true) → (∀ ob ∈ s.2, ∃ e u xs, ob = .row e u xs .lent false ∧ noK k u = true) →
 ∀ ob ∈ (startGo ds i s).2, ∃ e u xs, ob = .row e u xs .lent false ∧ noK k u = true
 | [], i, s, _, h => h
 | d :: ds, i, s, hd, h => by
   refine started_clean ds (i + 1) _ (fun d' hd' => hd d' (List.mem_cons_of_mem _ hd')) (fun ob hob => ?_)
   rcases List.mem_append.1 hob with hob | hob
   ·exact h ob hob
   ·have hk := hd d (List.mem_cons_self ..)
    revert hob
    generalize s.2.length = n
    obtain ⟨u, x⟩ := d
    have key : ∀ (u : Ty) (x : u.den) (n : Nat), noK k u = true → ob ∈ (unpk .lent u x n).2 → ∃ e t xs, ob = .row e t xs .lent false ∧ noK k t = true := by
     intro u
     induction u with
     | pair a b iha ihb =>
       intro x n hk hob
       simp only [noK, Bool.and_eq_true] at hk
       simp only [unpk] at hob
       rcases List.mem_append.1 hob with hob | hob
       ·exact iha _ _ hk.1 hob
       ·exact ihb _ _ hk.2 hob
     | sl e t _ =>
       intro x n hk hob
       simp only [unpk, List.mem_singleton] at hob
       exact ⟨e, t, x, hob, hk⟩
     | int k' => intro x n hk hob; simp [unpk] at hob
     | bool => intro x n hk hob; simp [unpk] at hob
     | str => intro x n hk hob; simp [unpk] at hob
     | unit => intro x n hk hob; simp [unpk] at hob
     | arr m t _ => intro x n hk hob; simp [unpk] at hob
    exact key u x n hk
def envG (g0 : Env) (n : Nat) (gs : List Glob) : Env := fun i => if i < n then g0 i else match gs[i - n]? with
 | some gl => ⟨.nilFunc, rfl, (gl.b, fun _ => 0), [], [], []⟩
 | none => g0 i
theorem start_okG {w : World} {ds : List Dyn} {vs : List Value} {gs : List Glob} (h : Args w ds vs) (hg : ∀ gl ∈ gs, gl.ok w) (hn : (gs.map (·.b)).Nodup) (hk : ∀ gl ∈ gs, ∀ d ∈ ds, noK gl.k d.1 = true) :
 ∃ g, ((startG ds gs).slots.take ds.length).map (fun p => encS g p.2) = vs ∧ (startG ds gs).slots.map (·.1) = List.range ds.length ++ (gs.map (·.b)).map (rG + ·) ∧ (∀ p ∈ (startG ds gs).slots.drop ds.length, encS g p.2 = .pointer (some ⟨p.1 - rG, 0, none⟩)) ∧
  Cal g (startG ds gs) ∧ Cx g (startG ds gs) w (fun b => b ∈ gs.map (·.b)) (fun _ => True) w ∧
  (∀ b ∈ gs.map (·.b), ∃ i gl, i < (startG ds gs).obs.length ∧ gl ∈ gs ∧ gl.b = b ∧ (startG ds gs).ob i = .box gl.T [gl.at] ∧ (g i).b = b) := by
 obtain ⟨g0, hs⟩ := start_goQ h
 obtain ⟨s, hse⟩ : ∃ s, s = startGo ds 0 ([], []) := ⟨_, rfl⟩
 rw [← hse] at hs
 have hl1 : s.1.length = ds.length := by rw [hse, start_len]; simp
 have eS : startG ds gs = ⟨s.1 ++ gs.zipIdx.map (fun p => (rG + p.1.b, .v (.a (.ptr (s.2.length + p.2) 0)))), s.2 ++ gs.map (fun gl => .box gl.T [gl.at]), [], .nil⟩ := by
  unfold startG; rw [← hse, globGo_eq]
 rw [eS]
 obtain ⟨g, hge⟩ : ∃ g : Env, g = envG g0 s.2.length gs := ⟨_, rfl⟩
 have glt : ∀ i, i < s.2.length → g i = g0 i := fun i hi => by rw [hge]; simp [envG, hi]
 have gge : ∀ j gl, gs[j]? = some gl → (g (s.2.length + j)).b = gl.b := fun j gl hj => by
  rw [hge]; unfold envG; rw [if_neg (by omega), Nat.add_sub_cancel_left, hj]
 have obs : ∀ i, (⟨s.1 ++ gs.zipIdx.map (fun p => (rG + p.1.b, .v (.a (.ptr (s.2.length + p.2) 0)))), s.2 ++ gs.map (fun gl => .box gl.T [gl.at]), [], .nil⟩ : St).ob i =
  if i < s.2.length then s.2.getD i .gone else ((gs[i - s.2.length]?).map fun gl => Ob.box gl.T [gl.at]).getD .gone := by
  intro i
  simp only [St.ob, List.getD_eq_getElem?_getD]
  split
  ·rename_i hi; rw [List.getElem?_append_left hi]
  ·rename_i hi; rw [List.getElem?_append_right (by omega), List.getElem?_map]
 have low : ∀ i, i < s.2.length → ∃ e u xs, s.2.getD i .gone = .row e u xs .lent false ∧ obP g i (.row e u xs .lent false) ∧ ∀ f ∈ (⟨(g i).v, xs.length, u.sz, (g i).cs⟩ :: (g i).fs : List Fact), Rds f.v f.n f.sz f.cs w := by
  intro i hi
  obtain ⟨ob, hob⟩ : ∃ ob, s.2[i]? = some ob := ⟨s.2[i], List.getElem?_eq_getElem hi⟩
  obtain ⟨h1, e, u, xs, rfl, h2⟩ := hs.ob i ob hob
  refine ⟨e, u, xs, by rw [List.getD_eq_getElem?_getD, hob]; rfl, obP_ext (glt i hi) h1, ?_⟩
  rw [glt i hi]; exact h2
 have boxes : ∀ i ob, ¬ i < s.2.length → ((gs[i - s.2.length]?).map fun gl => Ob.box gl.T [gl.at]).getD .gone = ob → ob = .gone ∨ ∃ gl, gs[i - s.2.length]? = some gl ∧ ob = .box gl.T [gl.at] := by
  intro i ob _ h
  cases hgl : gs[i - s.2.length]? with
  | none => rw [hgl] at h; exact .inl h.symm
  | some gl => rw [hgl] at h; exact .inr ⟨gl, rfl, h.symm⟩
 have entB : ∀ i gl, ¬ i < s.2.length → gs[i - s.2.length]? = some gl → entL g i (.box gl.T [gl.at]) = boxE false gl.b gl.T gl.cs := by
  intro i gl hi hgl
  have hb := gge (i - s.2.length) gl hgl
  rw [show s.2.length + (i - s.2.length) = i by omega] at hb
  simp only [entL, boxT, hb, encL, List.flatMap_cons, List.flatMap_nil, List.append_nil]
  rfl
 refine ⟨g, ?_, ?_, ?_, ⟨fun i => ?_, fun p hp => ?_, fun p hp o ho => ?_, fun i T ls hi => ?_⟩, ⟨Fr.refl _ _, fun i => ?_, fun i => ?_, fun i b hb => ?_, fun i j hij b hb hb2 => ?_, fun i j b hb hb2 => ?_, fun i _ b _ => .inl trivial⟩, ?_⟩
 ·simp only
  rw [List.take_left' hl1, ← hs.enc]
  apply List.map_congr_left
  intro p hp
  exact encS_ext _ (fun o ho => glt o (hs.rs p hp o ho))
 ·simp only [List.map_append, hs.keys, hl1, List.map_map]
  congr 1
  apply List.ext_getElem?
  intro i
  simp only [List.getElem?_map, List.getElem?_zipIdx]
  cases gs[i]? <;> rfl
 ·simp only
  rw [List.drop_left' hl1]
  intro p hp
  obtain ⟨⟨gl, j⟩, hq, rfl⟩ := List.mem_map.1 hp
  have hj := List.mem_zipIdx_iff_getElem?.1 hq
  have := gge j gl hj
  have e : rG + gl.b - rG = gl.b := by generalize rG = r; omega
  simp only [encS, encV, val1, this, e]
 ·rw [obs]
  split
  ·rename_i hi
   obtain ⟨e, u, xs, h1, h2, _⟩ := low i hi
   rw [h1]; exact h2
  ·rename_i hi
   rcases boxes i _ hi rfl with h | ⟨gl, _, h⟩
   ·rw [h]; trivial
   ·rw [h]; rfl
 ·rcases List.mem_append.1 hp with hp | hp
  ·exact hs.ok p hp
  ·obtain ⟨⟨gl, j⟩, hq, rfl⟩ := List.mem_map.1 hp
   rfl
 ·simp only [List.length_append, List.length_map]
  rcases List.mem_append.1 hp with hp | hp
  ·have := hs.rs p hp o ho; omega
  ·obtain ⟨⟨gl, j⟩, hq, rfl⟩ := List.mem_map.1 hp
   have hj := List.mem_zipIdx_iff_getElem?.1 hq
   have hlt := (List.getElem?_eq_some_iff.1 hj).1
   simp only [refS, refV, refA, List.mem_singleton] at ho
   subst ho
   simp only at hlt ⊢
   omega
 ·rw [obs] at hi
  split at hi
  ·rename_i hlt
   obtain ⟨e, u, xs, h1, _⟩ := low i hlt
   rw [h1] at hi; cases hi
  ·rename_i hlt
   rcases boxes i _ hlt hi with h | ⟨gl, _, h⟩
   ·cases h
   ·simp only [Ob.box.injEq] at h
    obtain ⟨rfl, rfl⟩ := h
    intro o ho
    simp [refA, Glob.at] at ho
 ·simp only [obs]
  split
  ·rename_i hi
   obtain ⟨e, u, xs, h1, _⟩ := low i hi
   rw [h1]; trivial
  ·rename_i hi
   rcases boxes i _ hi rfl with h | ⟨gl, hgl, h⟩
   ·rw [h]; trivial
   ·rw [h, entB i gl hi hgl]
    exact hg gl (List.mem_of_getElem? hgl)
 ·simp only [obs]
  split
  ·rename_i hi
   obtain ⟨e, u, xs, h1, _, h2⟩ := low i hi
   rw [h1]; exact h2
  ·rename_i hi
   rcases boxes i _ hi rfl with h | ⟨gl, hgl, h⟩
   ·rw [h]; trivial
   ·rw [h]; trivial
 ·simp only [obs] at hb
  split at hb
  ·rename_i hi
   obtain ⟨e, u, xs, h1, _⟩ := low i hi
   rw [h1] at hb; exact hb.elim
  ·rename_i hi
   rcases boxes i _ hi rfl with h | ⟨gl, hgl, h⟩
   ·rw [h] at hb; exact hb.elim
   ·rw [h, entB i gl hi hgl] at hb
    have hb : b = gl.b := hb
    exact .inl (by rw [hb]; exact List.mem_map.2 ⟨gl, List.mem_of_getElem? hgl, rfl⟩)
 ·have dom : ∀ i, (entL g i ((⟨s.1 ++ gs.zipIdx.map (fun p => (rG + p.1.b, .v (.a (.ptr (s.2.length + p.2) 0)))), s.2 ++ gs.map (fun gl => .box gl.T [gl.at]), [], .nil⟩ : St).ob i)).dom b → ¬ i < s.2.length ∧ (gs[i - s.2.length]?).map (·.b) = some b := by
   intro i hb
   rw [obs] at hb
   split at hb
   ·rename_i hi
    obtain ⟨e, u, xs, h1, _⟩ := low i hi
    rw [h1] at hb; exact hb.elim
   ·rename_i hi
    rcases boxes i _ hi rfl with h | ⟨gl, hgl, h⟩
    ·rw [h] at hb; exact hb.elim
    ·rw [h, entB i gl hi hgl] at hb
     have hb : b = gl.b := hb
     exact ⟨hi, by rw [hgl, hb]; rfl⟩
  obtain ⟨h1, h2⟩ := dom i hb
  obtain ⟨h3, h4⟩ := dom j hb2
  rw [← List.getElem?_map] at h2 h4
  have hlt : i - s.2.length < (gs.map (·.b)).length := (List.getElem?_eq_some_iff.1 h2).1
  have := (List.getElem?_inj hlt hn).1 (h2.trans h4.symm)
  omega
 ·simp only [obs] at hb hb2
  split at hb
  ·rename_i hi
   obtain ⟨e, u, xs, h1, _⟩ := low i hi
   rw [h1] at hb; exact hb.elim
  ·rename_i hi
   rcases boxes i _ hi rfl with h | ⟨gl, hgl, h⟩
   ·rw [h] at hb; exact hb.elim
   ·rw [h, entB i gl hi hgl] at hb
    have hb : b = gl.b := hb
    have hgm := List.mem_of_getElem? hgl
    split at hb2
    ·rename_i hj
     obtain ⟨e, u, xs, h1, hobp, h2⟩ := low j hj
     rw [h1] at hb2
     obtain ⟨f, hf, hne, had⟩ := hb2
     have hin : Ob.row e u xs .lent false ∈ s.2 := by
      rw [← h1, List.getD_eq_getElem?_getD, List.getElem?_eq_getElem hj]
      exact List.getElem_mem hj
     have hku : noK gl.k u = true := by
      have := started_clean (k := gl.k) ds 0 ([], []) (hk gl hgm) (fun ob hob => (by cases hob)) (.row e u xs .lent false) (by rw [← hse]; exact hin)
      obtain ⟨e', u', xs', h5, h6⟩ := this
      cases h5
      exact h6
     have hrep : RepL (RepP u) xs (g j).cs (g j).fs := hobp.1
     obtain ⟨c1, c2⟩ := repL_clean (k := gl.k) (R := RepP u) (fun x cs F hr => rep_clean gl.k u x cs F hku hr) _ _ _ hrep
     have hcl : ∀ c ∈ f.cs, isK gl.k c = false := by
      rcases List.mem_cons.1 hf with rfl | hf'
      ·exact c1
      ·exact c2 f hf'
     exact glob_apart (hg gl hgm) (h2 f hf) hcl hne (by rw [had, hb])
    ·rename_i hj
     rcases boxes j _ hj rfl with h5 | ⟨gl', _, h5⟩
     ·rw [h5] at hb2; exact hb2.elim
     ·rw [h5] at hb2; exact hb2.elim
 ·intro b hb
  obtain ⟨gl, hgm, rfl⟩ := List.mem_map.1 hb
  obtain ⟨j, hj⟩ := List.getElem?_of_mem hgm
  have hlt := (List.getElem?_eq_some_iff.1 hj).1
  refine ⟨s.2.length + j, gl, by simp [List.length_append]; omega, hgm, rfl, ?_, gge j gl hj⟩
  rw [obs, if_neg (by omega), show s.2.length + j - s.2.length = j by omega, hj]
  rfl
theorem law_doneG {P : Program} {w : World} {f : Nat} {c : Con} {ds : List Dyn} {vs : List Value} {gs : List Glob} {k : Nat} {x : HL c.pat.codes} (hc : ConOk P c) (hfn : c.fn = f) (h : Args w ds vs) (hg : ∀ gl ∈ gs, gl.ok w) (hn : (gs.map (·.b)).Nodup) (hk : ∀ gl ∈ gs, ∀ d ∈ ds, noK gl.k d.1 = true)
 (hsh : ∀ b ∈ gs.map (·.b), b < shift) {y : DenL (c.out.map NSh.codes)}
 (hy : c.f k x = some y) (hp : patSt c.pat x = some (startG ds gs)) (hout : c.out = [⟨[(rB, .v (.a (.fl .bool)))], [], []⟩]) (hel : ∀ (R : Type) (q : Nat → List Dyn → R), elimL (c.out.map NSh.codes) y q = q 0 [⟨.bool, true⟩]) :
 Calls P f vs.toArray w (fun e w' => ∃ v, e = .returned v ∧ v = .bool true ∧ Fr nob w w') := by
 obtain ⟨g, h1, h2, h2b, h3, h4, h5⟩ := start_okG h hg hn hk
 have key := hc k x y (startG ds gs) ds.length (gs.map (·.b)) hy hp h2 hsh g w _ (fun _ => True) h3 h4 h2b
 rw [h1, hfn] at key
 refine Calls.mono key ?_
 rintro e w' ⟨v, rfl, i, es, s, N, r, g', q1, q2, q3, q4, q5, q6, q7, q8, q9, q10⟩
 have e0 := q1 (Nat × List Dyn) (fun i ds => (i, ds))
 rw [hel] at e0
 simp only [Prod.mk.injEq] at e0
 obtain ⟨rfl, rfl⟩ := e0
 rw [hout] at q2
 simp only [List.getElem?_cons_zero, Option.some.injEq] at q2
 subst q2
 have q3' : fiN ⟨[(rB, .v (.a (.fl .bool)))], [], []⟩ [⟨.bool, true⟩] = some N := q3
 have hN : fiN ⟨[(rB, .v (.a (.fl .bool)))], [], []⟩ [⟨.bool, true⟩] = some ⟨[(rB, .v (.a (.fl .bool true)))], [], []⟩ := by rfl
 rw [hN] at q3'
 cases q3'
 simp only [Go.Proofs.YtlepjakmadlkjaaGreatDoor.results, Option.some.injEq] at q4
 subst q4
 refine ⟨_, rfl, q5, ?_⟩
 have fr := q9.fr
 refine ⟨fr.os, fr.tape, fr.output, fr.size, fun b hb _ => ?_⟩
 by_cases hbg : b ∈ gs.map (·.b)
 ·obtain ⟨i, gl, hi, hgm, hglb, hob, hgb⟩ := h5 b hbg
  obtain ⟨k1, k2⟩ := q10.same i hi (fun hx => by cases hx)
  have hok := q9.okL i
  have k1' : (afterS (startG ds gs) ⟨[(rB, .v (.a (.fl .bool true)))], [], []⟩).ob i = .box gl.T [gl.at] := (k1.trans hob)
  simp only [k1', entL, boxT, k2, hgb] at hok
  have hok : w'.heap[b]? = some (.cells (encL g' [gl.at]).toArray gl.T (0, 0)) := hok
  have hen : encL g' [gl.at] = gl.cs := by simp [encL, encA, Glob.at, Glob.cs]
  rw [hok, hen, ← hglb]
  exact (hg gl hgm).symm
 ·exact fr.block b hb hbg
theorem allK {gs : List Glob} {ds : List Dyn} (h : ((gs.map (·.k)).all fun k => (ds.map (·.1)).all (noK k)) = true) : ∀ gl ∈ gs, ∀ d ∈ ds, noK gl.k d.1 = true := by
 intro gl hgl d hd
 have h1 := List.all_eq_true.1 h gl.k (List.mem_map.2 ⟨gl, hgl, rfl⟩)
 exact List.all_eq_true.1 h1 d.1 (List.mem_map.2 ⟨d, hd, rfl⟩)
theorem glob_ok {P : Program} {W : World} {gl : Glob} {name : String} (hsh : W.ShapedOpen P) (hg : P.globalNamed name = some gl.b) (hz : (((begin P (fun _ _ => 0) default).world.heap[gl.b]?).bind Obj.row?).map (·.2) = some gl.T)
 (hlt : gl.b < P.globals.size) (htab : Lib.TabIs P W name gl.k gl.x.toList) : gl.ok W := by
 obtain ⟨⟨zero, T⟩, h1, h2⟩ := Option.map_eq_some_iff.1 hz
 simp only at h2
 subst h2
 obtain ⟨cs, h3, _⟩ := hsh.1 gl.b zero _ hlt h1
 unfold Lib.TabIs at htab
 have hvar : W.var? P name = some cs := by
  unfold World.var?
  rw [hg]
  simp only [Option.bind_some, h3]
 rw [hvar] at htab
 have hcs : cs = gl.cs.toArray := by
  rw [Option.some.inj htab]
  congr 1
  simp only [Glob.cs, flatT, FA, arL_eq, FK]
  induction gl.x.toList with
  | nil => rfl
  | cons a l ih => simp [ih]
 unfold Glob.ok
 rw [h3, hcs]
section
variable {H : Type} {enc : TypeId × Value → H}
theorem returns_shaped {a : Assume} {C : Checked} {os : Os} {f : FuncId} {fn : Func} {s : ChangeSpec} {conds : List PathCond} {apart fresh handsOn again : Bool} {X : World → Array Value → Prop}
 (hX : ∀ (w w' : World) (args : Array Value), w.heap = w'.heap → X w args → X w' args)
 (own : ownKnob C.prog.godebug = none) (started : os.Started) (noInit : C.prog.inits.idxOf? f = none) (hfn : C.prog.funcs[f]? = some fn)
 (witness : ∃ (w : World) (tape : Tape) (i : Input), w.os = os ∧ (w.forCall tape i).Shaped C.prog ∧ i.vars = [] ∧ Input.okWide C.prog (w.forCall tape i) .any w.heap.size f i ∧
  ((s.pre enc C.prog fn conds apart (w.forCall tape i).memory i.args ∧ X (w.forCall tape i).memory i.args) ∧ sizedMet enc C.prog fn (OpenSpec.ofChange s) apart (w.forCall tape i).memory i.args) ∧ a.holds C.prog (lone (Frame.enter C.prog f i.args .normal) [] (w.forCall tape i)))
 (contract : ∀ (W : World) (base : Nat) (args : Array Value) (ds gs : List (DataW H)) (before : List MemPlace),
  (∀ (j : Nat) t v, fn.params[j]? = some t → args[j]? = some v → Value.okWide C.prog W .any base t v) →
  DataW.Whole enc C.prog fn.params.toList s.vars apart W args.toList ds gs before → X W args → W.ShapedOpen C.prog →
  Calls C.prog f args W fun e W' => ∃ v, e = .returned v ∧ s.post enc C.prog fn apart fresh handsOn again W args v W') :
 ReturnsInHanded a C os f .any (fun w args => (s.pre enc C.prog fn conds apart w args ∧ X w args) ∧ sizedMet enc C.prog fn (OpenSpec.ofChange s) apart w args) (s.post enc C.prog fn apart fresh handsOn again) := by
 refine returnsInHanded_of_calls own started noInit witness ?_
 intro w tape i _ hshape _ hok hpre hholds
 obtain ⟨_, _, _, fn', hfn', _, _, _, _, hval⟩ := hok
 have e : fn' = fn := Option.some.inj (hfn'.symm.trans hfn)
 subst e
 obtain ⟨⟨⟨ds, gs, before, hw, hc⟩, hx⟩, hz⟩ := hpre
 have hw' := DataW.Whole.of_heap (w' := w.forCall tape i) (by rfl) hw
 refine (contract (w.forCall tape i) w.heap.size i.args ds gs before hval hw' (hX _ _ _ (by rfl) hx) hshape).mono fun e W' ⟨v, he, hp⟩ => ?_
 subst he
 exact ChangeSpec.post_blind hp
end
end Go.Proofs.YtlepjakmadlkjaaGreatDoor
namespace Go.Proofs.YtlepjakmadlkjaaGreatDoor
open Go
def vgl_sha_keys : Vector Int 64 := ⟨#[1116352408, 1899447441, 3049323471, 3921009573, 961987163, 1508970993, 2453635748, 2870763221, 3624381080, 310598401, 607225278, 1426881987, 1925078388, 2162078206, 2614888103, 3248222580, 3835390401, 4022224774, 264347078, 604807628, 770255983, 1249150122, 1555081692, 1996064986, 2554220882, 2821834349, 2952996808, 3210313671, 3336571891, 3584528711, 113926993, 338241895, 666307205, 773529912, 1294757372, 1396182291, 1695183700, 1986661051, 2177026350, 2456956037, 2730485921, 2820302411, 3259730800, 3345764771, 3516065817, 3600352804, 4094571909, 275423344, 430227734, 506948616, 659060556, 883997877, 958139571, 1322822218, 1537002063, 1747873779, 1955562222, 2024104815, 2227730452, 2361852424, 2428436474, 2756734187, 3204031479, 3329325298], rfl⟩
def gl_sha_keys : Glob := ⟨0, 217, 64, .u32, vgl_sha_keys⟩
theorem wk_i64 {x : Int} (h1 : -9223372036854775808 ≤ x) (h2 : x ≤ 9223372036854775807) : WK .i64 x = x := wrap_i64 h1 h2
theorem wk_u64 {x : Int} (h1 : 0 ≤ x) (h2 : x ≤ 18446744073709551615) : WK .u64 x = x := by
 simp only [WK, IntKind.wrap, IntKind.bits, IntKind.signed]; simp; omega
theorem wk_u8 {x : Int} (h1 : 0 ≤ x) (h2 : x ≤ 255) : WK .u8 x = x := by
 simp only [WK, IntKind.wrap, IntKind.bits, IntKind.signed]; simp; omega
theorem wk_u8_mod (x : Int) : WK .u8 x = x % 256 := by
 simp only [WK, IntKind.wrap, IntKind.bits, IntKind.signed]; simp
theorem wk_u32_mod (x : Int) : WK .u32 x = x % 4294967296 := by
 simp only [WK, IntKind.wrap, IntKind.bits, IntKind.signed]; simp
@[simp] theorem condO_true {α : Type} (x y : Option α) : condO true x y = x := rfl
@[simp] theorem condO_false {α : Type} (x y : Option α) : condO false x y = y := rfl
@[simp] theorem caseS_inl {α β R : Type} (a : α) (f : α → R) (g : β → R) : caseS (.inl a) f g = f a := rfl
@[simp] theorem caseS_inr {α β R : Type} (b : β) (f : α → R) (g : β → R) : caseS (.inr b) f g = g b := rfl
theorem bind_of {α β : Type} {o : Option α} {f : α → Option β} {a : α} {r : Option β} (h : o = some a) (hf : f a = r) : o.bind f = r := by rw [h]; exact hf
theorem ieq_f {a b : Int} (h : a ≠ b) : ieq a b = false := by simpa using h
theorem ieq_t {a b : Int} (h : a = b) : ieq a b = true := by simpa using h
theorem ine_f {a b : Int} (h : a = b) : ine a b = false := by simpa using h
theorem ine_t {a b : Int} (h : a ≠ b) : ine a b = true := by simpa using h
theorem ilt_t {a b : Int} (h : a < b) : ilt a b = true := by simpa using h
theorem ilt_f {a b : Int} (h : b ≤ a) : ilt a b = false := by simpa using h
theorem ile_t {a b : Int} (h : a ≤ b) : ile a b = true := by simpa using h
theorem ile_f {a b : Int} (h : b < a) : ile a b = false := by simpa using h
theorem igt_t {a b : Int} (h : b < a) : igt a b = true := by simpa using h
theorem igt_f {a b : Int} (h : a ≤ b) : igt a b = false := by simpa using h
theorem ige_t {a b : Int} (h : b ≤ a) : ige a b = true := by simpa using h
theorem ige_f {a b : Int} (h : a < b) : ige a b = false := by simpa using h
theorem bytes_ext {a b : ByteArray} (h : a.data.toList = b.data.toList) : a = b := Go.WideShapes.bytes_inj h
@[simp] theorem size_strOfNums (l : List Int) : (strOfNums l).size = l.length := by simp [strOfNums, ByteArray.size]
@[simp] theorem size_app (a b : ByteArray) : (a ++ b).size = a.size + b.size := by simp
@[simp] theorem data_app (a b : ByteArray) : (a ++ b).data.toList = a.data.toList ++ b.data.toList := by simp
theorem at_get {t : Ty} {l : List t.den} {i : Int} (h0 : 0 ≤ i) (h1 : i < l.length) : at_ t l i = l[i.toNat]'(by omega) := by
 unfold at_
 rw [List.getD_eq_getElem?_getD, List.getElem?_eq_getElem (by omega)]
 rfl
theorem at_nat {t : Ty} {l : List t.den} {n : Nat} (h : n < l.length) : at_ t l (n : Int) = l[n] := by
 rw [at_get (by omega) (by omega)]
 congr 1
theorem loopK_inv {H E : Type} {step : H → Option (H ⊕ E)} (I : Nat → H → Prop) (Q : E → Prop)
 (hs : ∀ n h, I n h → (∃ h' m, step h = some (.inl h') ∧ m < n ∧ I m h') ∨ (∃ e, step h = some (.inr e) ∧ Q e)) : ∀ (n : Nat) (h : H), I n h → ∀ k, n < k → ∃ e, loopK k step h = some e ∧ Q e := by
 intro n
 induction n using Nat.strongRecOn with
 | _ n ih =>
   intro h hI k hk
   cases k with
   | zero => omega
   | succ k =>
     rcases hs n h hI with ⟨h', m, h1, h2, h3⟩ | ⟨e, h1, h2⟩
     ·obtain ⟨e, he, hq⟩ := ih m h2 h' h3 k (by omega)
      exact ⟨e, by simp only [loopK, h1, Option.bind_some, caseS_inl]; exact he, hq⟩
     ·exact ⟨e, by simp only [loopK, h1, Option.bind_some, caseS_inr], h2⟩
theorem loopK_run {H E : Type} {step : H → Option (H ⊕ E)} (p : Nat → H) : ∀ (n : Nat) (e : E) (k : Nat), (∀ i < n, step (p i) = some (.inl (p (i + 1)))) → step (p n) = some (.inr e) → n < k → loopK k step (p 0) = some e := by
 intro n
 induction n generalizing p with
 | zero =>
   intro e k _ h2 hk
   cases k with
   | zero => omega
   | succ k => simp only [loopK, h2, Option.bind_some, caseS_inr]
 | succ n ih =>
   intro e k h1 h2 hk
   cases k with
   | zero => omega
   | succ k =>
     simp only [loopK, h1 0 (by omega), Option.bind_some, caseS_inl]
     exact ih (fun i => p (i + 1)) e k (fun i hi => h1 (i + 1) (by omega)) h2 (by omega)
inductive Goes {H E : Type} (I : Nat → H → Prop) (Q : E → Prop) (n : Nat) : Option (H ⊕ E) → Prop
 | on {h' : H} (m : Nat) (lt : m < n) (i : I m h') : Goes I Q n (some (.inl h'))
 | out {e : E} (q : Q e) : Goes I Q n (some (.inr e))
theorem Goes.bind {H E S : Type} {I : Nat → H → Prop} {Q : E → Prop} {n : Nat} {o : Option S} {f : S → Option (H ⊕ E)} (P : S → Prop) (h : ∃ s, o = some s ∧ P s) (hf : ∀ s, P s → Goes I Q n (f s)) : Goes I Q n (o.bind f) := by
 obtain ⟨s, rfl, hp⟩ := h
 exact hf s hp
theorem loop_bind {H E R : Type} {step : H → Option (H ⊕ E)} {f : E → Option R} {r : Option R} {h0 : H} {k : Nat} (I : Nat → H → Prop) (Q : E → Prop) (n : Nat) (hk : n < k) (h : I n h0)
 (hs : ∀ n h, I n h → Goes I Q n (step h)) (hf : ∀ e, Q e → f e = r) : (loopK k step h0).bind f = r := by
 obtain ⟨e, he, hq⟩ := loopK_inv (step := step) I Q (fun n h hi => by
  have g := hs n h hi
  generalize step h = o at g ⊢
  cases g with
  | on m lt i => exact .inl ⟨_, m, rfl, lt, i⟩
  | out q => exact .inr ⟨_, rfl, q⟩) n h0 h k hk
 rw [he]
 exact hf e hq
theorem and_bound (x : Int) (m : Nat) (h : m < 4611686018427387904) : 0 ≤ andK .i64 x m ∧ andK .i64 x m ≤ m := by
 have e : (BitVec.ofInt IntKind.i64.bits x &&& BitVec.ofInt IntKind.i64.bits (m : Int)).toNat ≤ m := by
  rw [BitVec.toNat_and]
  refine Nat.le_trans Nat.and_le_right ?_
  rw [BitVec.toNat_ofInt]
  simp only [IntKind.bits]
  omega
 have w : andK .i64 x m = ((BitVec.ofInt IntKind.i64.bits x &&& BitVec.ofInt IntKind.i64.bits (m : Int)).toNat : Int) := wrap_i64 (by omega) (by omega)
 rw [w]
 omega
theorem foldL_map {α β H : Type} (q : β → α) (f : H → α → Option H) : ∀ (l : List β) (h : H), foldL (l.map q) f h = foldL l (fun h b => f h (q b)) h
 | [], h => rfl
 | b :: l, h => by
   simp only [List.map_cons, foldL]
   cases f h (q b) with
   | none => rfl
   | some y => exact foldL_map q f l y
theorem backL_snd {α : Type} (l : List α) : (backL l).map (·.2) = l.reverse := by
 simp [backL, List.map_reverse, List.map_map, Function.comp_def]
theorem foldL_back {α H : Type} (l : List α) (f : H → α → Option H) (h : H) : foldL (backL l) (fun h p => f h p.2) h = foldL l.reverse f h := by
 rw [← backL_snd, foldL_map]
theorem orK_comm (k : IntKind) (a b : Int) : orK k a b = orK k b a := by unfold orK; rw [BitVec.or_comm]
theorem inr_wk {x n : Int} (h0 : 0 ≤ x) (h1 : x < n) (h2 : n ≤ 1000000) : inR (WK .i64 x) n := by
 rw [wk_i64 (by omega) (by omega)]; exact ⟨h0, h1⟩
def itr {S : Type} (f : Nat → S → S) (s : S) : Nat → S
 | 0 => s
 | n + 1 => f n (itr f s n)
theorem itr_congr {S : Type} {f g : Nat → S → S} (s : S) : ∀ n, (∀ i < n, ∀ s, f i s = g i s) → itr f s n = itr g s n
 | 0, _ => rfl
 | n + 1, h => by
   simp only [itr]
   rw [itr_congr s n (fun i hi => h i (by omega)), h n (by omega)]
theorem itr_add {S : Type} (f : Nat → S → S) (s : S) (a : Nat) : ∀ n, itr f s (a + n) = itr (fun i => f (a + i)) (itr f s a) n
 | 0 => rfl
 | n + 1 => by
   show f (a + n) (itr f s (a + n)) = _
   rw [itr_add f s a n]; rfl
theorem loop_for {S E : Type} {step : (Int × S) → Option ((Int × S) ⊕ E)} (f : Nat → S → S) (g : S → E) (a n k : Nat) (s0 : S)
 (hs : ∀ i < n, ∀ s, step (((a + i : Nat) : Int), s) = some (.inl (((a + i + 1 : Nat) : Int), f i s))) (he : ∀ s, step (((a + n : Nat) : Int), s) = some (.inr (g s))) (hk : n < k) :
 loopK k step ((a : Int), s0) = some (g (itr f s0 n)) :=
 loopK_run (fun i => (((a + i : Nat) : Int), itr f s0 i)) n _ k (fun i hi => hs i hi _) (he _) hk
theorem vAt_get {α : Type} {d : α} {n : Nat} (v : Vector α n) (j : Nat) (h : j < n) : vAt d v (j : Int) = v[j] := by
 unfold vAt
 rw [Int.toNat_natCast]
 simp [Array.getD, h]
theorem vSet_get {α : Type} {n : Nat} (v : Vector α n) (i : Nat) (x : α) (j : Nat) (h : j < n) : (vSet v (i : Int) x)[j] = if i = j then x else v[j] := by
 unfold vSet
 rw [Int.toNat_natCast, Vector.getElem_setIfInBounds]
theorem itr_fill {m : Nat} {f : Nat → Vector Int m → Vector Int m} (F : Nat → Int → Int) (hf : ∀ i < m, ∀ v, f i v = vSet v (i : Int) (F i (vAt 0 v (i : Int)))) (w : Vector Int m) :
 ∀ n, n ≤ m → ∀ j (h : j < m), (itr f w n)[j] = if j < n then F j w[j] else w[j]
 | 0, _, j, h => by simp [itr]
 | n + 1, hn, j, h => by
   have e : itr f w (n + 1) = vSet (itr f w n) (n : Int) (F n (vAt 0 (itr f w n) (n : Int))) := hf n (by omega) _
   rw [show (itr f w (n + 1))[j] = (vSet (itr f w n) (n : Int) (F n (vAt 0 (itr f w n) (n : Int))))[j] by simp only [e]]
   rw [vSet_get, vAt_get _ n (by omega), itr_fill F hf w n (by omega) n (by omega), itr_fill F hf w n (by omega) j h]
   by_cases e : n = j
   ·subst e; simp
   ·by_cases e2 : j < n
    ·rw [if_neg e, if_pos e2, if_pos (by omega)]
    ·rw [if_neg e, if_neg e2, if_neg (by omega)]
abbrev rr (n x : Int) : Int := orK .u32 (shrK .u32 x (WK .u64 n)) (shlK .u32 x (WK .u64 (WK .i64 (32 - n))))
abbrev pr (n x : Int) : Int := orK .u32 (shlK .u32 x (andK .u64 (WK .u64 (WK .i64 (0 - n))) 31)) (shrK .u32 x (WK .u64 (32 - (andK .u64 (WK .u64 (WK .i64 (0 - n))) 31))))
theorem pr_rr {n : Int} (h1 : andK .u64 (WK .u64 (WK .i64 (0 - n))) 31 = WK .u64 (WK .i64 (32 - n))) (h2 : WK .u64 (32 - (WK .u64 (WK .i64 (32 - n)))) = WK .u64 n) (x : Int) : pr n x = rr n x := by
 unfold pr rr
 rw [h1, h2, orK_comm]
theorem pr2 (x : Int) : pr 2 x = rr 2 x := pr_rr (by kernel_rfl) (by kernel_rfl) x
theorem pr6 (x : Int) : pr 6 x = rr 6 x := pr_rr (by kernel_rfl) (by kernel_rfl) x
theorem pr7 (x : Int) : pr 7 x = rr 7 x := pr_rr (by kernel_rfl) (by kernel_rfl) x
theorem pr11 (x : Int) : pr 11 x = rr 11 x := pr_rr (by kernel_rfl) (by kernel_rfl) x
theorem pr13 (x : Int) : pr 13 x = rr 13 x := pr_rr (by kernel_rfl) (by kernel_rfl) x
theorem pr17 (x : Int) : pr 17 x = rr 17 x := pr_rr (by kernel_rfl) (by kernel_rfl) x
theorem pr18 (x : Int) : pr 18 x = rr 18 x := pr_rr (by kernel_rfl) (by kernel_rfl) x
theorem pr19 (x : Int) : pr 19 x = rr 19 x := pr_rr (by kernel_rfl) (by kernel_rfl) x
theorem pr22 (x : Int) : pr 22 x = rr 22 x := pr_rr (by kernel_rfl) (by kernel_rfl) x
theorem pr25 (x : Int) : pr 25 x = rr 25 x := pr_rr (by kernel_rfl) (by kernel_rfl) x
def mixW (w : Vector Int 64) (t : Int) : Int :=
 WK .u32 ((WK .u32 ((WK .u32 ((xorK .u32 (xorK .u32 (rr 17 (vAt 0 w (WK .i64 (t - 2)))) (rr 19 (vAt 0 w (WK .i64 (t - 2))))) (shrK .u32 (vAt 0 w (WK .i64 (t - 2))) 10)) + (vAt 0 w (WK .i64 (t - 7))))) + (xorK .u32 (xorK .u32 (rr 7 (vAt 0 w (WK .i64 (t - 15)))) (rr 18 (vAt 0 w (WK .i64 (t - 15))))) (shrK .u32 (vAt 0 w (WK .i64 (t - 15))) 3)))) + (vAt 0 w (WK .i64 (t - 16))))
def fW (b : Vector Int 16) (t : Nat) (w : Vector Int 64) : Vector Int 64 := if t < 16 then vSet w (t : Int) (vAt 0 b (t : Int)) else vSet w (t : Int) (mixW w (t : Int))
def words (b : Vector Int 16) : Vector Int 64 := itr (fW b) (Vector.replicate 64 0) 64
theorem words_first (b : Vector Int 16) : itr (fW b) (Vector.replicate 64 0) 16 = vCp (Vector.replicate 64 0) b := by
 rw [itr_congr (g := fun t w => vSet w (t : Int) ((fun (i : Nat) (_ : Int) => vAt 0 b (i : Int)) t (vAt 0 w (t : Int)))) _ 16 (fun i hi s => by simp only [fW, if_pos hi])]
 apply Vector.ext
 intro j hj
 rw [itr_fill (fun (i : Nat) (_ : Int) => vAt 0 b (i : Int)) (fun i _ v => rfl) _ 16 (by omega) j hj]
 unfold vCp
 simp only [Vector.getElem_mk, List.getElem_toArray]
 by_cases h : j < 16
 ·rw [if_pos h, vAt_get b j h, List.getElem_append_left (by simp; omega)]
  simp
 ·rw [if_neg h, List.getElem_append_right (by simp; omega), Vector.getElem_replicate]
  have h0 : ∀ x ∈ List.drop 16 (Vector.replicate 64 (0 : Int)).toList, x = 0 := by decide
  exact (h0 _ (List.getElem_mem _)).symm
theorem schedule_ok (b : Vector Int 16) : sha_schedule 1000 b = some (words b) := by
 unfold sha_schedule
 refine bind_of (loop_for (fun i w => fW b (16 + i) w) id 16 48 1000 _ (fun i hi s => ?_) (fun s => ?_) (by omega)) ?_
 ·refine (congrArg (condO · _ _) (ilt_t (by omega))).trans ((condO_true _ _).trans ?_)
  repeat refine (guardO_pos (by first | exact inr_wk (by omega) (by omega) (by omega) | exact ⟨by omega, by omega⟩ | decide)).trans ?_
  have e : fW b (16 + i) s = vSet s ((16 + i : Nat) : Int) (mixW s ((16 + i : Nat) : Int)) := if_neg (by omega)
  rw [e]
  unfold mixW
  simp only [← pr17, ← pr19, ← pr7, ← pr18]
  rw [wk_i64 (x := ((16 + i : Nat) : Int) + 1) (by omega) (by omega)]
  rfl
 ·refine (congrArg (condO · _ _) (ilt_f (by omega))).trans (condO_false _ _)
 ·rw [← words_first]
  show some (id (itr (fun i => fW b (16 + i)) (itr (fW b) (Vector.replicate 64 0) 16) 48)) = _
  rw [← itr_add (fW b) (Vector.replicate 64 0) 16 48]
  rfl
abbrev mkB (l : List UInt8) : ByteArray := ⟨l.toArray⟩
theorem mkB_size (l : List UInt8) : (mkB l).size = l.length := by simp [ByteArray.size]
theorem blen_mkB (l : List UInt8) : blen (mkB l) = (l.length : Int) := by rw [blen, mkB_size]
theorem mkB_app (a b : List UInt8) : mkB a ++ mkB b = mkB (a ++ b) := bytes_ext (by rw [data_app])
theorem nums_mkB (l : List Int) : strOfNums l = mkB (l.map fun n => UInt8.ofNat n.toNat) := rfl
theorem sAt_mkB (l : List UInt8) (i : Int) : sAt (mkB l) i = ((l.getD i.toNat 0).toNat : Int) := rfl
theorem scut_drop (l : List UInt8) (n : Int) : scut (mkB l) n (blen (mkB l)) = mkB (l.drop n.toNat) := by
 apply bytes_ext
 rw [blen_mkB]
 simp [scut, ByteArray.data_extract, List.extract]
 exact List.take_of_length_le (by simp)
theorem byte_lt (b : UInt8) : (b.toNat : Int) ≤ 255 := by have := b.toNat_lt; omega
def wdt (x : Nat) : Nat := (Lib.bitLen x + 7) / 8
def digs : Nat → Nat → List UInt8
 | 0, _ => []
 | n + 1, x => digs n (x / 256) ++ [UInt8.ofNat (x % 256)]
theorem digs_len : ∀ (n x : Nat), (digs n x).length = n
 | 0, _ => rfl
 | n + 1, x => by simp [digs, digs_len n]
theorem digs_cons : ∀ (n x : Nat), digs (n + 1) x = UInt8.ofNat (x / 256 ^ n % 256) :: digs n x
 | 0, x => by simp [digs]
 | n + 1, x => by
   rw [digs, digs_cons n (x / 256), Nat.div_div_eq_div_mul, ← Nat.pow_succ', digs]
   rfl
theorem wdt_zero : wdt 0 = 0 := by decide
theorem wdt_step {x : Nat} (h0 : x ≠ 0) (h : x < 18446744073709551616) : wdt x = wdt (x / 256) + 1 := by
 unfold wdt
 by_cases hx : 256 ≤ x
 ·rw [Lib.bitLen_shift8 x hx h]; omega
 ·have h1 := Lib.bitLen_le8 ⟨x, by omega⟩
  have h2 : 1 ≤ Lib.bitLen x := by
   rw [Lib.bitLen_half x h0 (by simpa using h)]; omega
  rw [show x / 256 = 0 by omega, show Lib.bitLen 0 = 0 by decide]
  simp only at h1
  omega
theorem wdt_le {x : Nat} (h : x < 18446744073709551616) : wdt x ≤ 8 := by
 have := Lib.bitLen_le x 64 (by decide) (by simpa using h)
 unfold wdt; omega
def putL (x : Nat) : List UInt8 := UInt8.ofNat (wdt x) :: digs (wdt x) x
theorem putL_len (x : Nat) : (putL x).length = wdt x + 1 := by simp [putL, digs_len]
abbrev bigE (x : Int) : Int := xorK .u32 (xorK .u32 (rr 6 x) (rr 11 x)) (rr 25 x)
abbrev bigA (x : Int) : Int := xorK .u32 (xorK .u32 (rr 2 x) (rr 13 x)) (rr 22 x)
abbrev chE (e f g : Int) : Int := xorK .u32 (andK .u32 e f) (andK .u32 (xorK .u32 4294967295 e) g)
abbrev maj (a b c : Int) : Int := xorK .u32 (xorK .u32 (andK .u32 a b) (andK .u32 a c)) (andK .u32 b c)
abbrev one1E (h e f g kk ww : Int) : Int := WK .u32 ((WK .u32 ((WK .u32 ((WK .u32 (h + bigE e)) + chE e f g)) + kk)) + ww)
abbrev two1E (a b c : Int) : Int := WK .u32 (bigA a + maj a b c)
def rnd (w : Vector Int 64) (t : Nat) (v : Vector Int 8) : Vector Int 8 :=
 ⟨#[WK .u32 (one1E (vAt 0 v 7) (vAt 0 v 4) (vAt 0 v 5) (vAt 0 v 6) (vAt 0 vgl_sha_keys (t : Int)) (vAt 0 w (t : Int)) + two1E (vAt 0 v 0) (vAt 0 v 1) (vAt 0 v 2)), vAt 0 v 0, vAt 0 v 1, vAt 0 v 2,
  WK .u32 (vAt 0 v 3 + one1E (vAt 0 v 7) (vAt 0 v 4) (vAt 0 v 5) (vAt 0 v 6) (vAt 0 vgl_sha_keys (t : Int)) (vAt 0 w (t : Int))), vAt 0 v 4, vAt 0 v 5, vAt 0 v 6], rfl⟩
def turned (st : Vector Int 8) (b : Vector Int 16) : Vector Int 8 := itr (rnd (words b)) st 64
def stepV (st : Vector Int 8) (b : Vector Int 16) : Vector Int 8 := itr (fun i v => vSet v (i : Int) (WK .u32 (vAt 0 v (i : Int) + vAt 0 st (i : Int)))) (turned st b) 8
theorem sha_rstep (st : Vector Int 8) (b : Vector Int 16) : ref02_Step 1000 (st, b) = some (stepV st b) := by
 unfold ref02_Step
 dsimp only
 refine bind_of (loop_for (fW b) id 0 64 1000 _ (fun i hi s => ?_) (fun s => ?_) (by omega)) ?_
 ·simp only [Nat.zero_add]
  refine (congrArg (condO · _ _) (ilt_t (by omega))).trans ((condO_true _ _).trans ?_)
  by_cases h : i < 16
  ·refine (congrArg (condO · _ _) (ilt_t (by omega))).trans ((condO_true _ _).trans ?_)
   repeat refine (guardO_pos (by exact ⟨by omega, by omega⟩)).trans ?_
   have e : fW b i s = vSet s (i : Int) (vAt 0 b (i : Int)) := if_pos h
   rw [e, wk_i64 (x := (i : Int) + 1) (by omega) (by omega)]
   rfl
  ·refine (congrArg (condO · _ _) (ilt_f (by omega))).trans ((condO_false _ _).trans ?_)
   repeat refine (guardO_pos (by first | exact inr_wk (by omega) (by omega) (by omega) | exact ⟨by omega, by omega⟩ | decide)).trans ?_
   have e : fW b i s = vSet s (i : Int) (mixW s (i : Int)) := if_neg h
   rw [e, wk_i64 (x := (i : Int) + 1) (by omega) (by omega)]
   rfl
 ·exact (congrArg (condO · _ _) (ilt_f (by omega))).trans (condO_false _ _)
 ·refine bind_of (loop_for (rnd (words b)) id 0 64 1000 _ (fun i hi s => ?_) (fun s => ?_) (by omega)) ?_
  ·simp only [Nat.zero_add]
   refine (congrArg (condO · _ _) (ilt_t (by omega))).trans ((condO_true _ _).trans ?_)
   repeat refine (guardO_pos (by first | exact ⟨by omega, by omega⟩ | decide)).trans ?_
   rw [wk_i64 (x := (i : Int) + 1) (by omega) (by omega)]
   rfl
  ·exact (congrArg (condO · _ _) (ilt_f (by omega))).trans (condO_false _ _)
  ·refine bind_of (loop_for (fun i v => vSet v (i : Int) (WK .u32 (vAt 0 v (i : Int) + vAt 0 st (i : Int)))) id 0 8 1000 _ (fun i hi s => ?_) (fun s => ?_) (by omega)) rfl
   ·simp only [Nat.zero_add]
    refine (congrArg (condO · _ _) (ilt_t (by omega))).trans ((condO_true _ _).trans ?_)
    repeat refine (guardO_pos (by exact ⟨by omega, by omega⟩)).trans ?_
    rw [wk_i64 (x := (i : Int) + 1) (by omega) (by omega)]
    rfl
   ·exact (congrArg (condO · _ _) (ilt_f (by omega))).trans (condO_false _ _)
theorem turn_E (k : Nat) (x : Int) : sha_turn k (x, 6, 11, 25) = some (bigE x) := by
 unfold sha_turn
 dsimp only
 repeat refine (guardO_pos (by decide +kernel)).trans ?_
 unfold bigE
 rw [← pr6, ← pr11, ← pr25]
theorem turn_A (k : Nat) (x : Int) : sha_turn k (x, 2, 13, 22) = some (bigA x) := by
 unfold sha_turn
 dsimp only
 repeat refine (guardO_pos (by decide +kernel)).trans ?_
 unfold bigA
 rw [← pr2, ← pr13, ← pr22]
theorem sha_pstep (st : Vector Int 8) (b : Vector Int 16) : sha_Step 1000 (st, b, vgl_sha_keys) = some (stepV st b) := by
 unfold sha_Step
 dsimp only
 refine bind_of (schedule_ok b) ?_
 repeat refine (guardO_pos (by decide)).trans ?_
 refine bind_of (loopK_run (fun i : Nat => (vAt 0 (itr (rnd (words b)) st i) 0, vAt 0 (itr (rnd (words b)) st i) 1, vAt 0 (itr (rnd (words b)) st i) 2, vAt 0 (itr (rnd (words b)) st i) 3, vAt 0 (itr (rnd (words b)) st i) 4, vAt 0 (itr (rnd (words b)) st i) 5, vAt 0 (itr (rnd (words b)) st i) 6, vAt 0 (itr (rnd (words b)) st i) 7, (i : Int))) 64
  (vAt 0 (turned st b) 0, vAt 0 (turned st b) 1, vAt 0 (turned st b) 2, vAt 0 (turned st b) 3, vAt 0 (turned st b) 4, vAt 0 (turned st b) 5, vAt 0 (turned st b) 6, vAt 0 (turned st b) 7) 1000 (fun i hi => ?_) ?_ (by omega)) ?_
 ·dsimp only
  refine (congrArg (condO · _ _) (ilt_t (by omega))).trans ((condO_true _ _).trans ?_)
  repeat refine (guardO_pos (by exact ⟨by omega, by omega⟩)).trans ?_
  refine bind_of (turn_E _ _) (bind_of (turn_A _ _) ?_)
  rw [wk_i64 (x := (i : Int) + 1) (by omega) (by omega)]
  rfl
 ·dsimp only
  exact (congrArg (condO · _ _) (ilt_f (by omega))).trans (condO_false _ _)
 ·obtain ⟨V, hV⟩ : ∃ V, V = turned st b := ⟨_, rfl⟩
  rw [← hV]
  have hX : ∀ j : Nat, j < 8 → vAt 0 (⟨#[vAt 0 V 0, vAt 0 V 1, vAt 0 V 2, vAt 0 V 3, vAt 0 V 4, vAt 0 V 5, vAt 0 V 6, vAt 0 V 7], rfl⟩ : Vector Int 8) (j : Int) = vAt 0 V (j : Int) := by
   intro j hj
   match j with
   | 0 => rfl
   | 1 => rfl
   | 2 => rfl
   | 3 => rfl
   | 4 => rfl
   | 5 => rfl
   | 6 => rfl
   | 7 => rfl
   | n + 8 => omega
  refine bind_of (loop_for (fun i v => vSet v (i : Int) (WK .u32 (vAt 0 v (i : Int) + vAt 0 V (i : Int)))) id 0 8 1000 _ (fun i hi s => ?_) (fun s => ?_) (by omega)) ?_
  ·simp only [Nat.zero_add]
   refine (congrArg (condO · _ _) (ilt_t (by omega))).trans ((condO_true _ _).trans ?_)
   repeat refine (guardO_pos (by exact ⟨by omega, by omega⟩)).trans ?_
   rw [wk_i64 (x := (i : Int) + 1) (by omega) (by omega), hX i hi]
   rfl
  ·exact (congrArg (condO · _ _) (ilt_f (by omega))).trans (condO_false _ _)
  ·have key : itr (fun i v => vSet v (i : Int) (WK .u32 (vAt 0 v (i : Int) + vAt 0 V (i : Int)))) st 8 = stepV st b := by
    unfold stepV
    rw [← hV]
    apply Vector.ext
    intro j hj
    rw [itr_fill (fun i x => WK .u32 (x + vAt 0 V (i : Int))) (fun i _ v => rfl) st 8 (by omega) j hj, itr_fill (fun i x => WK .u32 (x + vAt 0 st (i : Int))) (fun i _ v => rfl) V 8 (by omega) j hj, if_pos hj, if_pos hj, vAt_get V j hj, vAt_get st j hj, Int.add_comm]
   exact congrArg some key
theorem or_shl32 (x : Int) {y : Int} (y0 : 0 ≤ y) (y1 : y ≤ 255) : orK .u32 (shlK .u32 x 8) (WK .u32 y) = WK .u32 (WK .u32 (x * 256) + WK .u32 y) := by
 obtain ⟨m, rfl⟩ := Int.eq_ofNat_of_zero_le y0
 obtain ⟨q, hq, hq2⟩ : ∃ q : Nat, WK .u32 (x * 256) = ((q * 256 : Nat) : Int) ∧ q < 16777216 := by
  rw [wk_u32_mod]
  refine ⟨((x * 256 % 4294967296) / 256).toNat, by omega, by omega⟩
 have e1 : shlK .u32 x 8 = ((q * 256 : Nat) : Int) := by
  show WK .u32 (x * 2 ^ (min (8 : Int).toNat 32)) = _
  rw [show ((2 : Int) ^ (min (8 : Int).toNat 32)) = 256 by decide, hq]
 have e3 : WK .u32 (m : Int) = (m : Int) := by rw [wk_u32_mod]; omega
 rw [e1, hq, e3]
 show WK .u32 (((BitVec.ofInt 32 ((q * 256 : Nat) : Int)) ||| (BitVec.ofInt 32 (m : Int))).toNat : Int) = _
 rw [BitVec.toNat_or, BitVec.toNat_ofInt, BitVec.toNat_ofInt]
 rw [show (((q * 256 : Nat) : Int) % ((2 ^ 32 : Nat) : Int)).toNat = q * 256 by omega, show (((m : Nat) : Int) % ((2 ^ 32 : Nat) : Int)).toNat = m by omega]
 have e2 : q * 256 ||| m = q * 256 + m := by
  have := Nat.two_pow_add_eq_or_of_lt (i := 8) (b := m) (by omega) q
  rw [Nat.mul_comm q 256]
  exact this.symm
 rw [e2]
 congr 1
abbrev byt (l : List UInt8) (i : Nat) : Int := ((l.getD i 0).toNat : Int)
def fB (l : List UInt8) (i : Nat) (b : Vector Int 16) : Vector Int 16 := vSet b ((i / 4 : Nat) : Int) (WK .u32 (WK .u32 (vAt 0 b ((i / 4 : Nat) : Int) * 256) + WK .u32 (byt l i)))
def blkL (l : List UInt8) : Vector Int 16 := itr (fB l) (Vector.replicate 16 0) 64
theorem blkL_app (l r : List UInt8) (h : 64 ≤ l.length) : blkL (l ++ r) = blkL l := by
 unfold blkL
 refine itr_congr _ 64 (fun i hi s => ?_)
 unfold fB byt
 rw [List.getD_eq_getElem?_getD, List.getD_eq_getElem?_getD, List.getElem?_append_left (by omega)]
def absb (st : Vector Int 8) : Nat → List UInt8 → Vector Int 8
 | 0, _ => st
 | n + 1, l => absb (stepV st (blkL l)) n (l.drop 64)
theorem absb_app : ∀ (n : Nat) (st : Vector Int 8) (l r : List UInt8), 64 * n ≤ l.length → absb st n (l ++ r) = absb st n l
 | 0, _, _, _, _ => rfl
 | n + 1, st, l, r, h => by
   simp only [absb]
   rw [blkL_app l r (by omega), List.drop_append_of_le_length (by omega), absb_app n _ _ _ (by simp; omega)]
theorem absb_add (b : Nat) : ∀ (a : Nat) (st : Vector Int 8) (l : List UInt8), absb st (a + b) l = absb (absb st a l) b (l.drop (64 * a))
 | 0, st, l => by simp [absb]
 | a + 1, st, l => by
   rw [show a + 1 + b = (a + b) + 1 by omega]
   simp only [absb]
   rw [absb_add b a, List.drop_drop]
   congr 2
   omega
theorem absb_succ (st : Vector Int 8) (i : Nat) (l : List UInt8) : absb st (i + 1) l = stepV (absb st i l) (blkL (l.drop (64 * i))) := by
 rw [absb_add 1 i]; rfl
theorem getD_drop (l : List UInt8) (a i : Nat) : (l.drop a).getD i 0 = l.getD (a + i) 0 := by
 rw [List.getD_eq_getElem?_getD, List.getD_eq_getElem?_getD, List.getElem?_drop]
theorem tdiv4 (i : Nat) : Int.tdiv (i : Int) 4 = ((i / 4 : Nat) : Int) := rfl
theorem tmod4 (i : Nat) : Int.tmod (i : Int) 4 = ((i % 4 : Nat) : Int) := rfl
theorem wk_nat {n : Nat} (h : n ≤ 9223372036854775807) : WK .i64 (n : Int) = (n : Int) := wk_i64 (by omega) (by omega)
theorem wku_nat {n : Nat} (h : n ≤ 9223372036854775807) : WK .u64 (n : Int) = (n : Int) := wk_u64 (by omega) (by omega)
theorem blocks_ok (st : Vector Int 8) (l : List UInt8) (hl : l.length ≤ 50000) : sha_blocks 1000 (st, mkB l, vgl_sha_keys) = some (absb st (l.length / 64) l, mkB (l.drop (64 * (l.length / 64)))) := by
 unfold sha_blocks
 dsimp only
 refine bind_of (loopK_run (fun i : Nat => (mkB (l.drop (64 * i)), absb st i l)) (l.length / 64) (mkB (l.drop (64 * (l.length / 64))), absb st (l.length / 64) l) 1000 (fun i hi => ?_) ?_ (by omega)) rfl
 ·dsimp only
  rw [blen_mkB, List.length_drop]
  refine (congrArg (condO · _ _) (ige_t (by omega))).trans ((condO_true _ _).trans ?_)
  refine bind_of (loop_for (fB (l.drop (64 * i))) id 0 64 1000 _ (fun j hj s => ?_) (fun s => ?_) (by omega)) ?_
  ·simp only [Nat.zero_add]
   refine (congrArg (condO · _ _) (ilt_t (by omega))).trans ((condO_true _ _).trans ?_)
   rw [tdiv4, wk_nat (n := j / 4) (by omega), wk_i64 (x := (j : Int) + 1) (by omega) (by omega)]
   repeat refine (guardO_pos (by first | exact ⟨by omega, by omega⟩ | decide)).trans ?_
   rw [sAt_mkB, or_shl32 _ (by omega) (byte_lt _)]
   rfl
  ·exact (congrArg (condO · _ _) (ilt_f (by omega))).trans (condO_false _ _)
  ·refine bind_of (sha_pstep _ _) ?_
   refine (guardO_pos ⟨by omega, by omega, by omega⟩).trans ?_
   rw [show ((l.length - 64 * i : Nat) : Int) = blen (mkB (l.drop (64 * i))) by rw [blen_mkB, List.length_drop], scut_drop, List.drop_drop, absb_succ]
   rfl
 ·dsimp only
  rw [blen_mkB, List.length_drop]
  exact (congrArg (condO · _ _) (ige_f (by omega))).trans (condO_false _ _)
def startV : Vector Int 8 := ⟨#[1779033703, 3144134277, 1013904242, 2773480762, 1359893119, 2600822924, 528734635, 1541459225], rfl⟩
def outV (st : Vector Int 8) : Vector Int 32 := itr (fun i v => vSet v (i : Int) (WK .u8 (shrK .u32 (vAt 0 st ((i / 4 : Nat) : Int)) ((24 - 8 * (i % 4) : Nat) : Int)))) (Vector.replicate 32 0) 32
def lbt (n j : Nat) : Int := WK .u8 (shrK .u64 (WK .u64 ((n : Int) * 8)) ((8 * j : Nat) : Int))
def lbts (n : Nat) : List UInt8 := (List.range 8).map fun i => UInt8.ofNat (lbt n (7 - i)).toNat
def zs (n : Nat) : Nat := (119 - n % 64) % 64
def padL (l : List UInt8) : List UInt8 := l ++ [128] ++ List.replicate (zs l.length) 0 ++ lbts l.length
theorem lbts_len (n : Nat) : (lbts n).length = 8 := by simp [lbts]
theorem padL_len (l : List UInt8) : (padL l).length = l.length + 9 + zs l.length := by simp [padL, lbts_len]; omega
theorem padL_mod (l : List UInt8) : (padL l).length % 64 = 0 := by rw [padL_len]; unfold zs; omega
def hsh (l : List UInt8) : Vector Int 32 := outV (absb startV ((padL l).length / 64) (padL l))
theorem cat_mkB {a b : List UInt8} (h : a.length + b.length ≤ 1000000) : catOk (mkB a) (mkB b) := by
 unfold catOk; rw [mkB_size, mkB_size]; omega
theorem out_loop (st : Vector Int 8) {step : (Int × Vector Int 32) → Option ((Int × Vector Int 32) ⊕ Vector Int 32)}
 (hs : ∀ i : Nat, i < 32 → ∀ s, step ((i : Int), s) = some (.inl (((i + 1 : Nat) : Int), vSet s (i : Int) (WK .u8 (shrK .u32 (vAt 0 st ((i / 4 : Nat) : Int)) ((24 - 8 * (i % 4) : Nat) : Int)))))) (he : ∀ s, step (32, s) = some (.inr s)) :
 loopK 1000 step (0, Vector.replicate 32 0) = some (outV st) :=
 loop_for (fun i v => vSet v (i : Int) (WK .u8 (shrK .u32 (vAt 0 st ((i / 4 : Nat) : Int)) ((24 - 8 * (i % 4) : Nat) : Int)))) id 0 32 1000 _ (fun i hi s => by simp only [Nat.zero_add]; exact hs i hi s) (fun s => he s) (by omega)
theorem ref_of (l : List UInt8) (hl : l.length ≤ 50000) : ref02_Of 1000 (mkB l) = some (hsh l) := by
 unfold ref02_Of
 refine (guardO_pos (cat_mkB (b := [128]) (by simp; omega))).trans ?_
 have hz : zs l.length < 64 := by unfold zs; omega
 have e0 : mkB l ++ ⟨#[128]⟩ = (fun i : Nat => mkB (l ++ [128] ++ List.replicate i 0)) 0 := by
  show mkB l ++ mkB [128] = _
  rw [mkB_app]; simp
 rw [e0]
 refine bind_of (loopK_run (fun i : Nat => mkB (l ++ [128] ++ List.replicate i 0)) (zs l.length) (mkB (l ++ [128] ++ List.replicate (zs l.length) 0)) 1000 (fun i hi => ?_) ?_ (by omega)) ?_
 ·refine (guardO_pos (by decide)).trans ?_
  have hb : blen (mkB (l ++ [128] ++ List.replicate i 0)) = ((l.length + 1 + i : Nat) : Int) := by rw [blen_mkB]; simp; omega
  rw [hb]
  refine (congrArg (condO · _ _) (ine_t (show Int.tmod ((l.length + 1 + i : Nat) : Int) 64 ≠ 56 from ?_))).trans ((condO_true _ _).trans ?_)
  ·show (((l.length + 1 + i) % 64 : Nat) : Int) ≠ 56
   unfold zs at hi; omega
  ·refine (guardO_pos (cat_mkB (b := [0]) (by simp; omega))).trans ?_
   have : mkB (l ++ [128] ++ List.replicate i 0) ++ ⟨#[0]⟩ = mkB (l ++ [128] ++ List.replicate (i + 1) 0) := by
    show mkB _ ++ mkB [0] = _
    rw [mkB_app, List.append_assoc (l ++ [128]), List.replicate_succ' (n := i)]
   rw [this]
 ·refine (guardO_pos (by decide)).trans ?_
  have hb : blen (mkB (l ++ [128] ++ List.replicate (zs l.length) 0)) = ((l.length + 1 + zs l.length : Nat) : Int) := by rw [blen_mkB]; simp; omega
  rw [hb]
  refine (congrArg (condO · _ _) (ine_f (show Int.tmod ((l.length + 1 + zs l.length : Nat) : Int) 64 = 56 from ?_))).trans (condO_false _ _)
  show (((l.length + 1 + zs l.length) % 64 : Nat) : Int) = 56
  unfold zs; omega
 ·obtain ⟨A, hA⟩ : ∃ A, A = l ++ [128] ++ List.replicate (zs l.length) 0 := ⟨_, rfl⟩
  have hAl : A.length ≤ 50100 := by rw [hA]; simp; omega
  have hP : padL l = A ++ lbts l.length := by rw [hA]; rfl
  rw [← hA]
  have e1 : ((mkB A, 7) : ByteArray × Int) = (fun i : Nat => (mkB (A ++ (lbts l.length).take i), (7 : Int) - (i : Int))) 0 := by simp
  rw [e1]
  refine bind_of (loopK_run (fun i : Nat => (mkB (A ++ (lbts l.length).take i), (7 : Int) - (i : Int))) 8 (mkB (padL l)) 1000 (fun i hi => ?_) ?_ (by omega)) ?_
  ·dsimp only
   refine (congrArg (condO · _ _) (ige_t (by omega))).trans ((condO_true _ _).trans ?_)
   have e2 : WK .i64 (8 * ((7 : Int) - (i : Int))) = ((8 * (7 - i) : Nat) : Int) := by rw [wk_i64 (by omega) (by omega)]; omega
   rw [e2, wku_nat (n := 8 * (7 - i)) (by omega), blen_mkB, wku_nat (n := l.length) (by omega)]
   refine (guardO_pos (show nn ((8 * (7 - i) : Nat) : Int) by unfold nn; omega)).trans ?_
   have e3 : strOfNums [WK .u8 (shrK .u64 (WK .u64 ((l.length : Int) * 8)) ((8 * (7 - i) : Nat) : Int))] = mkB [UInt8.ofNat (lbt l.length (7 - i)).toNat] := rfl
   rw [e3]
   refine (guardO_pos (cat_mkB (by simp [lbts_len]; omega))).trans ?_
   rw [mkB_app, List.append_assoc, wk_i64 (x := (7 : Int) - (i : Int) - 1) (by omega) (by omega)]
   have e4 : (lbts l.length).take i ++ [UInt8.ofNat (lbt l.length (7 - i)).toNat] = (lbts l.length).take (i + 1) := by
    rw [List.take_add_one, List.getElem?_eq_getElem (by rw [lbts_len]; omega)]
    simp [lbts]
   rw [e4]
   congr 3
   omega
  ·dsimp only
   rw [List.take_of_length_le (by rw [lbts_len]; omega), ← hP]
   exact (congrArg (condO · _ _) (ige_f (by omega))).trans (condO_false _ _)
  ·have hm := padL_mod l
   have hpl := padL_len l
   refine bind_of (loopK_run (fun i : Nat => (((64 * i : Nat) : Int), absb startV i (padL l))) ((padL l).length / 64) (absb startV ((padL l).length / 64) (padL l)) 1000 (fun i hi => ?_) ?_ (by omega)) ?_
   ·dsimp only
    rw [blen_mkB]
    refine (congrArg (condO · _ _) (ilt_t (by omega))).trans ((condO_true _ _).trans ?_)
    refine bind_of (loop_for (fB ((padL l).drop (64 * i))) id 0 64 1000 _ (fun j hj s => ?_) (fun s => ?_) (by omega)) ?_
    ·simp only [Nat.zero_add]
     refine (congrArg (condO · _ _) (ilt_t (by omega))).trans ((condO_true _ _).trans ?_)
     rw [tdiv4, wk_nat (n := j / 4) (by omega), wk_i64 (x := (j : Int) + 1) (by omega) (by omega)]
     have e5 : WK .i64 (((64 * i : Nat) : Int) + (j : Int)) = ((64 * i + j : Nat) : Int) := by rw [wk_i64 (by omega) (by omega)]; omega
     rw [e5]
     repeat refine (guardO_pos (by first | exact ⟨by omega, by omega⟩ | decide)).trans ?_
     rw [sAt_mkB, Int.toNat_natCast, ← getD_drop]
     rfl
    ·exact (congrArg (condO · _ _) (ilt_f (by omega))).trans (condO_false _ _)
    ·refine bind_of (sha_rstep _ _) ?_
     rw [absb_succ]
     have e6 : WK .i64 (((64 * i : Nat) : Int) + 64) = ((64 * (i + 1) : Nat) : Int) := by rw [wk_i64 (by omega) (by omega)]; omega
     rw [e6]
     rfl
   ·dsimp only
    rw [blen_mkB]
    exact (congrArg (condO · _ _) (ilt_f (by omega))).trans (condO_false _ _)
   ·refine bind_of (out_loop (absb startV ((padL l).length / 64) (padL l)) (fun i hi s => ?_) (fun s => ?_)) rfl
    ·dsimp only
     refine (congrArg (condO · _ _) (ilt_t (by omega))).trans ((condO_true _ _).trans ?_)
     have e7 : WK .i64 (8 * ((i % 4 : Nat) : Int)) = ((8 * (i % 4) : Nat) : Int) := by rw [wk_i64 (by omega) (by omega)]; omega
     have e8 : WK .i64 (24 - ((8 * (i % 4) : Nat) : Int)) = ((24 - 8 * (i % 4) : Nat) : Int) := by rw [wk_i64 (by omega) (by omega)]; omega
     rw [tdiv4, tmod4, wk_nat (n := i / 4) (by omega), e7, e8, wku_nat (n := 24 - 8 * (i % 4)) (by omega), wk_i64 (x := (i : Int) + 1) (by omega) (by omega)]
     repeat refine (guardO_pos (by first | exact ⟨by omega, by omega⟩ | decide | (unfold nn; omega))).trans ?_
     rfl
    ·exact (congrArg (condO · _ _) (ilt_f (by omega))).trans (condO_false _ _)
abbrev hState (l : List UInt8) : Bool × Vector Int 8 × ByteArray × Int := (true, absb startV (l.length / 64) l, mkB (l.drop (64 * (l.length / 64))), (l.length : Int))
theorem write_first (s : List UInt8) (hs : s.length ≤ 50000) (z : Vector Int 8) : sha_Hash_Write 1000 (mkB s, false, z, str0, 0, vgl_sha_keys) = some ((s.length : Int), hState s) := by
 unfold sha_Hash_Write
 simp only [Bool.not_false, condO_true, Option.bind_some]
 refine (guardO_pos (cat_mkB (a := []) (by simp; omega))).trans ?_
 have e : (str0 : ByteArray) ++ mkB s = mkB s := by
  show mkB [] ++ mkB s = _
  rw [mkB_app]; rfl
 rw [e]
 refine bind_of (blocks_ok _ s hs) ?_
 rw [blen_mkB, Int.zero_add, wk_nat (by omega)]
 rfl
theorem write_next (t s : List UInt8) (hs : t.length + s.length ≤ 50000) : sha_Hash_Write 1000 (mkB s, (hState t).1, (hState t).2.1, (hState t).2.2.1, (hState t).2.2.2, vgl_sha_keys) = some ((s.length : Int), hState (t ++ s)) := by
 unfold sha_Hash_Write
 simp only [Bool.not_true, condO_false, Option.bind_some]
 refine (guardO_pos (cat_mkB (by simp; omega))).trans ?_
 rw [mkB_app]
 refine bind_of (blocks_ok _ _ (by simp; omega)) ?_
 have e1 : (t.drop (64 * (t.length / 64)) ++ s) = (t ++ s).drop (64 * (t.length / 64)) := by
  rw [List.drop_append_of_le_length (by omega)]
 have e2 : (t ++ s).length / 64 = t.length / 64 + (((t ++ s).drop (64 * (t.length / 64))).length / 64) := by
  simp only [List.length_drop, List.length_append]; omega
 have e3 : absb startV (t.length / 64) t = absb startV (t.length / 64) (t ++ s) := (absb_app _ _ _ _ (by omega)).symm
 rw [e1, e3, ← absb_add, ← e2, List.drop_drop, blen_mkB]
 have e4 : 64 * (t.length / 64) + 64 * (((t ++ s).drop (64 * (t.length / 64))).length / 64) = 64 * ((t ++ s).length / 64) := by rw [e2]; omega
 have e5 : WK .i64 ((t.length : Int) + (s.length : Int)) = ((t ++ s).length : Int) := by rw [wk_i64 (by omega) (by omega)]; simp
 rw [e4, e5]
theorem rep_zero : ∀ n, Lib.repeatL [0] n = List.replicate n (0 : UInt8)
 | 0 => rfl
 | n + 1 => by rw [Lib.repeatL, rep_zero n]; rfl
theorem rep_ok {n : Nat} (h : n ≤ 1000) : strings_Repeat 1000 (⟨#[0]⟩, (n : Int)) = some (mkB (List.replicate n 0)) := by
 show L_strings_Repeat 1000 _ = _
 unfold L_strings_Repeat
 have h3 : (⟨#[0]⟩ : ByteArray).size * (n : Int).toNat ≤ 140737488355328 := by
  show 1 * (n : Int).toNat ≤ _
  omega
 refine (guardO_pos ⟨by omega, by omega, h3⟩).trans ?_
 rw [← rep_zero]; rfl
theorem lbts_vec (n : Nat) (w : Vector Int 8) : ((itr (fun i v => vSet v (i : Int) (lbt n (7 - i))) w 8).toList.map fun x => UInt8.ofNat x.toNat) = lbts n := by
 apply List.ext_getElem
 ·simp [lbts]
 ·intro j h1 h2
  have hj : j < 8 := by rw [lbts_len] at h2; exact h2
  simp only [List.getElem_map, Vector.getElem_toList]
  rw [itr_fill (fun i _ => lbt n (7 - i)) (fun i _ v => rfl) w 8 (by omega) j hj, if_pos hj]
  simp [lbts]
theorem sum_ok (x : Bool × Vector Int 8 × ByteArray × Int) (t : List UInt8) (ht : t.length ≤ 49000) (hx : x = hState t ∨ (x.1 = false ∧ t = [])) : sha_Hash_Sum 1000 (x.1, x.2.1, x.2.2.1, x.2.2.2, vgl_sha_keys) = some (hsh t) := by
 unfold sha_Hash_Sum
 have e0 : (condO x.1 (some ((x.2.2.1, (WK .u64 x.2.2.2), x.2.1))) (some ((str0, 0, ⟨#[1779033703, 3144134277, 1013904242, 2773480762, 1359893119, 2600822924, 528734635, 1541459225], rfl⟩))) : Option (ByteArray × Int × (Vector Int 8))) = some (mkB (t.drop (64 * (t.length / 64))), (t.length : Int), absb startV (t.length / 64) t) := by
  rcases hx with rfl | ⟨h1, rfl⟩
  ·simp only [condO_true]
   rw [wku_nat (by omega)]
  ·rw [h1, condO_false]; rfl
 refine bind_of e0 ?_
 dsimp only
 refine (guardO_pos (by decide)).trans ?_
 refine bind_of (loop_for (fun i v => vSet v (i : Int) (lbt t.length (7 - i))) id 0 8 1000 _ (fun i hi s => ?_) (fun s => ?_) (by omega)) ?_
 ·simp only [Nat.zero_add]
  refine (congrArg (condO · _ _) (ilt_t (by omega))).trans ((condO_true _ _).trans ?_)
  have e1 : WK .i64 (7 - (i : Int)) = ((7 - i : Nat) : Int) := by rw [wk_i64 (by omega) (by omega)]; omega
  have e2 : WK .i64 (8 * ((7 - i : Nat) : Int)) = ((8 * (7 - i) : Nat) : Int) := by rw [wk_i64 (by omega) (by omega)]; omega
  rw [e1, e2, wk_i64 (x := (i : Int) + 1) (by omega) (by omega)]
  repeat refine (guardO_pos (by first | exact ⟨by omega, by omega⟩ | (unfold nn; omega))).trans ?_
  rfl
 ·exact (congrArg (condO · _ _) (ilt_f (by omega))).trans (condO_false _ _)
 ·obtain ⟨r, hr⟩ : ∃ r, r = t.drop (64 * (t.length / 64)) := ⟨_, rfl⟩
  have hrl : r.length = t.length % 64 := by rw [hr, List.length_drop]; omega
  rw [← hr]
  refine (guardO_pos (cat_mkB (b := [128]) (by simp; omega))).trans ?_
  have e3 : Int.tmod (WK .i64 (119 - blen (mkB r))) 64 = ((zs t.length : Nat) : Int) := by
   rw [blen_mkB, wk_i64 (by omega) (by omega), show (119 : Int) - (r.length : Int) = ((119 - t.length % 64 : Nat) : Int) by omega]
   rfl
  have hz : zs t.length < 64 := by unfold zs; omega
  rw [e3]
  refine bind_of (rep_ok (by omega)) ?_
  have e4 : mkB r ++ ⟨#[128]⟩ = mkB (r ++ [128]) := by
   show mkB r ++ mkB [128] = _
   rw [mkB_app]
  rw [e4]
  refine (guardO_pos (cat_mkB (by simp; omega))).trans ?_
  rw [mkB_app]
  have e5 : strOfNums (Vector.toList (id (itr (fun i v => vSet v (i : Int) (lbt t.length (7 - i))) (Vector.replicate 8 0) 8))) = mkB (lbts t.length) := by
   rw [nums_mkB, id, lbts_vec]
  rw [e5]
  refine (guardO_pos (cat_mkB (by simp [lbts_len]; omega))).trans ?_
  rw [mkB_app]
  have e6 : r ++ [128] ++ List.replicate (zs t.length) 0 ++ lbts t.length = (padL t).drop (64 * (t.length / 64)) := by
   unfold padL
   simp only [List.append_assoc]
   rw [List.drop_append_of_le_length (by omega), hr]
  have hpl := padL_len t
  have hpm := padL_mod t
  rw [e6]
  refine bind_of (blocks_ok _ _ (by rw [List.length_drop]; omega)) ?_
  have e7 : absb startV (t.length / 64) t = absb startV (t.length / 64) (padL t) := by
   unfold padL
   simp only [List.append_assoc]
   exact (absb_app _ _ _ _ (by omega)).symm
  have e8 : t.length / 64 + ((padL t).drop (64 * (t.length / 64))).length / 64 = (padL t).length / 64 := by rw [List.length_drop]; omega
  rw [e7, ← absb_add, e8]
  refine bind_of (out_loop (absb startV ((padL t).length / 64) (padL t)) (fun i hi s => ?_) (fun s => ?_)) rfl
  ·dsimp only
   refine (congrArg (condO · _ _) (ilt_t (by omega))).trans ((condO_true _ _).trans ?_)
   have e9 : WK .i64 (8 * ((i % 4 : Nat) : Int)) = ((8 * (i % 4) : Nat) : Int) := by rw [wk_i64 (by omega) (by omega)]; omega
   have e10 : WK .i64 (24 - ((8 * (i % 4) : Nat) : Int)) = ((24 - 8 * (i % 4) : Nat) : Int) := by rw [wk_i64 (by omega) (by omega)]; omega
   rw [tdiv4, tmod4, wk_nat (n := i / 4) (by omega), e9, e10, wk_i64 (x := (i : Int) + 1) (by omega) (by omega)]
   repeat refine (guardO_pos (by first | exact ⟨by omega, by omega⟩ | decide | (unfold nn; omega))).trans ?_
   rfl
  ·exact (congrArg (condO · _ _) (ilt_f (by omega))).trans (condO_false _ _)
theorem sha_of (ps : List (List UInt8)) (hn : ps.length ≤ 900) (hl : ps.flatten.length ≤ 49000) : sha_Of 1000 (ps.map mkB, vgl_sha_keys) = some (hsh ps.flatten) := by
 have pre : ∀ i, (ps.take i).flatten.length ≤ 49000 := fun i => by
  have h : ps.flatten = (ps.take i).flatten ++ (ps.drop i).flatten := by rw [← List.flatten_append, List.take_append_drop]
  rw [h, List.length_append] at hl
  omega
 unfold sha_Of
 dsimp only
 refine loop_bind (fun d h => ∃ (i : Nat) (x : Bool × Vector Int 8 × ByteArray × Int), h = ((i : Int), x) ∧ i + d = ps.length ∧ ((i = 0 ∧ x = (false, Vector.replicate 8 0, str0, 0)) ∨ (0 < i ∧ x = hState (ps.take i).flatten))) (fun e => e = hState ps.flatten ∨ (e.1 = false ∧ ps.flatten = [])) ps.length (by omega) ⟨0, _, rfl, by omega, .inl ⟨rfl, rfl⟩⟩ ?_ ?_
 ·rintro d _ ⟨i, x, rfl, hi, hx⟩
  dsimp only
  have hll : llen (ps.map mkB) = (ps.length : Int) := by simp [llen]
  rw [hll]
  by_cases a : i < ps.length
  ·refine (congrArg (fun b => Goes _ _ _ (condO b _ _)) (ilt_t (a := (i : Int)) (b := (ps.length : Int)) (by omega))).mpr ?_
   rw [condO_true, guardO_pos ⟨by omega, by omega⟩]
   have e1 : at_ .str (ps.map mkB) (i : Int) = mkB ps[i] := by
    rw [at_nat (t := .str) (by simpa using a)]
    simp
   have e2 : (ps.take (i + 1)).flatten = (ps.take i).flatten ++ ps[i] := by
    rw [List.take_add_one, List.getElem?_eq_getElem a, List.flatten_append]
    simp
   have hb := pre (i + 1)
   rw [e2, List.length_append] at hb
   rw [e1]
   have e3 : WK .i64 ((i : Int) + 1) = ((i + 1 : Nat) : Int) := wk_i64 (by omega) (by omega)
   rcases hx with ⟨rfl, rfl⟩ | ⟨h0, rfl⟩
   ·rw [write_first _ (by omega), Option.bind_some, e3]
    exact .on (d - 1) (by omega) ⟨1, _, rfl, by omega, .inr ⟨by omega, by rw [e2]; simp⟩⟩
   ·rw [write_next _ _ (by omega), Option.bind_some, e3]
    exact .on (d - 1) (by omega) ⟨i + 1, _, rfl, by omega, .inr ⟨by omega, by rw [e2]⟩⟩
  ·refine (congrArg (fun b => Goes _ _ _ (condO b _ _)) (ilt_f (a := (i : Int)) (b := (ps.length : Int)) (by omega))).mpr ?_
   rw [condO_false]
   refine .out ?_
   rcases hx with ⟨rfl, rfl⟩ | ⟨h0, rfl⟩
   ·have : ps = [] := List.eq_nil_of_length_eq_zero (by omega)
    subst this
    exact .inr ⟨rfl, rfl⟩
   ·rw [List.take_of_length_le (by omega)]
    exact .inl rfl
 ·intro e he
  exact bind_of (sum_ok e ps.flatten hl he) rfl
def sp (n : Nat) : Nat := 2 ^ Nat.log2 (n - 1)
theorem log2_le40 {n : Nat} (h0 : 2 ≤ n) (h : n ≤ 1099511627776) : Nat.log2 (n - 1) < 40 := by
 have h1 := Nat.log2_self_le (n := n - 1) (by omega)
 apply Nat.lt_of_not_le
 intro h2
 have := Nat.pow_le_pow_right (n := 2) (by omega) h2
 omega
theorem sp_spec {n : Nat} (h : 2 ≤ n) : sp n < n ∧ n ≤ 2 * sp n ∧ 1 ≤ sp n := by
 have h1 := Nat.log2_self_le (n := n - 1) (by omega)
 have h2 := Nat.lt_log2_self (n := n - 1)
 have h3 : 1 ≤ 2 ^ Nat.log2 (n - 1) := Nat.one_le_two_pow
 rw [Nat.pow_succ] at h2
 unfold sp
 omega
theorem sp_le {n d : Nat} (h : 2 ≤ n) (hd : n ≤ 2 ^ (d + 1)) : sp n ≤ 2 ^ d := by
 have h1 := (sp_spec h).1
 unfold sp at h1 ⊢
 apply Nat.pow_le_pow_right (by omega)
 apply Nat.le_of_lt_succ
 exact (Nat.pow_lt_pow_iff_right (a := 2) (by omega)).1 (Nat.lt_of_lt_of_le h1 hd)
theorem bitLen_log2 : ∀ x : Nat, x ≠ 0 → x < 2 ^ 64 → Lib.bitLen x = Nat.log2 x + 1 := by
 intro x
 induction x using Nat.strongRecOn with
 | _ x ih =>
   intro h0 h
   rw [Lib.bitLen_half x h0 h, Nat.log2_def]
   by_cases h2 : 2 ≤ x
   ·rw [if_pos h2, ih (x / 2) (by omega) (by omega) (by omega)]
    omega
   ·have : x = 1 := by omega
    subst this
    decide
theorem shl_pow (j : Nat) (h : j ≤ 62) : shlK .i64 1 (j : Int) = ((2 ^ j : Nat) : Int) := by
 unfold shlK
 have e : min (j : Int).toNat IntKind.i64.bits = j := by
  have : IntKind.i64.bits = 64 := rfl
  omega
 rw [e, Int.one_mul]
 have h1 : (2 : Nat) ^ j ≤ 2 ^ 62 := Nat.pow_le_pow_right (by omega) h
 have h2 : ((2 : Int) ^ j) = ((2 ^ j : Nat) : Int) := by simp
 rw [h2]
 have h3 : (2 : Nat) ^ 62 = 4611686018427387904 := by decide
 rw [h3] at h1
 generalize 2 ^ j = p at h1 ⊢
 exact wk_i64 (by omega) (by omega)
theorem pow_le_two {n d : Nat} (h : 2 ≤ n) (hd : n ≤ 2 ^ d) : ∃ d', d = d' + 1 := by
 cases d with
 | zero => simp at hd; omega
 | succ d => exact ⟨d, rfl⟩
theorem split_ok {n : Nat} (h : n ≤ 1099511627776) : ref09_Split 1000 (n : Int) = some (if n < 2 then 0 else ((sp n : Nat) : Int)) := by
 unfold ref09_Split
 by_cases a : n < 2
 ·rw [ilt_t (by omega), condO_true, if_pos a]
 ·rw [ilt_f (by omega), condO_false, if_neg a]
  have a1 : 2 ≤ n := by omega
  have hl := log2_le40 a1 h
  refine loop_bind (fun d h => ∃ i, h = ((2 ^ i : Nat) : Int) ∧ i + d = Nat.log2 (n - 1)) (fun e => e = ((sp n : Nat) : Int)) (Nat.log2 (n - 1)) (by omega) ⟨0, by simp, by simp⟩ ?_ (fun e he => by rw [he])
  rintro d _ ⟨i, rfl, hi⟩
  have g1 := Nat.log2_self_le (n := n - 1) (by omega)
  have g2 := Nat.lt_log2_self (n := n - 1)
  have e1 : WK .i64 ((n : Int) - 1) = ((n - 1 : Nat) : Int) := by rw [wk_i64 (by omega) (by omega)]; omega
  have e2 : Int.tdiv ((n - 1 : Nat) : Int) 2 = (((n - 1) / 2 : Nat) : Int) := rfl
  have hp : 2 ^ i ≤ 2 ^ Nat.log2 (n - 1) := Nat.pow_le_pow_right (by omega) (by omega)
  rw [guardO_pos (by decide), e1, e2, wk_i64 (x := (((n - 1) / 2 : Nat) : Int)) (by omega) (by omega)]
  cases d with
  | zero =>
    have : i = Nat.log2 (n - 1) := by omega
    subst this
    rw [Nat.pow_succ] at g2
    rw [ile_f (by omega), condO_false]
    exact .out rfl
  | succ d =>
    have hq : 2 ^ (i + 1) ≤ 2 ^ Nat.log2 (n - 1) := Nat.pow_le_pow_right (by omega) (by omega)
    rw [Nat.pow_succ] at hq
    rw [ile_t (by omega), condO_true]
    have e3 : WK .i64 (2 * ((2 ^ i : Nat) : Int)) = ((2 ^ (i + 1) : Nat) : Int) := by
     rw [wk_i64 (by omega) (by omega), Nat.pow_succ]; omega
    rw [e3]
    exact .on d (by omega) ⟨i + 1, rfl, by omega⟩
theorem loop_bindE {H E R : Type} {step : H → Option (H ⊕ E)} {f : E → Option R} {P : R → Prop} {h0 : H} {k : Nat} (I : Nat → H → Prop) (Q : E → Prop) (n : Nat) (hk : n < k) (h : I n h0)
 (hs : ∀ n h, I n h → Goes I Q n (step h)) (hf : ∀ e, Q e → ∃ r, f e = some r ∧ P r) : ∃ r, (loopK k step h0).bind f = some r ∧ P r := by
 obtain ⟨e, he, hq⟩ := loopK_inv (step := step) I Q (fun n h hi => by
  have g := hs n h hi
  generalize step h = o at g ⊢
  cases g with
  | on m lt i => exact .inl ⟨_, m, rfl, lt, i⟩
  | out q => exact .inr ⟨_, rfl, q⟩) n h0 h k hk
 obtain ⟨r, h1, h2⟩ := hf e hq
 exact ⟨r, by rw [he]; exact h1, h2⟩
abbrev Vh := Vector Int 32
def vb (v : Vh) : List UInt8 := v.toList.map fun n => UInt8.ofNat n.toNat
theorem vb_len (v : Vh) : (vb v).length = 32 := by simp [vb]
theorem vb_str (v : Vh) : strOfNums (Vector.toList v) = mkB (vb v) := rfl
def node (a b : Vh) : Vh := hsh ([1] ++ vb a ++ vb b)
theorem node_cat1 (a : Vh) : catOk ⟨#[1]⟩ (strOfNums (Vector.toList a)) := cat_mkB (a := [1]) (b := vb a) (by rw [vb_len]; decide)
theorem node_cat2 (a b : Vh) : catOk (⟨#[1]⟩ ++ strOfNums (Vector.toList a)) (strOfNums (Vector.toList b)) := by
 have e : (⟨#[1]⟩ : ByteArray) ++ strOfNums (Vector.toList a) = mkB ([1] ++ vb a) := mkB_app [1] _
 rw [e]
 exact cat_mkB (b := vb b) (by rw [vb_len, List.length_append, vb_len]; decide)
theorem node_text (a b : Vh) : ((⟨#[1]⟩ : ByteArray) ++ strOfNums (Vector.toList a)) ++ strOfNums (Vector.toList b) = mkB ([1] ++ vb a ++ vb b) := by
 have e : (⟨#[1]⟩ : ByteArray) ++ strOfNums (Vector.toList a) = mkB ([1] ++ vb a) := mkB_app [1] _
 rw [e]
 exact mkB_app _ _
theorem node_ref (a b : Vh) : ref02_Of 1000 ((⟨#[1]⟩ ++ strOfNums (Vector.toList a)) ++ strOfNums (Vector.toList b)) = some (node a b) := by
 rw [node_text]
 exact ref_of _ (by simp [vb_len])
theorem node_sha (a b : Vh) : sha_Of 1000 ([((⟨#[1]⟩ ++ strOfNums (Vector.toList a)) ++ strOfNums (Vector.toList b))], vgl_sha_keys) = some (node a b) := by
 rw [node_text]
 have := sha_of [[1] ++ vb a ++ vb b] (by simp) (by simp [vb_len])
 simpa [node] using this
abbrev nil0 : Vh := hsh []
def rt : Nat → List Vh → Vh
 | 0, l => l.headD nil0
 | d + 1, l => if l.length ≤ 1 then l.headD nil0 else node (rt d (l.take (sp l.length))) (rt d (l.drop (sp l.length)))
theorem rt_small {l : List Vh} (h : l.length ≤ 1) : ∀ d, rt d l = l.headD nil0
 | 0 => rfl
 | d + 1 => by rw [rt, if_pos h]
theorem rt_big {l : List Vh} {d : Nat} (h : 2 ≤ l.length) : rt (d + 1) l = node (rt d (l.take (sp l.length))) (rt d (l.drop (sp l.length))) := by
 rw [rt, if_neg (by omega)]
theorem sp_unique {n j : Nat} (h1 : 2 ^ j < n) (h2 : n ≤ 2 ^ (j + 1)) : sp n = 2 ^ j := by
 have h0 : 1 ≤ 2 ^ j := Nat.one_le_two_pow
 obtain ⟨a1, a2, a3⟩ := sp_spec (n := n) (by omega)
 have a4 := sp_le (n := n) (d := j) (by omega) h2
 have a5 : 2 ^ j ≤ sp n := by
  unfold sp at a2 ⊢
  apply Nat.pow_le_pow_right (by omega)
  have : 2 ^ j < 2 ^ (Nat.log2 (n - 1) + 1) := by rw [Nat.pow_succ]; omega
  have := (Nat.pow_lt_pow_iff_right (a := 2) (by omega)).1 this
  omega
 omega
theorem rt_deep : ∀ (d : Nat) (l : List Vh), l.length ≤ 2 ^ d → ∀ e, d ≤ e → rt e l = rt d l
 | 0, l, h, e, _ => by rw [rt_small (by simpa using h), rt_small (by simpa using h)]
 | d + 1, l, h, e, he => by
   obtain ⟨e, rfl⟩ : ∃ f, e = f + 1 := ⟨e - 1, by omega⟩
   by_cases h1 : l.length ≤ 1
   ·rw [rt_small h1, rt_small h1]
   ·obtain ⟨a1, a2, a3⟩ := sp_spec (n := l.length) (by omega)
    have a4 := sp_le (n := l.length) (d := d) (by omega) h
    rw [rt_big (by omega), rt_big (by omega), rt_deep d _ (by rw [List.length_take]; omega) e (by omega), rt_deep d _ (by rw [List.length_drop]; omega) e (by omega)]
theorem ltake_nat {α : Type} (n : Nat) (l : List α) : ltake (n : Int) l = l.take n := by unfold ltake; rw [Int.toNat_natCast]
theorem ldrop_nat {α : Type} (n : Nat) (l : List α) : ldrop (n : Int) l = l.drop n := by unfold ldrop; rw [Int.toNat_natCast]
theorem rt40_big {l : List Vh} (h1 : 2 ≤ l.length) (h : l.length ≤ 512) : rt 40 l = node (rt 40 (l.take (sp l.length))) (rt 40 (l.drop (sp l.length))) := by
 have a1 : (l.take (sp l.length)).length ≤ 2 ^ 9 := by rw [List.length_take]; omega
 have a2 : (l.drop (sp l.length)).length ≤ 2 ^ 9 := by rw [List.length_drop]; omega
 rw [rt_big (d := 39) h1, rt_deep 9 _ a1 39 (by omega), rt_deep 9 _ a2 39 (by omega), rt_deep 9 _ a1 40 (by omega), rt_deep 9 _ a2 40 (by omega)]
theorem len_take (l : List Vh) (h : 2 ≤ l.length) : (l.take (sp l.length)).length = sp l.length := by
 have := sp_spec h
 rw [List.length_take]; omega
theorem sameI_self (n : Nat) (v : Vector Int n) : ∀ l : List Nat, sameI n v v l = true
 | [] => rfl
 | i :: l => by rw [sameI, sameI_self n v l]; simp
def byI (l : List UInt8) : List Int := l.map fun b => (b.toNat : Int)
theorem byI_nums (l : List UInt8) : strOfNums (byI l) = mkB l := by
 rw [nums_mkB, byI, List.map_map]
 congr 1
 conv => rhs; rw [← List.map_id l]
 refine List.map_congr_left (fun b _ => ?_)
 simp
theorem byte_mod (x : Nat) : ((UInt8.ofNat (x % 256)).toNat : Int) = ((x % 256 : Nat) : Int) := by simp
theorem rput_ok (k : Nat) (hk : 8 < k) {x : Nat} (h : x < 18446744073709551616) : ref01_Put k (x : Int) = some (mkB (putL x)) := by
 unfold ref01_Put
 have hw := wdt_le h
 have big : ∀ i, i < wdt x → 0 < x / 256 ^ i := by
  intro i
  have gen : ∀ i x, x < 18446744073709551616 → i < wdt x → 0 < x / 256 ^ i := by
   intro i
   induction i with
   | zero =>
     intro x h hi
     rw [Nat.pow_zero, Nat.div_one]
     refine Nat.pos_of_ne_zero ?_
     rintro rfl
     rw [wdt_zero] at hi; omega
   | succ i ih =>
     intro x h hi
     have h0 : x ≠ 0 := by
      rintro rfl
      rw [wdt_zero] at hi; omega
     rw [wdt_step h0 h] at hi
     have := ih (x / 256) (by omega) (by omega)
     rw [Nat.div_div_eq_div_mul, ← Nat.pow_succ'] at this
     exact this
  exact gen i x h
 have zero : x / 256 ^ wdt x = 0 := by
  have gen : ∀ n x, x < 18446744073709551616 → wdt x = n → x / 256 ^ n = 0 := by
   intro n
   induction n with
   | zero =>
     intro x h hn
     by_cases h0 : x = 0
     ·subst h0; rfl
     ·rw [wdt_step h0 h] at hn; omega
   | succ n ih =>
     intro x h hn
     have h0 : x ≠ 0 := by
      rintro rfl
      rw [wdt_zero] at hn; omega
     rw [wdt_step h0 h] at hn
     have := ih (x / 256) (by omega) (by omega)
     rw [Nat.div_div_eq_div_mul, ← Nat.pow_succ'] at this
     exact this
  exact gen _ x h rfl
 have hpw : ∀ i, x / 256 ^ i ≤ x := fun i => Nat.div_le_self _ _
 refine bind_of (a := mkB (digs (wdt x) x)) ?_ ?_
 ·refine Eq.trans (congrArg (loopK k _) (show ((x : Int), str0) = (((x / 256 ^ 0 : Nat) : Int), mkB (digs 0 x)) by rw [Nat.pow_zero, Nat.div_one]; rfl)) (loopK_run (fun i => (((x / 256 ^ i : Nat) : Int), mkB (digs i x))) (wdt x) _ k ?_ ?_ (by omega))
  ·intro i hi
   have h1 := big i hi
   have h2 := hpw i
   have e : ((x / 256 ^ i : Nat) : Int).tmod 256 = ((x / 256 ^ i % 256 : Nat) : Int) := by
    rw [Int.tmod_eq_emod_of_nonneg (by omega)]; omega
   have e2 : ((x / 256 ^ i : Nat) : Int).tdiv 256 = ((x / 256 ^ (i + 1) : Nat) : Int) := by
    rw [Int.tdiv_eq_ediv_of_nonneg (by omega), Nat.pow_succ, ← Nat.div_div_eq_div_mul]; omega
   have h3 := hpw (i + 1)
   obtain ⟨z, hz⟩ : ∃ z, z = x / 256 ^ (i + 1) := ⟨_, rfl⟩
   rw [← hz] at e2 h3
   simp only [igt_t (show (0 : Int) < ((x / 256 ^ i : Nat) : Int) by omega), condO_true]
   rw [guardO_pos (by decide), e, e2, wk_u8 (by omega) (by omega), wk_u64 (by omega) (by omega)]
   have e3 : strOfNums [((x / 256 ^ i % 256 : Nat) : Int)] = mkB [UInt8.ofNat (x / 256 ^ i % 256)] := rfl
   rw [e3, mkB_app, guardO_pos (by
    unfold catOk
    rw [mkB_size, mkB_size, digs_len]
    have : [UInt8.ofNat (x / 256 ^ i % 256)].length = 1 := rfl
    omega), guardO_pos (by decide), hz]
   rw [digs_cons]
   rfl
  ·simp only [zero]
   rfl
 ·have hc : ((wdt x : Nat) : Int) = WK .u8 (blen (mkB (digs (wdt x) x))) := by
   rw [blen_mkB, digs_len, wk_u8 (by omega) (by omega)]
  rw [← hc]
  have e3 : strOfNums [((wdt x : Nat) : Int)] = mkB [UInt8.ofNat (wdt x)] := rfl
  rw [e3, mkB_app, guardO_pos (by
   unfold catOk
   rw [mkB_size, mkB_size, digs_len]
   have : [UInt8.ofNat (wdt x)].length = 1 := rfl
   omega)]
  rfl
theorem shr_byte (x i : Nat) (hi : i < 8) : WK .u8 (shrK .u64 (x : Int) (8 * (i : Int))) = ((x / 256 ^ i % 256 : Nat) : Int) := by
 have e : shrK .u64 (x : Int) (8 * (i : Int)) = ((x / 256 ^ i : Nat) : Int) := by
  show Int.fdiv (x : Int) (2 ^ (min (8 * (i : Int)).toNat 64)) = _
  have e2 : (2 : Int) ^ (8 * i) = ((256 ^ i : Nat) : Int) := by
   have h1 : (2 : Nat) ^ (8 * i) = 256 ^ i := by rw [Nat.pow_mul]
   rw [← h1, Int.natCast_pow]; rfl
  rw [show min (8 * (i : Int)).toNat 64 = 8 * i by omega, e2, Int.fdiv_eq_ediv_of_nonneg _ (Int.natCast_nonneg _)]
  exact (Int.natCast_ediv _ _).symm
 rw [e, wk_u8_mod]
 omega
theorem put_ok (k : Nat) (hk : 8 < k) {x : Nat} (h : x < 18446744073709551616) : octet_Put k (x : Int) = some (mkB (putL x)) := by
 unfold octet_Put
 have hw := wdt_le h
 have hb : Lib.bitLen x ≤ 64 := Lib.bitLen_le x 64 (by decide) (by simpa using h)
 have e0 : bits_Len64 k (x : Int) = some ((Lib.bitLen x : Nat) : Int) := by
  show L_math_bits_Len64 k (x : Int) = _
  unfold L_math_bits_Len64
  rw [guardO_pos ⟨by omega, by omega⟩, Int.toNat_natCast]
 rw [e0]
 simp only [Option.bind_some]
 have e1 : WK .i64 (Int.tdiv (WK .i64 (WK .i64 (((Lib.bitLen x : Nat) : Int) + 8) - 1)) 8) = ((wdt x : Nat) : Int) := by
  rw [wk_i64 (x := ((Lib.bitLen x : Nat) : Int) + 8) (by omega) (by omega), wk_i64 (x := ((Lib.bitLen x : Nat) : Int) + 8 - 1) (by omega) (by omega), Int.tdiv_eq_ediv_of_nonneg (by omega)]
  unfold wdt
  rw [wk_i64 (by omega) (by omega)]
  omega
 rw [e1]
 have e2 : WK .i64 (1 + ((wdt x : Nat) : Int)) = ((wdt x + 1 : Nat) : Int) := by
  rw [wk_i64 (by omega) (by omega)]; omega
 rw [e2, wk_u8 (x := ((wdt x : Nat) : Int)) (by omega) (by omega)]
 rw [guardO_pos (by decide), guardO_pos ⟨by omega, rfl, by omega, by omega⟩, guardO_pos ⟨by decide, by simp only [llen, lrep, List.length_replicate]; omega⟩]
 have e3 : lset (lrep ((wdt x + 1 : Nat) : Int) (0 : Int)) 0 ((wdt x : Nat) : Int) = ((wdt x : Nat) : Int) :: List.replicate (wdt x) 0 := by
  simp only [lset, lrep, Int.toNat_natCast, List.replicate_succ]
  rfl
 rw [e3]
 refine bind_of (a := byI (putL x)) ?_ (by rw [byI_nums])
 have hc : ((UInt8.ofNat (wdt x)).toNat : Int) = (wdt x : Int) := by
  have : (UInt8.ofNat (wdt x)).toNat = wdt x := by simp; omega
  rw [this]
 have fin : byI (putL x) = ((wdt x : Nat) : Int) :: (List.replicate (wdt x - wdt x) 0 ++ byI (digs (wdt x) x)) := by
  simp only [putL, byI, List.map_cons, hc, Nat.sub_self, List.replicate_zero, List.nil_append]
 have st : (((wdt x : Nat) : Int) :: List.replicate (wdt x) 0) = ((wdt x : Nat) : Int) :: (List.replicate (wdt x - 0) 0 ++ byI (digs 0 x)) := by
  simp [digs, byI]
 rw [st]
 refine loopK_run (fun i => ((i : Int), ((wdt x : Nat) : Int) :: (List.replicate (wdt x - i) 0 ++ byI (digs i x)))) (wdt x) _ k ?_ ?_ (by omega)
 ·intro i hi
  have hlen : (((wdt x : Nat) : Int) :: (List.replicate (wdt x - i) 0 ++ byI (digs i x))).length = wdt x + 1 := by
   simp only [List.length_cons, List.length_append, List.length_replicate, byI, List.length_map, digs_len]; omega
  simp only [ilt_t (show (i : Int) < ((wdt x : Nat) : Int) by omega), condO_true]
  rw [wk_i64 (x := 8 * (i : Int)) (by omega) (by omega), guardO_pos (by omega), wk_i64 (x := ((wdt x : Nat) : Int) - (i : Int)) (by omega) (by omega), guardO_pos ⟨by omega, by rw [llen, hlen]; omega⟩, wk_i64 (x := (i : Int) + 1) (by omega) (by omega), shr_byte x i (by omega)]
  congr 3
  obtain ⟨m, hm⟩ : ∃ m, wdt x - i = m + 1 := ⟨wdt x - i - 1, by omega⟩
  rw [show wdt x - (i + 1) = m by omega, hm]
  simp only [lset]
  rw [show (((wdt x : Nat) : Int) - (i : Int)).toNat = m + 1 by omega, List.set_cons_succ, List.replicate_succ', List.append_assoc, List.set_append_right _ _ (by simp), List.length_replicate, Nat.sub_self]
  rw [digs_cons]
  simp only [byI, List.map_cons, byte_mod, List.singleton_append, List.set_cons_zero]
 ·simp only [ilt_f (Int.le_refl _), condO_false, fin]
abbrev Fz := Int × Int × Vh
abbrev TV : Ty := .arr 32 (.int .u8)
abbrev TF : Ty := .pair (.int .i64) (.pair (.int .i64) TV)
def mayF (w c : Int) : Prop := 0 ≤ w ∧ w ≤ 1125899906842624 ∧ 1 ≤ c ∧ c ≤ 4000
instance (w c : Int) : Decidable (mayF w c) := by unfold mayF; infer_instance
def fzL (w c : Int) (r : Vh) : List UInt8 := [70] ++ putL w.toNat ++ putL c.toNat ++ (putL 32 ++ vb r)
theorem put_small {x : Nat} (h : x < 18446744073709551616) : (putL x).length ≤ 9 := by
 have := wdt_le h
 rw [putL_len]; omega
theorem fzL_len {w c : Int} (h : mayF w c) (r : Vh) : (fzL w c r).length ≤ 70 := by
 obtain ⟨h1, h2, h3, h4⟩ := h
 have a := put_small (x := w.toNat) (by omega)
 have b := put_small (x := c.toNat) (by omega)
 have d := put_small (x := 32) (by decide)
 simp only [fzL, List.length_append, vb_len, List.length_singleton]
 omega
theorem put_of {x : Int} (h0 : 0 ≤ x) (h1 : x ≤ 1125899906842624) : octet_Put 1000 (WK .u64 x) = some (mkB (putL x.toNat)) := by
 rw [wk_u64 h0 (by omega)]
 obtain ⟨n, rfl⟩ := Int.eq_ofNat_of_zero_le h0
 rw [put_ok 1000 (by decide) (by omega)]
 rfl
theorem rput_of {x : Int} (h0 : 0 ≤ x) (h1 : x ≤ 1125899906842624) : ref01_Put 1000 (WK .u64 x) = some (mkB (putL x.toNat)) := by
 rw [wk_u64 h0 (by omega)]
 obtain ⟨n, rfl⟩ := Int.eq_ofNat_of_zero_le h0
 rw [rput_ok 1000 (by decide) (by omega)]
 rfl
theorem vb_blen (r : Vh) : blen (strOfNums (Vector.toList r)) = 32 := by
 rw [vb_str, blen_mkB, vb_len]; rfl
theorem fz_yes {w c : Int} (h : mayF w c) (r : Vh) : seal_FreezeBytes 1000 (w, c, r) = some (mkB (fzL w c r), 0) := by
 obtain ⟨h1, h2, h3, h4⟩ := h
 have hl := fzL_len (show mayF w c from ⟨h1, h2, h3, h4⟩) r
 unfold seal_FreezeBytes
 dsimp only
 rw [ige_t h1, condO_true, ile_t h2, Bool.not_true, condO_false, ieq_f (show c ≠ 0 by omega), condO_false, ige_t (show 0 ≤ c by omega), condO_true, ile_t h4, Bool.not_true, condO_false]
 refine bind_of (put_of h1 h2) (bind_of (put_of (by omega) (by omega)) ?_)
 rw [vb_blen]
 refine bind_of (put_of (x := 32) (by decide) (by decide)) ?_
 have d := put_small (x := 32) (by decide)
 refine (guardO_pos (cat_mkB (a := putL 32) (b := vb r) (by rw [vb_len]; omega))).trans ?_
 rw [vb_str, show mkB (putL (32 : Int).toNat) ++ mkB (vb r) = mkB (putL 32 ++ vb r) from mkB_app _ _]
 refine bind_of (a := mkB (fzL w c r)) ?_ rfl
 show L_strings_Join 1000 _ = _
 unfold L_strings_Join
 have hj : Lib.join (([⟨#[70]⟩, mkB (putL w.toNat), mkB (putL c.toNat), mkB (putL 32 ++ vb r)] : List ByteArray).map (·.data.toList)) (str0 : ByteArray).data.toList = fzL w c r := by
  simp [Lib.join, fzL, mkB]
 have hb : (Lib.join (([⟨#[70]⟩, mkB (putL w.toNat), mkB (putL c.toNat), mkB (putL 32 ++ vb r)] : List ByteArray).map (·.data.toList)) (str0 : ByteArray).data.toList).length ≤ 140737488355328 := by
  rw [hj]; omega
 refine (guardO_pos ⟨by simp, by simp, hb⟩).trans ?_
 exact congrArg (fun l => some (mkB l)) hj
def lfF (f : Fz) : Vh := hsh ([0] ++ fzL f.1 f.2.1 f.2.2)
theorem leaf_sha {w c : Int} (h : mayF w c) (r : Vh) : sha_Of 1000 ([⟨#[0]⟩, mkB (fzL w c r)], vgl_sha_keys) = some (lfF (w, c, r)) := by
 have hl := fzL_len h r
 have := sha_of [[0], fzL w c r] (by simp) (by simp; omega)
 simpa [lfF] using this
inductive Stk : Nat → Nat → List Vh → List Vh → Prop
 | zero (j : Nat) : Stk j 0 [] []
 | even {j k : Nat} {ps l : List Vh} : Stk (j + 1) k ps l → Stk j (2 * k) ps l
 | odd {j k : Nat} {ps l1 l2 : List Vh} : l2.length = 2 ^ j → Stk (j + 1) k ps l1 → Stk j (2 * k + 1) (rt 40 l2 :: ps) (l1 ++ l2)
theorem rt_cat {j : Nat} {l t : List Vh} (h : l.length = 2 ^ j) (h1 : 1 ≤ t.length) (h2 : t.length ≤ 2 ^ j) (hb : l.length + t.length ≤ 512) : rt 40 (l ++ t) = node (rt 40 l) (rt 40 t) := by
 have h0 : 1 ≤ 2 ^ j := Nat.one_le_two_pow
 have hs : sp (l ++ t).length = 2 ^ j := by
  rw [List.length_append]
  exact sp_unique (by omega) (by rw [Nat.pow_succ]; omega)
 rw [rt40_big (by rw [List.length_append]; omega) (by rw [List.length_append]; omega), hs, ← h, List.take_left, List.drop_left]
theorem stk_len {j k : Nat} {ps l : List Vh} (h : Stk j k ps l) : l.length = k * 2 ^ j := by
 induction h with
 | zero j => simp
 | @even j k ps l _ ih => rw [ih, Nat.pow_succ, Nat.mul_comm (2 ^ j) 2, ← Nat.mul_assoc, Nat.mul_comm k 2]
 | @odd j k ps l1 l2 h2 _ ih => rw [List.length_append, ih, h2, Nat.add_mul, Nat.pow_succ, Nat.one_mul, Nat.mul_comm (2 ^ j) 2, ← Nat.mul_assoc, Nat.mul_comm k 2]
theorem stk_fold {j k : Nat} {ps l : List Vh} (h : Stk j k ps l) : ∀ t : List Vh, 1 ≤ t.length → t.length ≤ 2 ^ j → l.length + t.length ≤ 512 → ps.foldl (fun r p => node p r) (rt 40 t) = rt 40 (l ++ t) := by
 induction h with
 | zero j => intro t _ _ _; rw [List.foldl_nil, List.nil_append]
 | even _ ih => intro t h1 h2 h3; exact ih t h1 (by rw [Nat.pow_succ]; omega) h3
 | odd hl _ ih =>
   intro t h1 h2 h3
   rw [List.length_append] at h3
   rw [List.foldl_cons, ← rt_cat hl h1 h2 (by omega), ih _ (by rw [List.length_append]; omega) (by rw [List.length_append, Nat.pow_succ]; omega) (by rw [List.length_append]; omega), List.append_assoc]
theorem stk_root {j k : Nat} {p : Vh} {ps l : List Vh} (h : Stk j k (p :: ps) l) (hb : l.length ≤ 512) : ps.foldl (fun r p => node p r) p = rt 40 l := by
 generalize hq : p :: ps = q at h
 induction h with
 | zero j => cases hq
 | even _ ih => exact ih hb hq
 | @odd j' k' ps' l1 l2 hl hs _ =>
   cases hq
   have h0 : 1 ≤ 2 ^ j' := Nat.one_le_two_pow
   rw [List.length_append] at hb
   exact stk_fold hs l2 (by omega) (by rw [Nat.pow_succ]; omega) hb
theorem clone_vh (l : List Vh) (h : l.length ≤ 900) : slices_Clone 1000 l = some l := by
 have hb : l.length * 32 ≤ 140737488355328 := by omega
 exact guardO_pos hb
theorem stk_ps {j k : Nat} {ps l : List Vh} (h : Stk j k ps l) : ps.length ≤ l.length := by
 induction h with
 | zero j => simp
 | even _ ih => exact ih
 | odd hl _ ih =>
   rename_i j' k' _ _ _ _
   have h0 : 1 ≤ 2 ^ j' := Nat.one_le_two_pow
   rw [List.length_cons, List.length_append]; omega
theorem add_ok (x : Vh) (l pk : List Vh) (n : Nat) (hs : Stk 0 n pk.reverse l) (hb : l.length ≤ 100) :
 ∃ pk', front_Front_Add 1000 (x, (n : Int), vgl_sha_keys, pk) = some (((n + 1 : Nat) : Int), ((n + 1 : Nat) : Int), pk') ∧ Stk 0 (n + 1) pk'.reverse (l ++ [x]) := by
 have hn := stk_len hs
 have hp := stk_ps hs
 rw [List.length_reverse] at hp
 rw [Nat.pow_zero, Nat.mul_one] at hn
 suffices hk : ∃ r, front_Front_Add 1000 (x, (n : Int), vgl_sha_keys, pk) = some r ∧ ∃ pk', r = (((n + 1 : Nat) : Int), ((n + 1 : Nat) : Int), pk') ∧ Stk 0 (n + 1) pk'.reverse (l ++ [x]) by
  obtain ⟨_, h1, pk', rfl, h2⟩ := hk
  exact ⟨pk', h1, h2⟩
 unfold front_Front_Add
 dsimp only
 rw [ige_f (show (n : Int) < 1099511627776 by omega), condO_false, clone_vh pk (by omega), Option.bind_some]
 refine loop_bindE (fun d h => ∃ (j k : Nat) (ps l' blk : List Vh), h = ((k : Int), rt 40 blk, ps.reverse) ∧ blk.length = 2 ^ j ∧ Stk j k ps l' ∧ l' ++ blk = l ++ [x] ∧ k < 2 ^ d ∧ d ≤ 10 ∧ ps.length ≤ 100 ∧ ∀ Q, Stk j (k + 1) Q (l ++ [x]) → Stk 0 (n + 1) Q (l ++ [x])) (fun e : Vh × List Vh => Stk 0 (n + 1) (e.1 :: e.2.reverse) (l ++ [x]) ∧ e.2.length ≤ 100) 10 (by omega)
  ⟨0, n, pk.reverse, l, [x], by rw [rt_small (by simp), List.reverse_reverse]; rfl, rfl, hs, rfl, by show n < 1024; omega, Nat.le_refl 10, by rw [List.length_reverse]; omega, fun Q h => h⟩ ?_ ?_
 ·rintro d _ ⟨j, k, ps, l', blk, rfl, h1, h2, h3, h4, h5, h6, h7⟩
  dsimp only
  rw [guardO_pos (show nz 2 by decide)]
  have em : Int.tmod (k : Int) 2 = ((k % 2 : Nat) : Int) := rfl
  rw [em]
  have htot := congrArg List.length h3
  simp only [List.length_append, List.length_singleton] at htot
  cases h2 with
  | zero =>
    rw [ieq_t (by rfl), condO_true]
    refine .out ⟨?_, by simp⟩
    rw [List.reverse_reverse]
    rw [List.nil_append] at h3
    refine h7 _ ?_
    have := Stk.odd (j := j) (k := 0) (l2 := blk) h1 (Stk.zero (j + 1))
    rw [List.nil_append] at this
    rw [← h3]
    exact this
  | even hs' =>
    rename_i k'
    rw [ieq_t (by omega), condO_true]
    refine .out ⟨?_, by simpa using h6⟩
    rw [List.reverse_reverse]
    refine h7 _ ?_
    have := Stk.odd (j := j) (k := k') (l2 := blk) h1 hs'
    rw [h3] at this
    exact this
  | odd hl hs' =>
    rename_i k' ps' l1 l2
    rw [ieq_f (by omega), condO_false]
    have hlen : (rt 40 l2 :: ps').reverse.length = ps'.length + 1 := by simp
    have e1 : WK .i64 (llen (rt 40 l2 :: ps').reverse - 1) = ((ps'.length : Nat) : Int) := by
     have : llen (rt 40 l2 :: ps').reverse = (ps'.length : Int) + 1 := by unfold llen; rw [hlen]; omega
     rw [this, wk_i64 (by omega) (by simp at h6; omega)]; omega
    have e2 : at_ TV (rt 40 l2 :: ps').reverse ((ps'.length : Nat) : Int) = rt 40 l2 := by
     rw [at_nat (t := TV) (by rw [hlen]; omega)]
     simp
    have e3 : (rt 40 l2 :: ps').reverse.take ps'.length = ps'.reverse := by
     rw [List.reverse_cons, List.take_left' (by simp)]
    obtain ⟨d, rfl⟩ : ∃ d', d = d' + 1 := by
     cases d with
     | zero => rw [Nat.pow_zero] at h4; omega
     | succ d => exact ⟨d, rfl⟩
    have ek : WK .i64 (Int.tdiv ((2 * k' + 1 : Nat) : Int) 2) = (k' : Int) := by
     show WK .i64 (((2 * k' + 1) / 2 : Nat) : Int) = _
     rw [show (2 * k' + 1) / 2 = k' by omega]
     have : 2 ^ (d + 1) ≤ 2 ^ 10 := Nat.pow_le_pow_right (by omega) h5
     exact wk_nat (by omega)
    have hpw : 2 ^ (d + 1) = 2 * 2 ^ d := by rw [Nat.pow_succ, Nat.mul_comm]
    rw [e1, e2, guardO_pos ⟨by omega, by unfold llen; rw [hlen]; omega⟩, guardO_pos (node_cat1 _), guardO_pos (node_cat2 _ _), node_sha, Option.bind_some]
    rw [guardO_pos (show tkOk _ _ from ⟨by omega, by unfold llen; rw [hlen]; omega⟩), guardO_pos (show nz 2 by decide), ltake_nat, e3, ek]
    simp only [List.length_append] at htot
    have hj0 : 1 ≤ 2 ^ j := Nat.one_le_two_pow
    refine .on d (by omega) ⟨j + 1, k', ps', l1, l2 ++ blk, ?_, by rw [List.length_append, hl, h1, Nat.pow_succ]; omega, hs', by rw [← List.append_assoc]; exact h3, by omega, by omega, by simp at h6; omega, fun Q hQ => h7 Q (by have := Stk.even hQ; rw [show 2 * (k' + 1) = 2 * k' + 1 + 1 by omega] at this; exact this)⟩
    rw [rt_cat hl (by omega) (by omega) (by omega)]
 ·rintro ⟨y, ps⟩ ⟨h1, h2⟩
  dsimp only at h1 h2 ⊢
  have e1 : WK .i64 ((n : Int) + 1) = ((n + 1 : Nat) : Int) := by rw [wk_i64 (by omega) (by omega)]; omega
  refine ⟨_, (guardO_pos (show appOk ps [y] 32 by unfold appOk; simp; omega)).trans rfl, ps ++ [y], ?_, ?_⟩
  ·rw [e1]
  ·rw [List.reverse_append]; exact h1
structure Inv (all : List Fz) (lv : List Vh) (n : Int) (pk : List Vh) : Prop where
 lv_eq : lv = all.map lfF
 n_eq : n = (all.length : Int)
 stk : Stk 0 all.length pk.reverse lv
 may : ∀ g ∈ all, mayF g.1 g.2.1
theorem inv_nil : Inv [] [] 0 [] := ⟨rfl, rfl, Stk.zero 0, fun g h => by cases h⟩
def lastW (all : List Fz) : Int := (all.getLast?.map (·.1)).getD (-1)
theorem last_at {all : List Fz} (h : all ≠ []) : (at_ TF all ((all.length - 1 : Nat) : Int)).1 = lastW all := by
 have hl : 0 < all.length := List.length_pos_iff.2 h
 rw [at_nat (t := TF) (by omega)]
 unfold lastW
 rw [List.getLast?_eq_getElem?, List.getElem?_eq_getElem (by omega)]
 rfl
theorem last_ix {all : List Fz} (h : all ≠ []) (hb : all.length ≤ 1000) : WK .i64 (llen all - 1) = ((all.length - 1 : Nat) : Int) := by
 have hl : 0 < all.length := List.length_pos_iff.2 h
 rw [wk_i64 (by unfold llen; omega) (by unfold llen; omega)]
 unfold llen; omega
theorem anchor_go {w c : Int} (r : Vh) (h : mayF w c) {all : List Fz} {lv : List Vh} {n : Int} {pk : List Vh} (I : Inv all lv n pk) (hb : all.length ≤ 60) (hw : lastW all < w) :
 ∃ lv' n' pk', super_Super_Anchor 1000 (w, c, r, vgl_sha_keys, all, lv, n, pk) = some ((all.length : Int), 0, n', all ++ [(w, c, r)], lv', pk') ∧ Inv (all ++ [(w, c, r)]) lv' n' pk' := by
 have hlv : lv.length = all.length := by rw [I.lv_eq, List.length_map]
 obtain ⟨pk', h1, h2⟩ := add_ok (lfF (w, c, r)) lv pk all.length I.stk (by omega)
 refine ⟨lv ++ [lfF (w, c, r)], ((all.length + 1 : Nat) : Int), pk', ?_, ⟨by rw [I.lv_eq, List.map_append]; rfl, by simp, by rw [List.length_append]; exact h2, fun g hg => ?_⟩⟩
 ·unfold super_Super_Anchor
  refine bind_of (fz_yes h r) ?_
  dsimp only
  have key : (condO (ine (0 : Int) 0) (some (.inl ((0 : Int), (1 : Int)))) (condO (igt (llen all) 0) (guardO ((inR (WK .i64 ((llen all) - 1)) (llen all))) (condO (ile w (at_ T0 all (WK .i64 ((llen all) - 1))).1) (some (.inl (0, 13))) (some (.inr (()))))) (some (.inr (())))) : Option ((Int × Int) ⊕ (Unit))) = some (.inr ()) := by
   rw [ine_f (rfl : (0 : Int) = 0), condO_false]
   by_cases hne : all = []
   ·subst hne; rfl
   ·have hl : 0 < all.length := List.length_pos_iff.2 hne
    rw [igt_t (show 0 < llen all by unfold llen; omega), condO_true, last_ix hne (by omega), guardO_pos ⟨by omega, by unfold llen; omega⟩]
    have e : (at_ T0 all ((all.length - 1 : Nat) : Int)).1 = lastW all := last_at hne
    rw [e, ile_f hw, condO_false]
  refine bind_of key ?_
  rw [caseS_inr]
  refine bind_of (fz_yes h r) (bind_of (leaf_sha h r) ?_)
  have t1 : ltake (llen all) all = all := by unfold ltake llen; rw [Int.toNat_natCast, List.take_length]
  have t2 : ltake (llen lv) lv = lv := by unfold ltake llen; rw [Int.toNat_natCast, List.take_length]
  rw [t1, t2]
  refine (guardO_pos ⟨by omega, by unfold llen; omega, by omega, rfl⟩).trans ?_
  refine (guardO_pos (show appOk _ _ _ from by unfold appOk; simp; omega)).trans ?_
  refine (guardO_pos ⟨by omega, by unfold llen; omega, by omega, rfl⟩).trans ?_
  refine (guardO_pos (show appOk _ _ _ from by unfold appOk; simp; omega)).trans ?_
  rw [I.n_eq]
  refine bind_of h1 ?_
  dsimp only
  rw [wk_i64 (x := ((all.length + 1 : Nat) : Int) - 1) (by omega) (by omega)]
  congr 2
  omega
 ·rcases List.mem_append.1 hg with hg | hg
  ·exact I.may g hg
  ·rw [List.mem_singleton] at hg; subst hg; exact h
theorem find_ok (all : List Fz) (w : Int) (lv : List Vh) (n : Int) (pk : List Vh) (hb : all.length ≤ 900) :
 (∃ (i : Nat) (h : i < all.length), super_Super_Find 1000 (w, all, lv, n, pk) = some ((i : Int), true) ∧ (all[i]).1 = w ∧ ∀ j (hj : j < i), (all[j]'(by omega)).1 ≠ w) ∨
 (super_Super_Find 1000 (w, all, lv, n, pk) = some (0, false) ∧ ∀ g ∈ all, g.1 ≠ w) := by
 have key : ∃ r, slices_IndexFunc_2 1000 (all, w) = some r ∧ ((∃ (i : Nat) (h : i < all.length), r = (i : Int) ∧ (all[i]).1 = w ∧ ∀ j (hj : j < i), (all[j]'(by omega)).1 ≠ w) ∨ (r = -1 ∧ ∀ g ∈ all, g.1 ≠ w)) := by
  unfold slices_IndexFunc_2
  dsimp only
  refine loop_bindE (fun d h => ∃ i : Nat, h = (i : Int) ∧ i + d = all.length ∧ ∀ j (hj : j < all.length), j < i → (all[j]).1 ≠ w) (fun e : Int ⊕ Unit => match e with | .inl r => ∃ (i : Nat) (h : i < all.length), r = (i : Int) ∧ (all[i]).1 = w ∧ ∀ j (hj : j < i), (all[j]'(by omega)).1 ≠ w | .inr _ => ∀ g ∈ all, g.1 ≠ w) all.length (by omega) ⟨0, rfl, by omega, fun j _ h => by omega⟩ ?_ ?_
  ·rintro d _ ⟨i, rfl, hi, hf⟩
   by_cases a : i < all.length
   ·have e1 : at_ T0 all (i : Int) = all[i] := at_nat (t := TF) a
    rw [ilt_t (show (i : Int) < llen all by unfold llen; omega), condO_true, guardO_pos ⟨by omega, by unfold llen; omega⟩, e1]
    by_cases b : (all[i]).1 = w
    ·rw [ieq_t b, condO_true]
     exact .out ⟨i, a, rfl, b, fun j hj => hf j (by omega) hj⟩
    ·rw [ieq_f b, condO_false, wk_i64 (by omega) (by omega)]
     exact .on (d - 1) (by omega) ⟨i + 1, by omega, by omega, fun j hj hlt => by
      rcases Nat.lt_or_ge j i with h | h
      ·exact hf j hj h
      ·obtain rfl : j = i := by omega
       exact b⟩
   ·rw [ilt_f (show llen all ≤ (i : Int) by unfold llen; omega), condO_false]
    refine .out ?_
    show ∀ g ∈ all, g.1 ≠ w
    intro g hg
    obtain ⟨j, hj, rfl⟩ := List.mem_iff_getElem.1 hg
    exact hf j hj (by omega)
  ·rintro (r | u) h
   ·exact ⟨r, rfl, .inl h⟩
   ·exact ⟨-1, rfl, .inr ⟨rfl, h⟩⟩
 obtain ⟨r, h1, h2⟩ := key
 have e : super_Super_Find 1000 (w, all, lv, n, pk) = some (mxI r 0, ige r 0) := bind_of h1 rfl
 rcases h2 with ⟨i, h, rfl, h3, h4⟩ | ⟨rfl, h3⟩
 ·refine .inl ⟨i, h, ?_, h3, h4⟩
  rw [e, ige_t (by omega)]
  unfold mxI
  rw [if_neg (by omega)]
 ·exact .inr ⟨e, h3⟩
def nodeStep (h p : Vh) : Option Vh := guardO ((catOk ⟨#[1]⟩ (strOfNums (Vector.toList p)))) (guardO ((catOk (⟨#[1]⟩ ++ (strOfNums (Vector.toList p))) (strOfNums (Vector.toList h)))) ((sha_Of 1000 (([((⟨#[1]⟩ ++ (strOfNums (Vector.toList p))) ++ (strOfNums (Vector.toList h)))] : List ByteArray), vgl_sha_keys)).bind fun r1 => some (r1)))
theorem nodeStep_ok (h p : Vh) : nodeStep h p = some (node p h) := by
 unfold nodeStep
 rw [guardO_pos (node_cat1 _), guardO_pos (node_cat2 _ _), node_sha, Option.bind_some]
theorem fold_node : ∀ (l : List Vh) (r : Vh), foldL l nodeStep r = some (l.foldl (fun r p => node p r) r)
 | [], r => by simp [foldL]
 | p :: l, r => by
   simp only [foldL]
   rw [nodeStep_ok, Option.bind_some, fold_node l, List.foldl_cons]
theorem froot_ok {all : List Fz} {lv : List Vh} {n : Int} {pk : List Vh} (I : Inv all lv n pk) (h0 : all ≠ []) (hb : all.length ≤ 500) : front_Front_Root 1000 (n, vgl_sha_keys, pk) = some (rt 40 lv) := by
 have hl : 0 < all.length := List.length_pos_iff.2 h0
 have hlv : lv.length = all.length := by rw [I.lv_eq, List.length_map]
 have hps := stk_ps I.stk
 rw [List.length_reverse] at hps
 obtain ⟨p, ps, hpk⟩ : ∃ p ps, pk.reverse = p :: ps := by
  cases hq : pk.reverse with
  | nil =>
    have := I.stk
    rw [hq] at this
    have key : ∀ {j k : Nat} {ps l : List Vh}, Stk j k ps l → ps = [] → k = 0 := by
     intro j k ps l h
     induction h with
     | zero j => intro _; rfl
     | even _ ih => intro e; rw [ih e]
     | odd _ _ _ => intro e; cases e
    have := key this rfl
    omega
  | cons p ps => exact ⟨p, ps, rfl⟩
 have hst := I.stk
 rw [hpk] at hst
 have hroot := stk_root hst (by omega)
 have hpk2 : pk = ps.reverse ++ [p] := by
  have := congrArg List.reverse hpk
  simpa using this
 have hpl : pk.length = ps.length + 1 := by rw [hpk2]; simp
 unfold front_Front_Root
 dsimp only
 have e1 : WK .i64 (llen pk - 1) = ((ps.length : Nat) : Int) := by
  rw [wk_i64 (by unfold llen; omega) (by unfold llen; omega)]
  unfold llen; omega
 have e2 : at_ T1 pk ((ps.length : Nat) : Int) = p := by
  rw [at_nat (t := TV) (by omega)]
  simp [hpk2]
 have e3 : pk.take ps.length = ps.reverse := by rw [hpk2, List.take_left' (by simp)]
 rw [ieq_f (show n ≠ 0 by rw [I.n_eq]; omega), condO_false, e1, guardO_pos ⟨by omega, by unfold llen; omega⟩, guardO_pos ⟨by omega, by omega, by unfold llen; omega, rfl⟩, ltake_nat, e3, e2]
 have hf : foldL (backL ps.reverse) (fun h q => nodeStep h q.2) p = some (rt 40 lv) := by
  rw [foldL_back, fold_node, List.reverse_reverse, hroot]
 exact bind_of hf (Eq.refl (some (rt 40 lv)))
def pdL (key : List UInt8) : List UInt8 := key ++ List.replicate (64 - key.length) 0
theorem pdL_len {key : List UInt8} (h : key.length ≤ 64) : (pdL key).length = 64 := by
 unfold pdL; rw [List.length_append, List.length_replicate]; omega
theorem blen_mkB' (l : List UInt8) : blen (mkB l) = (l.length : Int) := by
 show ((mkB l).size : Int) = _
 rw [mkB_size]
theorem rpad_ok (key : List UInt8) (h : key.length ≤ 64) : ref03_Pad 1000 (mkB key) = some (mkB (pdL key)) := by
 unfold ref03_Pad
 refine bind_of (a := mkB key) ((congrArg (condO · _ _) (igt_f (show blen (mkB key) ≤ 64 by rw [blen_mkB']; omega))).trans (condO_false _ _)) ?_
 refine bind_of (loopK_run (fun i : Nat => mkB (key ++ List.replicate i 0)) (64 - key.length) (mkB (pdL key)) 1000 (fun i hi => ?_) ?_ (by omega) |> fun h => (by simpa using h)) rfl
 ·have hl : (key ++ List.replicate i (0 : UInt8)).length = key.length + i := by simp
  have e : mkB (key ++ List.replicate i 0) ++ ⟨#[0]⟩ = mkB (key ++ List.replicate (i + 1) 0) := by
   rw [show (⟨#[0]⟩ : ByteArray) = mkB [0] from rfl, mkB_app, List.append_assoc, List.replicate_succ']
  rw [ilt_t (show blen (mkB (key ++ List.replicate i 0)) < 64 by rw [blen_mkB', hl]; omega), condO_true, guardO_pos (cat_mkB (b := [0]) (by simp; omega)), e]
 ·rw [ilt_f (show 64 ≤ blen (mkB (key ++ List.replicate (64 - key.length) 0)) by rw [blen_mkB']; simp; omega), condO_false]
  rfl
def xb (c : Int) (b : UInt8) : Int := xorK .u8 (b.toNat : Int) c
def xorL (l : List UInt8) (c : Int) : List UInt8 := l.map fun b => UInt8.ofNat (xb c b).toNat
theorem xorL_len (l : List UInt8) (c : Int) : (xorL l c).length = l.length := by simp [xorL]
theorem rxor_ok (l : List UInt8) (c : Int) (h : l.length ≤ 900) : ref03_xor 1000 (mkB l, c) = some (mkB (xorL l c)) := by
 unfold ref03_xor
 dsimp only
 rw [blen_mkB', guardO_pos (show mkOk (l.length : Int) (l.length : Int) 1 from ⟨by omega, rfl, by rw [Int.toNat_natCast]; omega, by omega⟩)]
 refine bind_of (loopK_run (fun i : Nat => ((i : Int), (l.take i).map (xb c) ++ List.replicate (l.length - i) 0)) l.length (l.map (xb c)) 1000 (fun i hi => ?_) ?_ (by omega) |> fun h => (by simpa [lrep] using h)) ?_
 ·dsimp only
  have e1 : sAt (mkB l) (i : Int) = (l[i].toNat : Int) := by
   rw [sAt_mkB, Int.toNat_natCast, List.getD_eq_getElem?_getD, List.getElem?_eq_getElem hi]; rfl
  have hln : ((l.take i).map (xb c) ++ List.replicate (l.length - i) 0).length = l.length := by simp; omega
  rw [ilt_t (by omega), condO_true, guardO_pos ⟨by omega, by omega⟩, guardO_pos ⟨by omega, by unfold llen; omega⟩, e1, wk_i64 (by omega) (by omega)]
  have e2 : lset ((l.take i).map (xb c) ++ List.replicate (l.length - i) 0) (i : Int) (xorK .u8 (l[i].toNat : Int) c) = (l.take (i + 1)).map (xb c) ++ List.replicate (l.length - (i + 1)) 0 := by
   unfold lset
   rw [Int.toNat_natCast, List.set_append_right _ _ (by simp; omega)]
   have e3 : i - ((l.take i).map (xb c)).length = 0 := by simp; omega
   rw [e3, show l.length - i = (l.length - (i + 1)) + 1 by omega, List.replicate_succ, List.set_cons_zero, List.take_add_one, List.getElem?_eq_getElem hi, List.map_append]
   simp [xb]
  rw [e2]
  rfl
 ·dsimp only
  rw [ilt_f (by omega), condO_false]
  simp
 ·show some (strOfNums (l.map (xb c))) = _
  rw [nums_mkB, List.map_map]
  rfl
def macL (key t : List UInt8) : Vh := hsh (xorL (pdL key) 92 ++ vb (hsh (xorL (pdL key) 54 ++ t)))
theorem rmac_ok (key t : List UInt8) (hk : key.length ≤ 64) (ht : t.length ≤ 40000) : ref03_Of 1000 (mkB key, mkB t) = some (macL key t) := by
 have hp := pdL_len hk
 have hx := fun c => xorL_len (pdL key) c
 unfold ref03_Of
 dsimp only
 refine bind_of (rpad_ok key hk) (bind_of (rxor_ok _ _ (by omega)) ?_)
 refine (guardO_pos (cat_mkB (by rw [hx, hp]; omega))).trans ?_
 rw [mkB_app]
 refine bind_of (ref_of _ (by rw [List.length_append, hx, hp]; omega)) (bind_of (rxor_ok _ _ (by omega)) ?_)
 rw [vb_str]
 refine (guardO_pos (cat_mkB (by rw [hx, hp, vb_len]; omega))).trans ?_
 rw [mkB_app]
 exact bind_of (ref_of _ (by rw [List.length_append, hx, hp, vb_len]; omega)) rfl
theorem mpad_ok (key : List UInt8) (h : key.length ≤ 64) : mac_Pad 1000 (mkB key, vgl_sha_keys) = some (mkB (pdL key)) := by
 unfold mac_Pad
 dsimp only
 refine bind_of (a := mkB key) ((congrArg (condO · _ _) (igt_f (show blen (mkB key) ≤ 64 by rw [blen_mkB']; omega))).trans (condO_false _ _)) ?_
 have e : WK .i64 (64 - blen (mkB key)) = ((64 - key.length : Nat) : Int) := by rw [blen_mkB', wk_i64 (by omega) (by omega)]; omega
 rw [e]
 refine bind_of (rep_ok (n := 64 - key.length) (by omega)) ?_
 refine (guardO_pos (cat_mkB (by simp; omega))).trans ?_
 rw [mkB_app]
 rfl
theorem bytes_nums (l : List UInt8) : bytesOfStr (mkB l) = l.map fun b => (b.toNat : Int) := rfl
theorem begun_ok (c : Int) (l : List UInt8) (h : l.length = 64) : mac_begun_1_1 1000 (c, mkB l, vgl_sha_keys) = some (hState (xorL l c)) := by
 unfold mac_begun_1_1
 dsimp only
 refine (guardO_pos (show lenOk (mkB l) from by unfold lenOk; rw [mkB_size]; omega)).trans ?_
 rw [bytes_nums]
 have hll : llen (l.map fun b => (b.toNat : Int)) = 64 := by unfold llen; simp [h]
 rw [hll]
 refine bind_of (loopK_run (fun i : Nat => ((i : Int), (l.take i).map (xb c) ++ (l.drop i).map fun b => (b.toNat : Int))) 64 (l.map (xb c)) 1000 (fun i hi => ?_) ?_ (by omega) |> fun h => (by simpa using h)) ?_
 ·have hil : i < l.length := by omega
  have hlen : ((l.take i).map (xb c) ++ (l.drop i).map fun b => (b.toNat : Int)).length = 64 := by simp; omega
  have hin : inR (i : Int) (llen ((l.take i).map (xb c) ++ (l.drop i).map fun b => (b.toNat : Int))) := ⟨by omega, by unfold llen; rw [hlen]; omega⟩
  have e1 : at_ (.int .u8) ((l.take i).map (xb c) ++ (l.drop i).map fun b => (b.toNat : Int)) (i : Int) = (l[i].toNat : Int) := by
   rw [at_nat (t := .int .u8) (by rw [hlen]; omega), List.getElem_append_right (by simp; omega)]
   simp [Nat.min_eq_left (Nat.le_of_lt hil)]
  dsimp only
  rw [ilt_t (by omega), condO_true, guardO_pos hin, guardO_pos hin, e1, wk_i64 (by omega) (by omega)]
  have e2 : lset ((l.take i).map (xb c) ++ (l.drop i).map fun b => (b.toNat : Int)) (i : Int) (xorK .u8 (l[i].toNat : Int) c) = (l.take (i + 1)).map (xb c) ++ (l.drop (i + 1)).map fun b => (b.toNat : Int) := by
   unfold lset
   rw [Int.toNat_natCast, List.set_append_right _ _ (by simp; omega)]
   have e3 : i - ((l.take i).map (xb c)).length = 0 := by simp; omega
   rw [e3, List.drop_eq_getElem_cons hil, List.map_cons, List.set_cons_zero, List.take_add_one, List.getElem?_eq_getElem hil, List.map_append]
   simp [xb]
  rw [e2]
  rfl
 ·dsimp only
  rw [ilt_f (by omega), condO_false, List.take_of_length_le (by omega), List.drop_eq_nil_of_le (by omega), List.map_nil, List.append_nil]
 ·have e4 : strOfNums (l.map (xb c)) = mkB (xorL l c) := by rw [nums_mkB, List.map_map]; rfl
  rw [e4]
  exact bind_of (write_first (xorL l c) (by rw [xorL_len]; omega) _) rfl
theorem msum_ok (t A B : List UInt8) (ht : t.length ≤ 40000) (hA : A.length = 64) (hB : B.length = 64) :
 mac_Maker_Sum 1000 (([mkB t] : List ByteArray), vgl_sha_keys, (hState A).1, (hState A).2.1, (hState A).2.2.1, (hState A).2.2.2, (hState B).1, (hState B).2.1, (hState B).2.2.1, (hState B).2.2.2) = some (hsh (B ++ vb (hsh (A ++ t)))) := by
 unfold mac_Maker_Sum
 dsimp only
 refine bind_of (a := hState (A ++ t)) ?_ ?_
 ·refine loopK_run (fun i : Nat => ((i : Int), if i = 0 then hState A else hState (A ++ t))) 1 _ 1000 (fun i hi => ?_) ?_ (by omega)
  ·obtain rfl : i = 0 := by omega
   rw [if_pos rfl, if_neg (by decide)]
   dsimp only
   rw [ilt_t (show ((0 : Nat) : Int) < llen [mkB t] by unfold llen; simp), condO_true, guardO_pos ⟨by omega, by unfold llen; simp⟩]
   have e1 : at_ .str ([mkB t] : List ByteArray) ((0 : Nat) : Int) = mkB t := rfl
   rw [e1, write_next A t (by omega), Option.bind_some]
   rfl
  ·rw [if_neg (by decide)]
   dsimp only
   rw [ilt_f (show llen [mkB t] ≤ ((1 : Nat) : Int) by unfold llen; simp), condO_false]
 ·have hs1 := sum_ok (hState (A ++ t)) (A ++ t) (by simp; omega) (.inl rfl)
  refine bind_of hs1 ?_
  rw [vb_str]
  refine bind_of (write_next B (vb (hsh (A ++ t))) (by rw [vb_len]; omega)) ?_
  exact bind_of (sum_ok (hState (B ++ vb (hsh (A ++ t)))) _ (by rw [List.length_append, vb_len]; omega) (.inl rfl)) rfl
def headL (n : Nat) (r : Vh) (t : Int) : List UInt8 := ([72] ++ putL n) ++ (putL 32 ++ vb r) ++ putL t.toNat
theorem stk_nil : ∀ {j k : Nat} {ps l : List Vh}, Stk j k ps l → ps = [] → k = 0 := by
 intro j k ps l h
 induction h with
 | zero j => intro _; rfl
 | even _ ih => intro e; rw [ih e]
 | odd _ _ _ => intro e; cases e
theorem froot_all {lv pk : List Vh} (hs : Stk 0 lv.length pk.reverse lv) (hb : lv.length ≤ 500) : front_Front_Root 1000 ((lv.length : Int), vgl_sha_keys, pk) = some (rt 40 lv) := by
 unfold front_Front_Root
 dsimp only
 by_cases h0 : lv.length = 0
 ·have : lv = [] := List.eq_nil_of_length_eq_zero h0
  subst this
  rw [ieq_t (show (([] : List Vh).length : Int) = 0 from rfl), condO_true]
  have := sha_of [] (by simp) (by simp)
  refine bind_of (sha_of [] (by simp) (by simp)) ?_
  rw [rt_small (by simp)]; rfl
 ·have hps := stk_ps hs
  rw [List.length_reverse] at hps
  obtain ⟨p, ps, hpk⟩ : ∃ p ps, pk.reverse = p :: ps := by
   cases hq : pk.reverse with
   | nil =>
     rw [hq] at hs
     have := stk_nil hs rfl
     omega
   | cons p ps => exact ⟨p, ps, rfl⟩
  rw [hpk] at hs
  have hroot := stk_root hs (by omega)
  have hpk2 : pk = ps.reverse ++ [p] := by
   have := congrArg List.reverse hpk
   simpa using this
  have hpl : pk.length = ps.length + 1 := by rw [hpk2]; simp
  have e1 : WK .i64 (llen pk - 1) = ((ps.length : Nat) : Int) := by
   rw [wk_i64 (by unfold llen; omega) (by unfold llen; omega)]
   unfold llen; omega
  have e2 : at_ TV pk ((ps.length : Nat) : Int) = p := by
   rw [at_nat (t := TV) (by omega)]
   simp [hpk2]
  have e3 : pk.take ps.length = ps.reverse := by rw [hpk2, List.take_left' (by simp)]
  rw [ieq_f (show (lv.length : Int) ≠ 0 by omega), condO_false, e1, guardO_pos ⟨by omega, by unfold llen; omega⟩, guardO_pos ⟨by omega, by omega, by unfold llen; omega, rfl⟩, ltake_nat, e3, e2]
  have hf : foldL (backL ps.reverse) (fun h q => nodeStep h q.2) p = some (rt 40 lv) := by
   rw [foldL_back, fold_node, List.reverse_reverse, hroot]
  exact bind_of hf (Eq.refl (some (rt 40 lv)))
abbrev Rec := Int × Int × Int × ByteArray
def mayR (w i t : Int) (p : ByteArray) : Prop := (0 ≤ w ∧ w ≤ 1125899906842624) ∧ (0 ≤ t ∧ t ≤ 1125899906842624) ∧ (0 ≤ i ∧ i ≤ 3999) ∧ p.size ≤ 2000
def recL (r : Rec) : List UInt8 := (putL r.1.toNat ++ putL r.2.1.toNat) ++ (putL r.2.2.1.toNat ++ (putL r.2.2.2.size ++ r.2.2.2.data.toList))
theorem mkB_bytes (p : ByteArray) : mkB p.data.toList = p := by
 apply bytes_ext
 rfl
theorem bytes_len (p : ByteArray) : p.data.toList.length = p.size := by simp
theorem recL_len {w i t : Int} {p : ByteArray} (h : mayR w i t p) : (recL (w, i, t, p)).length ≤ 2040 := by
 obtain ⟨⟨h1, h2⟩, ⟨h3, h4⟩, ⟨h5, h6⟩, h7⟩ := h
 have a := put_small (x := w.toNat) (by omega)
 have b := put_small (x := i.toNat) (by omega)
 have c := put_small (x := t.toNat) (by omega)
 have d := put_small (x := p.size) (by omega)
 unfold recL
 simp only [List.length_append, bytes_len]
 omega
theorem check_yes {w i t : Int} {p : ByteArray} (h : mayR w i t p) : record_Check 1000 (w, i, t, p) = some 0 := by
 obtain ⟨⟨h1, h2⟩, ⟨h3, h4⟩, ⟨h5, h6⟩, h7⟩ := h
 unfold record_Check
 dsimp only
 rw [ige_t h1, condO_true, ile_t h2, Bool.not_true, condO_false, ige_t h3, condO_true, ile_t h4, Bool.not_true, condO_false, ige_t h5, condO_true, ile_t h6, Bool.not_true, condO_false, igt_f (show blen p ≤ 2000 by show ((p.size : Nat) : Int) ≤ 2000; omega), condO_false]
theorem rec_bytes {w i t : Int} {p : ByteArray} (h : mayR w i t p) : record_Bytes 1000 (w, i, t, p) = some (mkB (recL (w, i, t, p)), 0) := by
 have hc := check_yes h
 have hl := recL_len h
 obtain ⟨⟨h1, h2⟩, ⟨h3, h4⟩, ⟨h5, h6⟩, h7⟩ := h
 unfold recL at hl ⊢
 simp only [List.length_append, bytes_len] at hl
 unfold record_Bytes
 dsimp only
 refine bind_of hc ?_
 rw [ine_f (rfl : (0 : Int) = 0), condO_false]
 have e4 : octet_Put 1000 (WK .u64 (blen p)) = some (mkB (putL p.size)) := put_of (x := (p.size : Int)) (by omega) (by omega)
 refine bind_of (put_of h1 h2) (bind_of (put_of h5 (by omega)) ?_)
 refine (guardO_pos (cat_mkB (by omega))).trans ?_
 refine bind_of (put_of h3 h4) (bind_of e4 ?_)
 have hp := mkB_bytes p
 obtain ⟨pl, hpl⟩ : ∃ pl, pl = p.data.toList := ⟨_, rfl⟩
 have hpn : pl.length = p.size := by rw [hpl]; exact bytes_len p
 rw [← hpl] at hp ⊢
 rw [← hp]
 refine (guardO_pos (cat_mkB (by rw [hpn, hp]; omega))).trans ?_
 rw [mkB_app]
 refine (guardO_pos (cat_mkB (by rw [List.length_append, hpn, hp]; omega))).trans ?_
 rw [mkB_app, mkB_app]
 refine (guardO_pos (cat_mkB (by simp only [List.length_append]; rw [hpn, hp]; omega))).trans ?_
 rw [mkB_app]
def lfR (r : Rec) : Vh := hsh ([0] ++ recL r)
theorem rleaf_sha {w i t : Int} {p : ByteArray} (h : mayR w i t p) : sha_Of 1000 ([⟨#[0]⟩, mkB (recL (w, i, t, p))], vgl_sha_keys) = some (lfR (w, i, t, p)) := by
 have hl := recL_len h
 have := sha_of [[0], recL (w, i, t, p)] (by simp) (by simp; omega)
 simpa [lfR] using this
theorem put17 {w i t : Int} {p : ByteArray} (h : mayR w i t p) {lv pk : List Vh} {rows : List Rec} (s : Int) (a b : Int) (c : Vh) (d : Int) (e : Vh) (hs : Stk 0 lv.length pk.reverse lv) (hb : lv.length ≤ 60) (hr : rows.length ≤ 60) :
 ∃ pk', shard_Shard_put 1000 (w, i, t, p, w, s, a, b, c, d, e, vgl_sha_keys, lv, rows, (lv.length : Int), pk) = some (w, s, a, b, c, d, e, ((lv.length + 1 : Nat) : Int), lv ++ [lfR (w, i, t, p)], rows ++ [(w, i, t, p)], pk') ∧ Stk 0 (lv.length + 1) pk'.reverse (lv ++ [lfR (w, i, t, p)]) := by
 obtain ⟨pk', h1, h2⟩ := add_ok (lfR (w, i, t, p)) lv pk lv.length hs (by omega)
 refine ⟨pk', ?_, h2⟩
 unfold shard_Shard_put
 dsimp only
 refine bind_of (rec_bytes h) (bind_of (rleaf_sha h) ?_)
 have e1 : ltake (llen lv) lv = lv := by unfold llen; rw [ltake_nat, List.take_length]
 have e2 : ltake (llen rows) rows = rows := by unfold llen; rw [ltake_nat, List.take_length]
 rw [e1, e2, guardO_pos ⟨by omega, by unfold llen; omega, by unfold llen; omega, by unfold llen; omega⟩, guardO_pos (show appOk _ _ _ from by unfold appOk; simp; omega), guardO_pos ⟨by omega, by unfold llen; omega, by unfold llen; omega, by unfold llen; omega⟩, guardO_pos (show appOk _ _ _ from by unfold appOk; simp; omega)]
 exact bind_of h1 rfl
theorem add17 {w t : Int} {p : ByteArray} {lv pk : List Vh} {rows : List Rec} (h : mayR w (lv.length : Int) t p) (a b : Int) (c : Vh) (d : Int) (e : Vh) (hs : Stk 0 lv.length pk.reverse lv) (hb : lv.length ≤ 60) (hr : rows.length ≤ 60) :
 ∃ pk', shard_Shard_Add_2 1000 (t, p, w, 0, a, b, c, d, e, vgl_sha_keys, lv, rows, (lv.length : Int), pk) = some ((lv.length : Int), 0, w, 0, a, b, c, d, e, ((lv.length + 1 : Nat) : Int), lv ++ [lfR (w, (lv.length : Int), t, p)], rows ++ [(w, (lv.length : Int), t, p)], pk') ∧ Stk 0 (lv.length + 1) pk'.reverse (lv ++ [lfR (w, (lv.length : Int), t, p)]) := by
 obtain ⟨pk', h1, h2⟩ := put17 h 0 a b c d e hs hb hr
 refine ⟨pk', ?_, h2⟩
 unfold shard_Shard_Add_2
 dsimp only
 rw [ine_f (rfl : (0 : Int) = 0), condO_false, ige_f (show llen lv < 4000 by unfold llen; omega), condO_false]
 refine bind_of (check_yes h) ?_
 rw [ine_f (rfl : (0 : Int) = 0), condO_false]
 exact bind_of h1 rfl
theorem clone_rec (l : List Rec) (h : l.length ≤ 900) : slices_Clone_2 1000 l = some l := by
 have hb : l.length * 40 ≤ 140737488355328 := by omega
 exact guardO_pos hb
abbrev z32 : Vh := Vector.replicate 32 0
def stoneL (w c : Int) (r : Vh) (t : Int) : List UInt8 := ([84] ++ (putL (fzL w c r).length ++ fzL w c r)) ++ putL t.toNat
theorem stoneL_len {w c : Int} (h : mayF w c) (r : Vh) {t : Int} (h0 : 0 ≤ t) (h1 : t ≤ 1125899906842624) : (stoneL w c r t).length ≤ 100 := by
 have a := fzL_len h r
 have b := put_small (x := t.toNat) (by omega)
 have d := put_small (x := (fzL w c r).length) (by omega)
 unfold stoneL
 simp only [List.length_append, List.length_cons, List.length_nil]
 omega
theorem psays_ok {w c : Int} (h : mayF w c) (r : Vh) {t : Int} (h0 : 0 ≤ t) (h1 : t ≤ 1125899906842624) (m : Vh) : seal_stoneSays 1000 (w, c, r, t, m) = some (mkB (stoneL w c r t), 0) := by
 have a := fzL_len h r
 have b := put_small (x := t.toNat) (by omega)
 have d := put_small (x := (fzL w c r).length) (by omega)
 have hl := stoneL_len h r h0 h1
 unfold seal_stoneSays
 refine bind_of (fz_yes h r) ?_
 dsimp only
 rw [ine_f rfl, condO_false, ige_t h0, condO_true, ile_t h1, Bool.not_true, condO_false]
 have e1 : octet_Put 1000 (WK .u64 (blen (mkB (fzL w c r)))) = some (mkB (putL (fzL w c r).length)) := by
  rw [blen_mkB']
  exact put_of (x := ((fzL w c r).length : Int)) (by omega) (by omega)
 refine bind_of e1 ?_
 rw [guardO_pos (cat_mkB (by omega)), mkB_app]
 refine bind_of (put_of h0 h1) ?_
 refine bind_of (a := mkB (stoneL w c r t)) ?_ rfl
 show L_strings_Join 1000 _ = _
 unfold L_strings_Join
 have hj : Lib.join (([⟨#[84]⟩, mkB (putL (fzL w c r).length ++ fzL w c r), mkB (putL t.toNat)] : List ByteArray).map (·.data.toList)) (str0 : ByteArray).data.toList = stoneL w c r t := by
  simp [Lib.join, stoneL, mkB]
 have hb : (Lib.join (([⟨#[84]⟩, mkB (putL (fzL w c r).length ++ fzL w c r), mkB (putL t.toNat)] : List ByteArray).map (·.data.toList)) (str0 : ByteArray).data.toList).length ≤ 140737488355328 := by
  rw [hj]; omega
 refine (guardO_pos ⟨by simp, by simp, hb⟩).trans ?_
 exact congrArg (fun l => some (mkB l)) hj
theorem pbytes_ok {w c : Int} (h : mayF w c) (r : Vh) {t : Int} (h0 : 0 ≤ t) (h1 : t ≤ 1125899906842624) (m : Vh) : seal_StoneBytes 1000 (w, c, r, t, m) = some (mkB (stoneL w c r t ++ (putL 32 ++ vb m)), 0) := by
 have hl := stoneL_len h r h0 h1
 have d := put_small (x := 32) (by decide)
 unfold seal_StoneBytes
 refine bind_of (psays_ok h r h0 h1 m) ?_
 dsimp only
 rw [ine_f rfl, condO_false, vb_blen]
 refine bind_of (put_of (x := 32) (by decide) (by decide)) ?_
 refine (guardO_pos (cat_mkB (a := putL 32) (b := vb m) (by rw [vb_len]; omega))).trans ?_
 rw [vb_str, show mkB (putL (32 : Int).toNat) ++ mkB (vb m) = mkB (putL 32 ++ vb m) from mkB_app _ _]
 refine bind_of (a := mkB (stoneL w c r t ++ (putL 32 ++ vb m))) ?_ rfl
 show L_strings_Join 1000 _ = _
 unfold L_strings_Join
 have hj : Lib.join (([mkB (stoneL w c r t), mkB (putL 32 ++ vb m)] : List ByteArray).map (·.data.toList)) (str0 : ByteArray).data.toList = stoneL w c r t ++ (putL 32 ++ vb m) := by
  simp [Lib.join, mkB]
 have hb : (Lib.join (([mkB (stoneL w c r t), mkB (putL 32 ++ vb m)] : List ByteArray).map (·.data.toList)) (str0 : ByteArray).data.toList).length ≤ 140737488355328 := by
  rw [hj]; simp only [List.length_append, vb_len]; omega
 refine (guardO_pos ⟨by simp, by simp, hb⟩).trans ?_
 exact congrArg (fun l => some (mkB l)) hj
def cutN (k : Int) (n : Nat) : Nat := min k.toNat n
theorem strip_pruned {k w : Int} {lv pk : List Vh} {rows : List Rec} {n : Int} (a b : Int) (c : Vh) (d : Int) (e : Vh) (hr : rows.length ≤ 900) : shard_Shard_Strip 1000 (k, w, 2, a, b, c, d, e, lv, rows, n, pk) = some (((rows.length - cutN k rows.length : Nat) : Int), w, 2, a, b, c, d, e, lv, rows.take (rows.length - cutN k rows.length)) := by
 unfold shard_Shard_Strip
 dsimp only
 have e1 : mnI (mxI k 0) (llen rows) = ((cutN k rows.length : Nat) : Int) := by
  unfold mnI mxI cutN llen
  split <;> split <;> omega
 have hc : cutN k rows.length ≤ rows.length := Nat.min_le_right ..
 have e2 : WK .i64 (llen rows - mnI (mxI k 0) (llen rows)) = ((rows.length - cutN k rows.length : Nat) : Int) := by
  rw [e1, wk_i64 (by unfold llen; omega) (by unfold llen; omega)]; unfold llen; omega
 rw [e2]
 refine bind_of (a := (w, 2, a, b, c, d, e, lv, rows.take (rows.length - cutN k rows.length))) ((congrArg (condO · _ _) (ieq_t rfl)).trans ((condO_true _ _).trans ((guardO_pos ⟨by omega, by omega, by unfold llen; omega, by omega⟩).trans ?_))) ?_
 ·rw [ltake_nat]
  exact bind_of (clone_rec _ (by rw [List.length_take]; omega)) rfl
 ·dsimp only
  unfold llen
  rw [List.length_take, Nat.min_eq_left (by omega)]
theorem says_ok {w s : Int} {lv pk : List Vh} {rows : List Rec} (a b : Int) (c : Vh) (d : Int) (e : Vh) (hst : Stk 0 lv.length pk.reverse lv) (hb : lv.length ≤ 500) : shard_Shard_says 1000 (w, s, a, b, c, d, e, vgl_sha_keys, lv, rows, (lv.length : Int), pk) = some (w, (lv.length : Int), rt 40 lv) := by
 unfold shard_Shard_says
 exact bind_of (froot_all hst hb) rfl
theorem close_ok {w : Int} {lv pk : List Vh} {rows : List Rec} (a b : Int) (c : Vh) (d : Int) (e : Vh) (hst : Stk 0 lv.length pk.reverse lv) (hb : lv.length ≤ 500) (h0 : 1 ≤ lv.length) : shard_Shard_Close 1000 (w, 0, a, b, c, d, e, vgl_sha_keys, lv, rows, (lv.length : Int), pk) = some (w, (lv.length : Int), rt 40 lv, 0, w, 1, a, b, c, d, e, lv, rows) := by
 unfold shard_Shard_Close
 dsimp only
 rw [ine_f rfl, condO_false, ieq_f (show llen lv ≠ 0 by unfold llen; omega), condO_false]
 exact bind_of (says_ok a b c d e hst hb) rfl
theorem prune_ok {w t : Int} {m : Vh} {lv pk : List Vh} {rows : List Rec} (a b : Int) (c : Vh) (d : Int) (e : Vh) (hst : Stk 0 lv.length pk.reverse lv) (hb : lv.length ≤ 500) (hF : mayF w (lv.length : Int)) (h0 : 0 ≤ t) (h1 : t ≤ 1125899906842624) :
 shard_Shard_Prune 1000 (w, (lv.length : Int), rt 40 lv, t, m, w, 1, a, b, c, d, e, vgl_sha_keys, lv, rows, (lv.length : Int), pk) = some (0, w, 2, w, (lv.length : Int), rt 40 lv, t, m, lv, rows) := by
 unfold shard_Shard_Prune
 dsimp only
 rw [ine_f rfl, condO_false]
 refine bind_of (pbytes_ok hF _ h0 h1 m) ?_
 dsimp only
 rw [ine_f rfl, condO_false]
 refine bind_of (says_ok a b c d e hst hb) ?_
 dsimp only
 rw [sameI_self, ieq_t rfl, ieq_t rfl]
 rfl
theorem len_code (k : Nat) {n : Nat} (h0 : 2 ≤ n) (h : n ≤ 1099511627776) : bits_Len64 k (WK .u64 (WK .i64 ((n : Int) - 1))) = some ((Nat.log2 (n - 1) + 1 : Nat) : Int) := by
 rw [wk_i64 (by omega) (by omega), wk_u64 (by omega) (by omega)]
 show L_math_bits_Len64 k _ = _
 unfold L_math_bits_Len64
 rw [guardO_pos ⟨by omega, by omega⟩]
 have e : ((n : Int) - 1).toNat = n - 1 := by omega
 rw [e, bitLen_log2 (n - 1) (by omega) (by omega)]
theorem sp_code {n : Nat} (h0 : 2 ≤ n) (h : n ≤ 1099511627776) : WK .i64 (((Nat.log2 (n - 1) + 1 : Nat) : Int) - 1) = ((Nat.log2 (n - 1) : Nat) : Int) ∧ shlK .i64 1 ((Nat.log2 (n - 1) : Nat) : Int) = ((sp n : Nat) : Int) := by
 have := log2_le40 h0 h
 refine ⟨?_, shl_pow _ (by omega)⟩
 rw [wk_i64 (by omega) (by omega)]
 omega
def stp (w : Bool) : Nat → Nat → Nat → List (Bool × Nat × Nat)
 | 0, _, _ => []
 | d + 1, m, n => if n < 2 ∨ (w = true ∧ m = n) then [] else if m < sp n ∨ (w = true ∧ m = sp n) then (false, sp n, m) :: stp w d m (sp n) else (true, n - sp n, m - sp n) :: stp w d (m - sp n) (n - sp n)
theorem stp_len (w : Bool) : ∀ d m n, (stp w d m n).length ≤ d
 | 0, _, _ => by simp [stp]
 | d + 1, m, n => by
   have h1 := stp_len w d m (sp n)
   have h2 := stp_len w d (m - sp n) (n - sp n)
   simp only [stp]
   split
   ·simp
   ·split <;> simp <;> omega
abbrev cst3 (p : Bool × Nat × Nat) : Bool × Int × Int := (p.1, (p.2.1 : Int), (p.2.2 : Int))
def plc (w : Bool) (m n : Nat) : Prop := if w = true then 1 ≤ m ∧ m ≤ n else m < n
theorem stp_nil {w : Bool} {m n : Nat} (h : n < 2 ∨ (w = true ∧ m = n)) (d : Nat) : stp w d m n = [] := by
 cases d with
 | zero => rfl
 | succ d => simp only [stp, if_pos h]
theorem plc_left {w : Bool} {m n : Nat} (hp : plc w m n) (b : m < sp n ∨ (w = true ∧ m = sp n)) : plc w m (sp n) := by
 unfold plc at *
 cases w
 ·simp at b hp ⊢; exact b
 ·simp at b hp ⊢; omega
theorem plc_right {w : Bool} {m n : Nat} (h2 : 2 ≤ n) (hp : plc w m n) (b : ¬ (m < sp n ∨ (w = true ∧ m = sp n))) : plc w (m - sp n) (n - sp n) := by
 have := sp_spec h2
 unfold plc at *
 cases w
 ·simp at b hp ⊢; omega
 ·simp at b hp ⊢; omega
theorem down_ok {w : Bool} {m n : Nat} (hp : plc w m n) (hn : n ≤ 1099511627776) : path_down 1000 ((m : Int), (n : Int), w) = some ((stp w 40 m n).map cst3) := by
 obtain ⟨L, hL⟩ : ∃ L, L = (stp w 40 m n).map cst3 := ⟨_, rfl⟩
 rw [← hL]
 unfold path_down
 refine loop_bind (fun d h => ∃ (m n : Nat) (out : List (Bool × Int × Int)), h = ((m : Int), (n : Int), out) ∧ n ≤ 2 ^ d ∧ n ≤ 1099511627776 ∧ plc w m n ∧ out.length + d ≤ 40 ∧ out ++ (stp w d m n).map cst3 = L) (fun e => e.2.2 = L) 40 (by omega) ⟨m, n, [], rfl, hn, hn, hp, by simp, by simp [hL]⟩ ?_ (fun e he => by rw [he])
 clear hL hp hn
 rintro d _ ⟨m, n, out, rfl, h1, h2, h3, h4, h5⟩
 dsimp only
 by_cases a : n < 2 ∨ (w = true ∧ m = n)
 ·have e1 : (condO (ilt (n : Int) 2) (some (.inl ())) (condO w (condO (ieq (m : Int) (n : Int)) (some (.inl ())) (some (.inr (())))) (some (.inr (())))) : Option ((Unit) ⊕ (Unit))) = some (.inl ()) := by
   by_cases a1 : n < 2
   ·rw [ilt_t (by omega), condO_true]
   ·obtain ⟨rfl, rfl⟩ := a.resolve_left a1
    rw [ilt_f (by omega), condO_false, condO_true, ieq_t rfl, condO_true]
  rw [e1]
  simp only [Option.bind_some, caseS_inl]
  refine .out ?_
  rw [stp_nil a] at h5
  simpa using h5
 ·have a1 : 2 ≤ n := by omega
  have e1 : (condO (ilt (n : Int) 2) (some (.inl ())) (condO w (condO (ieq (m : Int) (n : Int)) (some (.inl ())) (some (.inr (())))) (some (.inr (())))) : Option ((Unit) ⊕ (Unit))) = some (.inr ()) := by
   rw [ilt_f (by omega), condO_false]
   cases w
   ·rfl
   ·rw [condO_true, ieq_f (by simp at a; omega), condO_false]
  rw [e1]
  obtain ⟨d, rfl⟩ := pow_le_two a1 h1
  obtain ⟨s1, s2, s3⟩ := sp_spec a1
  have s4 := sp_le a1 h1
  simp only [Option.bind_some, caseS_inr, ilt_f (show (2 : Int) ≤ (n : Int) by omega), condO_false, len_code 1000 a1 h2, (sp_code a1 h2).1, (sp_code a1 h2).2]
  rw [guardO_pos (show nn ((Nat.log2 (n - 1) : Nat) : Int) by unfold nn; omega)]
  simp only [stp, if_neg a] at h5
  have ap : ∀ x : Bool × Int × Int, appOk out [x] 24 := fun x => by unfold appOk; simp; omega
  have r1 : WK .i64 ((m : Int) - (sp n : Nat)) = (m : Int) - (sp n : Nat) := wk_i64 (by unfold plc at h3; cases w <;> simp at h3 <;> omega) (by unfold plc at h3; cases w <;> simp at h3 <;> omega)
  have r2 : WK .i64 ((n : Int) - (sp n : Nat)) = ((n - sp n : Nat) : Int) := by rw [wk_i64 (by omega) (by omega)]; omega
  by_cases b : m < sp n ∨ (w = true ∧ m = sp n)
  ·rw [if_pos b] at h5
   have key : Goes (fun d h => ∃ (m n : Nat) (out : List (Bool × Int × Int)), h = ((m : Int), (n : Int), out) ∧ n ≤ 2 ^ d ∧ n ≤ 1099511627776 ∧ plc w m n ∧ out.length + d ≤ 40 ∧ out ++ (stp w d m n).map cst3 = L) (fun e : Int × Int × List (Bool × Int × Int) => e.2.2 = L) (d + 1) (some (.inl ((m : Int), (sp n : Int), out ++ [(false, (sp n : Int), (m : Int))]))) :=
    .on d (by omega) ⟨m, sp n, _, rfl, s4, by omega, plc_left h3 b, by simp; omega, by simpa [cst3] using h5⟩
   by_cases b1 : m < sp n
   ·rw [ilt_t (by omega), condO_true, guardO_pos (ap _)]
    exact key
   ·obtain ⟨rfl, b2⟩ := b.resolve_left b1
    rw [ilt_f (by omega), condO_false, condO_true, ieq_t (by omega), condO_true, guardO_pos (ap _)]
    exact key
  ·rw [if_neg b] at h5
   have hm : sp n ≤ m := by omega
   have r1' : WK .i64 ((m : Int) - (sp n : Nat)) = ((m - sp n : Nat) : Int) := by rw [r1]; omega
   have key : Goes (fun d h => ∃ (m n : Nat) (out : List (Bool × Int × Int)), h = ((m : Int), (n : Int), out) ∧ n ≤ 2 ^ d ∧ n ≤ 1099511627776 ∧ plc w m n ∧ out.length + d ≤ 40 ∧ out ++ (stp w d m n).map cst3 = L) (fun e : Int × Int × List (Bool × Int × Int) => e.2.2 = L) (d + 1) (some (.inl (((m - sp n : Nat) : Int), ((n - sp n : Nat) : Int), out ++ [(true, ((n - sp n : Nat) : Int), ((m - sp n : Nat) : Int))]))) :=
    .on d (by omega) ⟨m - sp n, n - sp n, _, rfl, by omega, by omega, plc_right a1 h3 b, by simp; omega, by simpa [cst3] using h5⟩
   rw [ilt_f (by omega), condO_false, r1', r2]
   cases w
   ·rw [condO_false, guardO_pos (ap _)]
    exact key
   ·rw [condO_true, ieq_f (by simp at b; omega), condO_false, guardO_pos (ap _)]
    exact key
theorem index_ok (l : List (Bool × Int × Int)) (hl : l.length ≤ 900) : ∃ r, slices_IndexFunc_3 1000 l = some r ∧ ige r 0 = l.any (·.1) := by
 unfold slices_IndexFunc_3
 refine loop_bindE (fun d h => ∃ i : Nat, h = (i : Int) ∧ i + d = l.length ∧ ∀ j (hj : j < l.length), j < i → (l[j]).1 = false) (fun e => match e with | .inl i => 0 ≤ i ∧ l.any (·.1) = true | .inr _ => l.any (·.1) = false) l.length (by omega) ⟨0, rfl, by omega, fun j _ h => by omega⟩ ?_ ?_
 ·rintro d _ ⟨i, rfl, hi, hf⟩
  by_cases a : i < l.length
  ·have e1 : at_ (.pair .bool (.pair (.int .i64) (.int .i64))) l (i : Int) = l[i] := at_nat (t := .pair .bool (.pair (.int .i64) (.int .i64))) a
   rw [ilt_t (show (i : Int) < llen l by unfold llen; omega), condO_true, guardO_pos ⟨by omega, by unfold llen; omega⟩]
   by_cases b : (l[i]).1 = true
   ·have e2 : (at_ T8 l (i : Int)).1 = true := (congrArg (·.1) e1).trans b
    rw [e2, condO_true]
    exact .out ⟨by omega, List.any_eq_true.2 ⟨l[i], List.getElem_mem a, b⟩⟩
   ·have b' : (l[i]).1 = false := by simpa using b
    have e2 : (at_ T8 l (i : Int)).1 = false := (congrArg (·.1) e1).trans b'
    rw [e2, condO_false, wk_i64 (by omega) (by omega)]
    exact .on (d - 1) (by omega) ⟨i + 1, by omega, by omega, fun j hj hlt => by
     rcases Nat.lt_or_ge j i with h | h
     ·exact hf j hj h
     ·obtain rfl : j = i := by omega
      exact b'⟩
  ·rw [ilt_f (show llen l ≤ (i : Int) by unfold llen; omega), condO_false]
   refine .out ?_
   show l.any (·.1) = false
   rw [List.any_eq_false]
   intro x hx
   obtain ⟨j, hj, rfl⟩ := List.mem_iff_getElem.1 hx
   have := hf j hj (by omega)
   rw [this]
   decide
 ·rintro (i | u) h
  ·exact ⟨i, rfl, by rw [h.2]; exact ige_t h.1⟩
  ·exact ⟨-1, rfl, by rw [show l.any (·.1) = false from h]; rfl⟩
theorem stp_left {w : Bool} {d m n : Nat} (a : ¬ (n < 2 ∨ (w = true ∧ m = n))) (b : m < sp n ∨ (w = true ∧ m = sp n)) : stp w (d + 1) m n = (false, sp n, m) :: stp w d m (sp n) := by
 rw [stp, if_neg a, if_pos b]
theorem stp_right {w : Bool} {d m n : Nat} (a : ¬ (n < 2 ∨ (w = true ∧ m = n))) (b : ¬ (m < sp n ∨ (w = true ∧ m = sp n))) : stp w (d + 1) m n = (true, n - sp n, m - sp n) :: stp w d (m - sp n) (n - sp n) := by
 rw [stp, if_neg a, if_neg b]
def lnk (m n : Nat) : Int := ((stp true 40 m n).length : Int) + if (stp true 40 m n).any (·.1) = true then 1 else 0
theorem rlinks_ok {m n : Nat} (h0 : 1 ≤ m) (hp : m ≤ n) (hn : n ≤ 1099511627776) : ref10_LinksLong 1000 ((m : Int), (n : Int)) = some (lnk m n) := by
 obtain ⟨S, hS⟩ : ∃ S, S = stp true 40 m n := ⟨_, rfl⟩
 have hl : S.length ≤ 40 := by rw [hS]; exact stp_len ..
 unfold ref10_LinksLong lnk
 dsimp only
 rw [ilt_f (show (1 : Int) ≤ (m : Int) by omega), igt_f (show (m : Int) ≤ (n : Int) by omega), igt_f (show (n : Int) ≤ 1099511627776 by omega), condO_false, condO_false, condO_false, ← hS]
 refine loop_bind (fun d h => ∃ (m n c : Nat) (w : Bool), h = ((m : Int), (n : Int), (c : Int), w) ∧ n ≤ 2 ^ d ∧ n ≤ 1099511627776 ∧ 1 ≤ m ∧ m ≤ n ∧ c + (stp true d m n).length = S.length ∧ (w && !((stp true d m n).any (·.1))) = !(S.any (·.1))) (fun e => e = ((S.length : Int), !(S.any (·.1)))) 40 (by omega) ⟨m, n, 0, true, rfl, hn, hn, h0, hp, by simp [hS], by simp [hS]⟩ ?_ ?_
 ·clear hS hp hn h0
  rintro d _ ⟨m, n, c, w, rfl, h1, h2, h3, h4, h5, h6⟩
  dsimp only
  by_cases a : m = n
  ·subst a
   rw [ine_f rfl, condO_false]
   rw [stp_nil (.inr ⟨rfl, rfl⟩)] at h5 h6
   refine .out ?_
   have h5' : c = S.length := by simpa using h5
   rw [h5']
   congr 1
   simpa using h6
  ·have a1 : 2 ≤ n := by omega
   obtain ⟨d, rfl⟩ := pow_le_two a1 h1
   obtain ⟨s1, s2, s3⟩ := sp_spec a1
   have s4 := sp_le a1 h1
   rw [ine_t (by omega), condO_true, split_ok h2, if_neg (by omega), Option.bind_some]
   have a2 : ¬ (n < 2 ∨ (true = true ∧ m = n)) := by simp; omega
   have ec : WK .i64 ((c : Int) + 1) = ((c + 1 : Nat) : Int) := by
    have : c ≤ S.length := by omega
    rw [wk_i64 (by omega) (by omega)]; omega
   by_cases b : m ≤ sp n
   ·rw [stp_left a2 (show m < sp n ∨ (true = true ∧ m = sp n) by simp; omega)] at h5 h6
    rw [ile_t (by omega), condO_true, ec]
    exact .on d (by omega) ⟨m, sp n, c + 1, w, rfl, s4, by omega, h3, b, by simp at h5; omega, by simpa using h6⟩
   ·rw [stp_right a2 (show ¬ (m < sp n ∨ (true = true ∧ m = sp n)) by simp; omega)] at h5 h6
    have r1 : WK .i64 ((m : Int) - (sp n : Nat)) = ((m - sp n : Nat) : Int) := by rw [wk_i64 (by omega) (by omega)]; omega
    have r2 : WK .i64 ((n : Int) - (sp n : Nat)) = ((n - sp n : Nat) : Int) := by rw [wk_i64 (by omega) (by omega)]; omega
    rw [ile_f (by omega), condO_false, ec, r1, r2]
    exact .on d (by omega) ⟨m - sp n, n - sp n, c + 1, false, rfl, by omega, by omega, by omega, by omega, by simp at h5; omega, by simpa using h6⟩
 ·rintro e rfl
  dsimp only
  cases hb : S.any (·.1)
  ·simp
  ·simp only [Bool.not_true, Bool.not_false, condO_true, Option.bind_some, if_true]
   rw [wk_i64 (by omega) (by omega)]
end Go.Proofs.YtlepjakmadlkjaaGreatDoor
