/- Texts of the proof, put together: part 9. No condition. -/
import Derived.Test.YtlidgpepppjeiaaGreatDoorT8
import Derived.Test.YtlidgpepppjeiaaGreatDoorRows
import Derived.WalkKit
import Derived.ProofKit
import Derived.OpenShut
import Derived.ShutString
import Derived.ChangeOld
import Derived.SizedLaws
import Derived.Deep.Slices
import Derived.LaidMore
import Derived.Lib.LaidTab
import Derived.Stop.Joined
import Derived.Lib.BitFns
import Derived.Lib.ItoaNum
/- Arguments that came in, as data; a law's start and its end. No condition. -/
set_option linter.unusedVariables false
set_option linter.unusedSimpArgs false
namespace Go.Proofs.YtlidgpepppjeiaaGreatDoor
open Go Go.WideShapes Go.ChangeShapes
mutual
/-- Is a type told by data, its parts one behind the other? -/
def chkT (P : Program) : Nat → TypeId → Ty → Bool
  | 0, _, _ => false
  | d + 1, t, u => match P.underlying t with
    | some .bool => decide (u = .bool)
    | some (.int k) => decide (u = .int k)
    | some .string => decide (u = .str)
    | some (.array n e) => match u with
      | .arr m v => decide (n = m) && v.flat && chkT P d e v && decide (n * P.cellsOf e = P.cellsOf t) && decide (P.cellsOf e = v.sz)
      | _ => false
    | some (.slice e) => match u with
      | .sl e' v => decide (e = e') && chkT P d e v && decide (P.cellsOf e = v.sz)
      | _ => false
    | some (.struct fs) => chkF P d 0 fs.toList u (P.cellsOf t)
    | _ => false
def chkF (P : Program) : Nat → Nat → List Field → Ty → Nat → Bool
  | 0, _, _, _, _ => false
  | _ + 1, off, [], u, n => decide (u = .unit) && decide (off = n)
  | d + 1, off, [f], u, n => decide (f.offset = off) && chkT P d f.type u && decide (off + P.cellsOf f.type = n)
  | d + 1, off, f :: g :: fs, u, n => match u with
    | .pair a b => decide (f.offset = off) && chkT P d f.type a && chkF P d (off + P.cellsOf f.type) (g :: fs) b n
    | _ => false
end
def wfT : (u : Ty) → u.den → Prop
  | .int k, x => (Lit.int k x).wf = true
  | .bool, _ => True
  | .str, s => s.size ≤ 9223372036854775807
  | .unit, _ => True
  | .arr n t, v => ∀ i : Fin n, wfT t (v.get i)
  | .pair a b, x => wfT a x.1 ∧ wfT b x.2
  | .sl _ t, l => l.length ≤ 9223372036854775807 ∧ ∀ x ∈ l, wfT t x
def Facts (F : List Fact) (w : World) : Prop := ∀ f ∈ F, Rds f.v f.n f.sz f.cs w
section
variable {H : Type} {enc : TypeId × Value → H} {P : Program} {w : World} {base : Nat} {held : Bool}
theorem facts_app {F G : List Fact} (h : Facts F w) (k : Facts G w) : Facts (F ++ G) w := fun f hf => by
  rcases List.mem_append.1 hf with hf | hf
  · exact h f hf
  · exact k f hf
mutual
theorem open_rep : ∀ (d fuel : Nat) (t : TypeId) (u : Ty) (cs : List Value) (x : DataW H × List MemPlace), chkT P d t u = true → DataW.trod enc P w base (fun _ => true) held fuel t cs = some x →
    ∃ (y : u.den) (F : List Fact), RepP u y cs F ∧ Facts F w ∧ wfT u y
  | 0, _, _, _, _, _, h, _ => by simp [chkT] at h
  | d + 1, fuel, t, u, cs, x, h, hx => by
    simp only [chkT] at h
    split at h
    · rename_i hu
      obtain rfl := of_decide_eq_true h
      obtain ⟨b, rfl, _⟩ := DataW.trod_bool hu hx
      exact ⟨b, [], ⟨rfl, rfl⟩, (fun f hf => by cases hf), trivial⟩
    · rename_i k hu
      obtain rfl := of_decide_eq_true h
      obtain ⟨n, rfl, _, hw⟩ := DataW.trod_int hu hx
      exact ⟨n, [], ⟨rfl, rfl⟩, (fun f hf => by cases hf), hw⟩
    · rename_i hu
      obtain rfl := of_decide_eq_true h
      obtain ⟨s, rfl, _, hw⟩ := DataW.trod_string hu hx
      exact ⟨s, [], ⟨rfl, rfl⟩, (fun f hf => by cases hf), hw⟩
    · rename_i n e hu
      split at h
      · rename_i m v
        simp only [Bool.and_eq_true, decide_eq_true_eq] at h
        obtain ⟨⟨⟨⟨rfl, hfl⟩, hc⟩, hsz⟩, hv⟩ := h
        obtain ⟨xs, m, rfl, _, hl, hlen, hm⟩ := DataW.trod_array hu hx
        have one : ∀ i, i < n → ∃ y : v.den, (cs.drop (i * v.sz)).take v.sz = (flatT v).cells y ∧ wfT v y := by
          intro i hi
          have hlt : i < xs.length := by omega
          obtain ⟨y, F, h1, h2, h3⟩ := open_rep d m e v _ xs[i] hc (by rw [hm i hi, List.getElem?_eq_getElem hlt])
          rw [hv] at h1
          exact ⟨y, ((RepP_flat v hfl _ _ _).1 h1).1, h3⟩
        haveI : Inhabited v.den := ⟨v.dflt⟩
        obtain ⟨f, hf⟩ := Go.Deep.choose_lt one
        refine ⟨Vector.ofFn (fun i : Fin n => f i.1), [], ⟨?_, rfl⟩, (fun f hf => by cases hf), fun i => ?_⟩
        · have har : arL (flatT v).dflt n (Vector.ofFn (fun i : Fin n => f i.1)) = (List.range n).map f := by
            unfold arL
            apply List.map_congr_left
            intro i hi
            have hi : i < n := by simpa using hi
            have h1 : (Vector.ofFn (fun i : Fin n => f i.1)).toArray.size = n := by simp
            simp only [Array.getD, h1, hi, dif_pos]
            simp [Array.getInternal_eq_getElem]
          have hcs : ∀ k, k ≤ n → ((List.range k).map f).flatMap (flatT v).cells = cs.take (k * v.sz) := by
            intro k
            induction k with
            | zero => intro _; simp
            | succ k ih =>
              intro hk
              rw [List.range_succ, List.map_append, List.flatMap_append, ih (by omega)]
              simp only [List.map_cons, List.map_nil, List.flatMap_cons, List.flatMap_nil, List.append_nil]
              rw [← (hf k (by omega)).1, Nat.add_mul, Nat.one_mul, List.take_add]
          show cs = (arL (flatT v).dflt n _).flatMap (flatT v).cells
          rw [har, hcs n (Nat.le_refl _), List.take_of_length_le]
          rw [hl, ← hsz, hv]; exact Nat.le_refl _
        · have : (Vector.ofFn (fun i : Fin n => f i.1)).get i = f i.1 := by
            simp only [Vector.get]
            simp
            first | rfl | done
          rw [this]; exact (hf i.1 i.2).2
      · cases h
    · rename_i e hu
      split at h
      · rename_i e' v
        simp only [Bool.and_eq_true, decide_eq_true_eq] at h
        obtain ⟨⟨rfl, hc⟩, hv⟩ := h
        rcases Go.Deep.open_slice hu hx with ⟨h0, _⟩ | ⟨a, len, cap, m, n, D, Pl, hcs, hb, hl, hm, hmm, _, hel⟩
        · subst h0
          exact ⟨[], [⟨.slice none 0 0, 0, v.sz, []⟩], ⟨_, [], [], rfl, ⟨none, 0, rfl, fun _ => rfl⟩, rfl, rfl, rfl⟩, (fun f hf => by
            simp only [List.mem_singleton] at hf; subst hf; exact rds_nil _ _), by simp, by simp⟩
        · subst hcs
          have hm' : len ≤ m := by rw [hmm]; split <;> omega
          have one : ∀ i, i < len → ∃ y : v.den × List Value × List Fact, w.cells? base (a.add (i * v.sz)) v.sz = some y.2.1 ∧ RepP v y.1 y.2.1 y.2.2 ∧ Facts y.2.2 w ∧ wfT v y.1 := by
            intro i hi
            obtain ⟨cs', h1, h2⟩ := hel i (by omega)
            rw [hv] at h1
            obtain ⟨y, F, k1, k2, k3⟩ := open_rep d n e v cs' _ hc h2
            exact ⟨(y, cs', F), h1, k1, k2, k3⟩
          haveI : Inhabited (v.den × List Value × List Fact) := ⟨(v.dflt, [], [])⟩
          obtain ⟨f, hf⟩ := Go.Deep.choose_lt one
          have build : ∀ k, k ≤ len → ∃ css F, RepL (RepP v) ((List.range k).map fun i => (f i).1) css F ∧ Facts F w ∧ css.length = k * v.sz ∧ ∀ j c, css[j]? = some c → w.cell? (a.add j) = some c := by
            intro k
            induction k with
            | zero => intro _; exact ⟨[], [], ⟨rfl, rfl⟩, (fun f hf => by cases hf), by simp, by simp⟩
            | succ k ih =>
              intro hk
              obtain ⟨css, F, r1, r2, r3, r4⟩ := ih (by omega)
              obtain ⟨c1, c2, c3, _⟩ := hf k (by omega)
              obtain ⟨_, hcl, hce⟩ := World.cells?_some c1
              refine ⟨css ++ (f k).2.1, F ++ (f k).2.2, ?_, facts_app r2 c3, ?_, fun j c hj => ?_⟩
              · rw [List.range_succ, List.map_append]
                refine RepL_app _ _ _ _ _ _ r1 ?_
                exact ⟨(f k).2.1, [], (f k).2.2, [], by simp, by simp, c2, rfl, rfl⟩
              · rw [List.length_append, r3, RepP_len v _ _ _ c2, Nat.add_mul, Nat.one_mul]
              · by_cases hlt : j < k * v.sz
                · rw [List.getElem?_append_left (by omega)] at hj
                  exact r4 j c hj
                · rw [List.getElem?_append_right (by omega), r3] at hj
                  have hlt2 := (List.getElem?_eq_some_iff.1 hj).1
                  rw [RepP_len v _ _ _ c2] at hlt2
                  have := hce (j - k * v.sz) hlt2
                  rw [hj, Go.Deep.add_add] at this
                  rw [← this]; congr 2; omega
          obtain ⟨css, F, r1, r2, r3, r4⟩ := build len (Nat.le_refl _)
          have hlen : ((List.range len).map fun i => (f i).1).length = len := by simp
          have hmx : cap ≤ 9223372036854775807 := by unfold maxLen at hm; omega
          refine ⟨(List.range len).map fun i => (f i).1, ⟨.slice (some a) len cap, len, v.sz, css⟩ :: F, ⟨_, css, F, rfl, ⟨some a, cap, by rw [hlen], fun h => by cases h⟩, by rw [hlen], r1⟩, fun f0 hf0 => ?_, ?_, ?_⟩
          · rcases List.mem_cons.1 hf0 with rfl | hf0
            · exact ⟨r3, some a, cap, rfl, hl, hmx, (fun h => by cases h), fun j u hu => ⟨a, rfl, r4 j u hu⟩⟩
            · exact r2 f0 hf0
          · rw [hlen]; omega
          · intro y hy
            simp only [List.mem_map, List.mem_range] at hy
            obtain ⟨i, hi, rfl⟩ := hy
            exact (hf i hi).2.2.2
      · cases h
    · rename_i fs hu
      obtain ⟨xs, m, rfl, _, hl, hlen, hm⟩ := DataW.trod_struct hu hx
      have := open_repF d m 0 fs.toList u (P.cellsOf t) cs h hl (fun i f hi => ?_)
      · simpa using this
      · have hi' : fs[i]? = some f := by simpa using hi
        have hlt : i < xs.length := by rw [hlen]; exact (Array.getElem?_eq_some_iff.1 hi').1
        exact ⟨xs[i], by rw [hm i f hi', List.getElem?_eq_getElem hlt]⟩
    · cases h
theorem open_repF : ∀ (d fuel off : Nat) (fs : List Field) (u : Ty) (n : Nat) (cs : List Value), chkF P d off fs u n = true → cs.length = n →
    (∀ (i : Nat) f, fs[i]? = some f → ∃ y, DataW.trod enc P w base (fun _ => true) held fuel f.type ((cs.drop f.offset).take (P.cellsOf f.type)) = some y) →
    ∃ (y : u.den) (F : List Fact), RepP u y (cs.drop off) F ∧ Facts F w ∧ wfT u y
  | 0, _, _, _, _, _, _, h, _, _ => by simp [chkF] at h
  | d + 1, fuel, off, [], u, n, cs, h, hl, _ => by
    simp only [chkF, Bool.and_eq_true, decide_eq_true_eq] at h
    obtain ⟨rfl, rfl⟩ := h
    exact ⟨(), [], ⟨by simp [flatT, FU, ← hl], rfl⟩, (fun f hf => by cases hf), trivial⟩
  | d + 1, fuel, off, [f], u, n, cs, h, hl, hm => by
    simp only [chkF, Bool.and_eq_true, decide_eq_true_eq] at h
    obtain ⟨⟨ho, hc⟩, hn⟩ := h
    obtain ⟨x, hx⟩ := hm 0 f rfl
    have := open_rep d fuel f.type u _ x hc hx
    rw [ho, List.take_of_length_le (by rw [List.length_drop]; omega)] at this
    exact this
  | d + 1, fuel, off, f :: g :: fs, u, n, cs, h, hl, hm => by
    simp only [chkF] at h
    split at h
    · rename_i a b
      simp only [Bool.and_eq_true, decide_eq_true_eq] at h
      obtain ⟨⟨ho, hc⟩, hn⟩ := h
      obtain ⟨x, hx⟩ := hm 0 f rfl
      obtain ⟨y1, F1, a1, a2, a3⟩ := open_rep d fuel f.type a _ x hc hx
      obtain ⟨y2, F2, b1, b2, b3⟩ := open_repF d fuel (off + P.cellsOf f.type) (g :: fs) b n cs hn hl (fun i f' hi => hm (i + 1) f' hi)
      refine ⟨(y1, y2), F1 ++ F2, ⟨_, _, F1, F2, ?_, rfl, a1, b1⟩, facts_app a2 b2, a3, b3⟩
      rw [ho, ← List.drop_drop, List.take_append_drop]
    · cases h
end
/-- What a value of a type is, by its cells. -/
def valC : Ty → List Value → Value
  | .arr _ _, cs => .agg cs.toArray
  | .pair _ _, cs => .agg cs.toArray
  | .unit, cs => .agg cs.toArray
  | _, cs => cs.headD .nilFunc
/-- Is it an aggregate, just where its data are? -/
def aggOk (P : Program) (t : TypeId) (u : Ty) : Bool :=
  match P.underlying t, u with
  | some (.struct _), .pair _ _ => true
  | some (.struct _), .unit => true
  | some (.array _ _), .arr _ _ => true
  | some (.slice _), .sl _ _ => true
  | some .bool, .bool => true
  | some (.int _), .int _ => true
  | some .string, .str => true
  | _, _ => false
structure RepOk (w : World) (d : Dyn) (v : Value) : Prop where
  rep : ∃ F, RepP d.1 d.2 v.cells.toList F ∧ Facts F w
  val : v = valC d.1 v.cells.toList
theorem open_arg {b0 : Nat} {t : TypeId} {u : Ty} {v : Value} {d : DataW H} {ps : List MemPlace} (hc : chkT P 12 t u = true) (ha : aggOk P t u = true) (hval : Value.okWide P w .any b0 t v) (hd : DataW.Trod enc P w base (fun _ => true) held t v d ps) :
    ∃ y : u.den, RepOk w ⟨u, y⟩ v ∧ wfT u y := by
  obtain ⟨fuel, hf⟩ := hd
  obtain ⟨y, F, h1, h2, h3⟩ := open_rep 12 fuel t u _ _ hc hf
  refine ⟨y, ⟨⟨F, h1, h2⟩, ?_⟩, h3⟩
  have agg : (∃ cs, v = .agg cs) → ∀ u, (match u with | .arr _ _ => true | .pair _ _ => true | .unit => true | _ => false) = true → v = valC u v.cells.toList := by
    rintro ⟨cs, rfl⟩ u hu
    cases u <;> simp_all [valC, Value.cells]
  unfold aggOk at ha
  split at ha
  · rename_i fs e
    exact agg (by unfold Value.okWide at hval; rw [e] at hval; obtain ⟨cs, h, _⟩ := hval; exact ⟨cs, h⟩) _ rfl
  · rename_i fs e
    exact agg (by unfold Value.okWide at hval; rw [e] at hval; obtain ⟨cs, h, _⟩ := hval; exact ⟨cs, h⟩) _ rfl
  · rename_i n e' e
    exact agg (by unfold Value.okWide at hval; rw [e] at hval; obtain ⟨cs, h, _⟩ := hval; exact ⟨cs, h⟩) _ rfl
  · rename_i e
    obtain ⟨a, l, c, rfl⟩ := okWide_slice e hval
    rfl
  · rename_i e
    obtain ⟨b, rfl⟩ := okWide_bool e hval
    rfl
  · rename_i e
    obtain ⟨b, rfl⟩ := okWide_int e hval
    rfl
  · rename_i e
    obtain ⟨b, rfl⟩ := okWide_string e hval
    rfl
  · cases ha
end
/-! ### a law's start -/
inductive Args (w : World) : List Dyn → List Value → Prop where
  | nil : Args w [] []
  | cons {d : Dyn} {v : Value} {ds : List Dyn} {vs : List Value} : RepOk w d v → Args w ds vs → Args w (d :: ds) (v :: vs)
def slotOf (u : Ty) (ls : List At) : SV :=
  match u, ls with
  | .pair _ _, ls => .v (.st ls)
  | .unit, ls => .v (.st ls)
  | _, [a] => .v (.a a)
  | _, ls => .v (.st ls)
def startGo : List Dyn → Nat → List (Nat × SV) × List Ob → List (Nat × SV) × List Ob
  | [], _, s => s
  | d :: ds, i, s => startGo ds (i + 1) (s.1 ++ [(i, slotOf d.1 (unpk .lent d.1 d.2 s.2.length).1)], s.2 ++ (unpk .lent d.1 d.2 s.2.length).2)
def startS (ds : List Dyn) : St := ⟨(startGo ds 0 ([], [])).1, (startGo ds 0 ([], [])).2, [], .nil⟩
theorem unpk_nrm (m : Md) : ∀ (u : Ty) (x : u.den) (n : Nat), (unpk m u x n).1.all nrmA = true
  | .pair a b, x, n => by simp only [unpk, List.all_append, unpk_nrm m a x.1 n, unpk_nrm m b x.2 _, Bool.and_self]
  | .int k, x, n => rfl
  | .bool, x, n => rfl
  | .str, x, n => rfl
  | .unit, x, n => rfl
  | .arr q t, x, n => rfl
  | .sl e t, x, n => rfl
theorem slot_enc (u : Ty) (x : u.den) (m : Md) (n : Nat) (g : Env) : encS g (slotOf u (unpk m u x n).1) = valC u (encL g (unpk m u x n).1) ∧ nrmS (slotOf u (unpk m u x n).1) = true ∧ refS (slotOf u (unpk m u x n).1) = (unpk m u x n).1.flatMap refA := by
  cases u with
  | int k => exact ⟨rfl, rfl, rfl⟩
  | bool => exact ⟨rfl, rfl, rfl⟩
  | str => exact ⟨rfl, rfl, rfl⟩
  | unit => exact ⟨rfl, rfl, rfl⟩
  | arr q t => exact ⟨by simp [slotOf, unpk, encS, encV, val1, valC, encL, encA], rfl, rfl⟩
  | pair a b => exact ⟨rfl, unpk_nrm m _ x n, rfl⟩
  | sl e t => exact ⟨rfl, rfl, rfl⟩
structure Started (w : World) (g : Env) (vs : List Value) (s : List (Nat × SV) × List Ob) : Prop where
  enc : s.1.map (fun p => encS g p.2) = vs
  keys : s.1.map (·.1) = List.range s.1.length
  ok : ∀ p ∈ s.1, nrmS p.2 = true
  rs : ∀ p ∈ s.1, ∀ o ∈ refS p.2, o < s.2.length
  ob : ∀ i ob, s.2[i]? = some ob → obP g i ob ∧ ∃ e u xs, ob = .row e u xs .lent false ∧ ∀ f ∈ (⟨(g i).v, xs.length, u.sz, (g i).cs⟩ :: (g i).fs : List Fact), Rds f.v f.n f.sz f.cs w
theorem start_go {w : World} : ∀ (ds : List Dyn) (vs : List Value) (i : Nat) (s : List (Nat × SV) × List Ob) (us : List Value) (g : Env), Args w ds vs → Started w g us s → i = s.1.length →
    ∃ g', Started w g' (us ++ vs) (startGo ds i s)
  | [], [], i, s, us, g, .nil, h, hi => ⟨g, by simpa [startGo] using h⟩
  | d :: ds, v :: vs, i, s, us, g, .cons hd hds, h, hi => by
    obtain ⟨F, hrep, hfa⟩ := hd.rep
    obtain ⟨g1, e1, e2, e3, e4, e5⟩ := unpk_spec .lent (by decide) d.1 d.2 s.2.length g _ F hrep
    obtain ⟨s1, s2, s3⟩ := slot_enc d.1 d.2 .lent s.2.length g1
    have hsl : ∀ o ∈ refS (slotOf d.1 (unpk .lent d.1 d.2 s.2.length).1), o < (s.2 ++ (unpk .lent d.1 d.2 s.2.length).2).length := by
      rw [s3]
      intro o ho
      have := (e4 o ho).2
      rw [List.length_append]; exact this
    have := start_go ds vs (i + 1) (s.1 ++ [(i, slotOf d.1 (unpk .lent d.1 d.2 s.2.length).1)], s.2 ++ (unpk .lent d.1 d.2 s.2.length).2) (us ++ [v]) g1 hds ?_ (by simp [hi])
    · obtain ⟨g', h'⟩ := this
      exact ⟨g', by simpa [startGo] using h'⟩
    · refine ⟨?_, ?_, ?_, ?_, ?_⟩
      · simp only [List.map_append, List.map_cons, List.map_nil]
        congr 1
        · rw [← h.enc]
          apply List.map_congr_left
          intro p hp
          exact encS_ext _ (fun o ho => e1 o (.inl (h.rs p hp o ho)))
        · rw [s1, e2, ← hd.val]
      · simp only [List.map_append, List.map_cons, List.map_nil, List.length_append, List.length_singleton, List.range_succ, h.keys, hi]
      · intro p hp
        rcases List.mem_append.1 hp with hp | hp
        · exact h.ok p hp
        · simp only [List.mem_singleton] at hp; subst hp; exact s2
      · intro p hp o ho
        rcases List.mem_append.1 hp with hp | hp
        · have := h.rs p hp o ho
          simp only [List.length_append]; omega
        · simp only [List.mem_singleton] at hp; subst hp; exact hsl o ho
      · intro j ob hj
        rcases Nat.lt_or_ge j s.2.length with hlt | hge
        · simp only at hj
          rw [List.getElem?_append_left hlt] at hj
          have := h.ob j ob hj
          have hg : g1 j = g j := e1 j (.inl hlt)
          obtain ⟨a1, e, u, xs, rfl, a2⟩ := this
          exact ⟨obP_ext hg a1, e, u, xs, rfl, by rw [hg]; exact a2⟩
        · simp only at hj
          rw [List.getElem?_append_right hge] at hj
          obtain ⟨p1, e, u, xs, he, hf⟩ := e5 _ ob hj
          have hn : s.2.length + (j - s.2.length) = j := by omega
          rw [hn] at p1 hf
          exact ⟨p1, e, u, xs, he, fun f hf' => hfa f (hf f hf')⟩
theorem start_ok {w : World} {ds : List Dyn} {vs : List Value} (h : Args w ds vs) :
    ∃ g, (startS ds).slots.map (fun p => encS g p.2) = vs ∧ (startS ds).slots.map (·.1) = List.range (startS ds).slots.length ∧ Cal g (startS ds) ∧ Cx g (startS ds) w nob (fun _ => True) w ∧ ∀ i, (entL g i ((startS ds).ob i)).dom = nob := by
  obtain ⟨g, hs⟩ := start_go ds vs 0 ([], []) [] env0 h ⟨rfl, rfl, (fun p hp => by cases hp), (fun p hp => by cases hp), (fun i ob hi => by simp at hi)⟩ rfl
  have get : ∀ i, (startS ds).ob i = .gone ∨ (startGo ds 0 ([], [])).2[i]? = some ((startS ds).ob i) := fun i => by
    cases hi : (startGo ds 0 ([], [])).2[i]? with
    | none => left; simp [St.ob, startS, List.getD_eq_getElem?_getD, hi]
    | some ob => right; simp [St.ob, startS, List.getD_eq_getElem?_getD, hi]
  have dom : ∀ i, (entL g i ((startS ds).ob i)).dom = nob := fun i => by
    rcases get i with h | h
    · rw [h]; rfl
    · obtain ⟨_, e, u, xs, he, _⟩ := hs.ob i _ h
      rw [he]; rfl
  refine ⟨g, by have := hs.enc; rwa [List.nil_append] at this, hs.keys, ⟨fun i => ?_, hs.ok, hs.rs, fun i T ls hi => ?_⟩, ⟨Fr.refl _ _, fun i => ?_, fun i => ?_, fun i b hb => ?_, fun i j _ b hb => ?_, fun i j b hb => ?_, fun i _ b _ => .inl trivial⟩, dom⟩
  · rcases get i with h | h
    · rw [h]; trivial
    · exact (hs.ob i _ h).1
  · rcases get i with h | h
    · rw [h] at hi; cases hi
    · obtain ⟨_, e, u, xs, he, _⟩ := hs.ob i _ h
      rw [he] at hi; cases hi
  · rcases get i with h | h
    · simp only [h]; trivial
    · obtain ⟨_, e, u, xs, he, _⟩ := hs.ob i _ h
      simp only [he]; trivial
  · rcases get i with h | h
    · simp only [h]; trivial
    · obtain ⟨_, e, u, xs, he, hf⟩ := hs.ob i _ h
      simp only [he]
      exact hf
  · rw [dom] at hb; exact hb.elim
  · rw [dom] at hb; exact hb.elim
  · rw [dom] at hb; exact hb.elim
theorem law_done {P : Program} {w : World} {f : Nat} {c : Con} {ds : List Dyn} {vs : List Value} {k : Nat} {x : HL c.pat.codes} (hc : ConOk P c) (hfn : c.fn = f) (h : Args w ds vs) {y : DenL (c.out.map NSh.codes)}
    (hy : c.f k x = some y) (hp : patSt c.pat x = some (startS ds)) (hout : c.out = [⟨[(rB, .v (.a (.fl .bool)))], [], []⟩]) (hel : ∀ (R : Type) (q : Nat → List Dyn → R), elimL (c.out.map NSh.codes) y q = q 0 [⟨.bool, true⟩]) :
    Calls P f vs.toArray w (fun e w' => ∃ v, e = .returned v ∧ v = .bool true ∧ Fr nob w w') := by
  obtain ⟨g, h1, h2, h3, h4, h5⟩ := start_ok h
  have key := hc k x y (startS ds) (startS ds).slots.length [] hy hp (by rw [h2, List.map_nil, List.append_nil]) (fun b hb => by cases hb) g w nob (fun _ => True) h3 h4 (by rw [List.drop_length]; intro p hp; cases hp)
  rw [List.take_length, h1, hfn] at key
  refine Calls.mono key ?_
  rintro e w' ⟨v, rfl, i, es, s, N, r, g', q1, q2, q3, q4, q5, q6, q7, q8, q9, q10⟩
  refine ⟨v, rfl, ?_, q9.fr⟩
  have e0 := q1 (Nat × List Dyn) (fun i ds => (i, ds))
  rw [hel] at e0
  simp only [Prod.mk.injEq] at e0
  obtain ⟨rfl, rfl⟩ := e0
  rw [hout] at q2
  simp only [List.getElem?_cons_zero, Option.some.injEq] at q2
  subst q2
  have q3' : fiN ⟨[(rB, .v (.a (.fl .bool)))], [], []⟩ [⟨.bool, true⟩] = some N := q3
  have hN : fiN ⟨[(rB, .v (.a (.fl .bool)))], [], []⟩ [⟨.bool, true⟩] = some ⟨[(rB, .v (.a (.fl .bool true)))], [], []⟩ := by rfl
  rw [hN] at q3'
  cases q3'
  simp only [Go.Proofs.YtlidgpepppjeiaaGreatDoor.results, Option.some.injEq] at q4
  subst q4
  exact q5
end Go.Proofs.YtlidgpepppjeiaaGreatDoor
/- A law's start where variables of the package are laid; the end. No condition. -/
set_option linter.unusedVariables false
set_option linter.unusedSimpArgs false
namespace Go.Proofs.YtlidgpepppjeiaaGreatDoor
open Go Go.WideShapes Go.ChangeShapes
def isK (k : IntKind) : Value → Bool
  | .int k' _ => k' == k
  | _ => false
/-- No number of this kind stands in it. -/
def noK (k : IntKind) : Ty → Bool
  | .int k' => !(k' == k)
  | .arr _ t => noK k t
  | .pair a b => noK k a && noK k b
  | .sl _ t => noK k t
  | _ => true
theorem flat_clean (k : IntKind) : ∀ (u : Ty) (x : u.den), noK k u = true → ∀ c ∈ (flatT u).cells x, isK k c = false
  | .int k', x, h, c, hc => by
    have : c = .int k' x := by simpa [flatT, FK] using hc
    subst this
    simpa [noK, isK] using h
  | .bool, x, h, c, hc => by
    have : c = .bool x := by simpa [flatT, FB] using hc
    subst this; rfl
  | .str, x, h, c, hc => by
    have : c = .string x := by simpa [flatT, FS] using hc
    subst this; rfl
  | .unit, x, h, c, hc => by simp [flatT, FU] at hc
  | .arr n t, x, h, c, hc => by
    simp only [flatT, FA] at hc
    obtain ⟨y, _, hy⟩ := List.mem_flatMap.1 hc
    exact flat_clean k t y h c hy
  | .pair a b, x, h, c, hc => by
    simp only [noK, Bool.and_eq_true] at h
    simp only [flatT, FP] at hc
    rcases List.mem_append.1 hc with hc | hc
    · exact flat_clean k a x.1 h.1 c hc
    · exact flat_clean k b x.2 h.2 c hc
  | .sl _ t, x, h, c, hc => by
    have : c = .nilFunc := by simpa [flatT, FL] using hc
    subst this; rfl
theorem repL_clean {k : IntKind} {α : Type} {R : α → List Value → List Fact → Prop} (h : ∀ x cs F, R x cs F → (∀ c ∈ cs, isK k c = false) ∧ ∀ f ∈ F, ∀ c ∈ f.cs, isK k c = false) :
    ∀ (xs : List α) (cs : List Value) (F : List Fact), RepL R xs cs F → (∀ c ∈ cs, isK k c = false) ∧ ∀ f ∈ F, ∀ c ∈ f.cs, isK k c = false
  | [], cs, F, ⟨h1, h2⟩ => by subst h1 h2; exact ⟨fun c hc => (by cases hc), fun f hf => (by cases hf)⟩
  | x :: xs, cs, F, ⟨c1, c2, F1, F2, h1, h2, h3, h4⟩ => by
    subst h1 h2
    obtain ⟨a1, a2⟩ := h x c1 F1 h3
    obtain ⟨b1, b2⟩ := repL_clean h xs c2 F2 h4
    exact ⟨fun c hc => (List.mem_append.1 hc).elim (a1 c) (b1 c), fun f hf => (List.mem_append.1 hf).elim (a2 f) (b2 f)⟩
theorem rep_clean (k : IntKind) : ∀ (u : Ty) (x : u.den) (cs : List Value) (F : List Fact), noK k u = true → RepP u x cs F → (∀ c ∈ cs, isK k c = false) ∧ ∀ f ∈ F, ∀ c ∈ f.cs, isK k c = false
  | .sl e t, x, cs, F, h, ⟨v, css, F', h1, ⟨ao, c, h2, _⟩, h3, h4⟩ => by
    obtain ⟨a1, a2⟩ := repL_clean (k := k) (R := RepP t) (fun x cs F hr => rep_clean k t x cs F h hr) x css F' h4
    subst h1 h3 h2
    refine ⟨fun c' hc => ?_, fun f hf => ?_⟩
    · simp only [List.mem_singleton] at hc; subst hc; rfl
    · rcases List.mem_cons.1 hf with rfl | hf
      · exact a1
      · exact a2 f hf
  | .pair a b, x, cs, F, h, ⟨c1, c2, F1, F2, h1, h2, h3, h4⟩ => by
    simp only [noK, Bool.and_eq_true] at h
    obtain ⟨a1, a2⟩ := rep_clean k a x.1 c1 F1 h.1 h3
    obtain ⟨b1, b2⟩ := rep_clean k b x.2 c2 F2 h.2 h4
    subst h1 h2
    exact ⟨fun c hc => (List.mem_append.1 hc).elim (a1 c) (b1 c), fun f hf => (List.mem_append.1 hf).elim (a2 f) (b2 f)⟩
  | .int k', x, cs, F, h, hr => by
    obtain ⟨h1, h2⟩ : cs = (flatT (.int k')).cells x ∧ F = [] := hr
    subst h1 h2; exact ⟨flat_clean k _ x h, fun f hf => (by cases hf)⟩
  | .bool, x, cs, F, h, hr => by
    obtain ⟨h1, h2⟩ : cs = (flatT .bool).cells x ∧ F = [] := hr
    subst h1 h2; exact ⟨flat_clean k _ x h, fun f hf => (by cases hf)⟩
  | .str, x, cs, F, h, hr => by
    obtain ⟨h1, h2⟩ : cs = (flatT .str).cells x ∧ F = [] := hr
    subst h1 h2; exact ⟨flat_clean k _ x h, fun f hf => (by cases hf)⟩
  | .unit, x, cs, F, h, hr => by
    obtain ⟨h1, h2⟩ : cs = (flatT .unit).cells x ∧ F = [] := hr
    subst h1 h2; exact ⟨flat_clean k _ x h, fun f hf => (by cases hf)⟩
  | .arr n t, x, cs, F, h, hr => by
    obtain ⟨h1, h2⟩ : cs = (flatT (.arr n t)).cells x ∧ F = [] := hr
    subst h1 h2; exact ⟨flat_clean k _ x h, fun f hf => (by cases hf)⟩
/-- A variable of the package: numbers, so many; where they lie. -/
structure Glob where
  b : Nat
  T : TypeId
  n : Nat
  k : IntKind
  x : Vector Int n
def Glob.at (gl : Glob) : At := .fl (.arr gl.n (.int gl.k)) gl.x
def Glob.cs (gl : Glob) : List Value := (flatT (.arr gl.n (.int gl.k))).cells gl.x
def Glob.ok (gl : Glob) (w : World) : Prop := w.heap[gl.b]? = some (.cells gl.cs.toArray gl.T (0, 0))
theorem Glob.kind (gl : Glob) : ∀ c ∈ gl.cs, isK gl.k c = true := by
  intro c hc
  simp only [Glob.cs, flatT, FA] at hc
  obtain ⟨y, _, hy⟩ := List.mem_flatMap.1 hc
  have : c = .int gl.k y := by simpa [FK] using hy
  subst this
  simp [isK]
theorem glob_apart {gl : Glob} {w : World} (h : gl.ok w) {v : Value} {n sz : Nat} {cs : List Value} (hr : Rds v n sz cs w) (hc : ∀ c ∈ cs, isK gl.k c = false) (hne : cs ≠ []) : addrOf v ≠ some gl.b := by
  obtain ⟨_, ao, c, rfl, _, _, _, hcell⟩ := hr
  obtain ⟨u, us, rfl⟩ := List.exists_cons_of_ne_nil hne
  obtain ⟨ad, rfl, hu⟩ := hcell 0 u rfl
  intro e
  simp only [addrOf, Option.some.injEq] at e
  have hblk : (ad.add 0).block = gl.b := by rw [add_block]; exact e
  unfold World.cell? at hu
  unfold Glob.ok at h
  rw [hblk, h] at hu
  simp only at hu
  split at hu
  · cases hu
  · have hm : u ∈ gl.cs := by
      rw [List.getElem?_toArray] at hu
      exact List.mem_of_getElem? hu
    have h1 := gl.kind u hm
    rw [hc u (List.mem_cons_self ..)] at h1
    cases h1
def globGo : List Glob → List (Nat × SV) × List Ob → List (Nat × SV) × List Ob
  | [], s => s
  | gl :: gs, s => globGo gs (s.1 ++ [(rG + gl.b, .v (.a (.ptr s.2.length 0)))], s.2 ++ [.box gl.T [gl.at]])
def startG (ds : List Dyn) (gs : List Glob) : St := ⟨(globGo gs (startGo ds 0 ([], []))).1, (globGo gs (startGo ds 0 ([], []))).2, [], .nil⟩
theorem globGo_eq : ∀ (gs : List Glob) (s : List (Nat × SV) × List Ob), globGo gs s = (s.1 ++ gs.zipIdx.map (fun p => (rG + p.1.b, .v (.a (.ptr (s.2.length + p.2) 0)))), s.2 ++ gs.map fun gl => .box gl.T [gl.at])
  | [], s => by simp [globGo]
  | gl :: gs, s => by
    rw [globGo, globGo_eq gs]
    simp only [List.length_append, List.length_singleton, List.append_assoc, List.cons_append, List.nil_append, List.map_cons, List.zipIdx_cons, Prod.mk.injEq, Nat.add_zero]
    refine ⟨?_, trivial⟩
    congr 2
    rw [Nat.zero_add, List.zipIdx_succ]
    simp only [List.map_map]
    apply List.map_congr_left
    intro p _
    simp only [Function.comp_apply, Prod.mk.injEq, SV.v.injEq, V1.a.injEq, At.ptr.injEq, and_true, true_and]
    omega
theorem start_goQ {w : World} {ds : List Dyn} {vs : List Value} (h : Args w ds vs) : ∃ g, Started w g vs (startGo ds 0 ([], [])) := by
  obtain ⟨g, hs⟩ := start_go ds vs 0 ([], []) [] env0 h ⟨rfl, rfl, (fun p hp => by cases hp), (fun p hp => by cases hp), (fun i ob hi => by simp at hi)⟩ rfl
  exact ⟨g, by simpa using hs⟩
theorem start_len : ∀ (ds : List Dyn) (i : Nat) (s : List (Nat × SV) × List Ob), (startGo ds i s).1.length = s.1.length + ds.length
  | [], i, s => by simp [startGo]
  | d :: ds, i, s => by rw [startGo, start_len ds]; simp; omega
/-- What a law's arguments are told of is of their own types. -/
theorem started_clean {k : IntKind} : ∀ (ds : List Dyn) (i : Nat) (s : List (Nat × SV) × List Ob), (∀ d ∈ ds, noK k d.1 = true) → (∀ ob ∈ s.2, ∃ e u xs, ob = .row e u xs .lent false ∧ noK k u = true) →
    ∀ ob ∈ (startGo ds i s).2, ∃ e u xs, ob = .row e u xs .lent false ∧ noK k u = true
  | [], i, s, _, h => h
  | d :: ds, i, s, hd, h => by
    refine started_clean ds (i + 1) _ (fun d' hd' => hd d' (List.mem_cons_of_mem _ hd')) (fun ob hob => ?_)
    rcases List.mem_append.1 hob with hob | hob
    · exact h ob hob
    · have hk := hd d (List.mem_cons_self ..)
      revert hob
      generalize s.2.length = n
      obtain ⟨u, x⟩ := d
      have key : ∀ (u : Ty) (x : u.den) (n : Nat), noK k u = true → ob ∈ (unpk .lent u x n).2 → ∃ e t xs, ob = .row e t xs .lent false ∧ noK k t = true := by
        intro u
        induction u with
        | pair a b iha ihb =>
          intro x n hk hob
          simp only [noK, Bool.and_eq_true] at hk
          simp only [unpk] at hob
          rcases List.mem_append.1 hob with hob | hob
          · exact iha _ _ hk.1 hob
          · exact ihb _ _ hk.2 hob
        | sl e t _ =>
          intro x n hk hob
          simp only [unpk, List.mem_singleton] at hob
          exact ⟨e, t, x, hob, hk⟩
        | int k' => intro x n hk hob; simp [unpk] at hob
        | bool => intro x n hk hob; simp [unpk] at hob
        | str => intro x n hk hob; simp [unpk] at hob
        | unit => intro x n hk hob; simp [unpk] at hob
        | arr m t _ => intro x n hk hob; simp [unpk] at hob
      exact key u x n hk
def envG (g0 : Env) (n : Nat) (gs : List Glob) : Env := fun i => if i < n then g0 i else match gs[i - n]? with
  | some gl => ⟨.nilFunc, rfl, gl.b, [], []⟩
  | none => g0 i
theorem start_okG {w : World} {ds : List Dyn} {vs : List Value} {gs : List Glob} (h : Args w ds vs) (hg : ∀ gl ∈ gs, gl.ok w) (hn : (gs.map (·.b)).Nodup) (hk : ∀ gl ∈ gs, ∀ d ∈ ds, noK gl.k d.1 = true) :
    ∃ g, ((startG ds gs).slots.take ds.length).map (fun p => encS g p.2) = vs ∧ (startG ds gs).slots.map (·.1) = List.range ds.length ++ (gs.map (·.b)).map (rG + ·) ∧ (∀ p ∈ (startG ds gs).slots.drop ds.length, encS g p.2 = .pointer (some ⟨p.1 - rG, 0, none⟩)) ∧
      Cal g (startG ds gs) ∧ Cx g (startG ds gs) w (fun b => b ∈ gs.map (·.b)) (fun _ => True) w ∧
      (∀ b ∈ gs.map (·.b), ∃ i gl, i < (startG ds gs).obs.length ∧ gl ∈ gs ∧ gl.b = b ∧ (startG ds gs).ob i = .box gl.T [gl.at] ∧ (g i).b = b) := by
  obtain ⟨g0, hs⟩ := start_goQ h
  obtain ⟨s, hse⟩ : ∃ s, s = startGo ds 0 ([], []) := ⟨_, rfl⟩
  rw [← hse] at hs
  have hl1 : s.1.length = ds.length := by rw [hse, start_len]; simp
  have eS : startG ds gs = ⟨s.1 ++ gs.zipIdx.map (fun p => (rG + p.1.b, .v (.a (.ptr (s.2.length + p.2) 0)))), s.2 ++ gs.map (fun gl => .box gl.T [gl.at]), [], .nil⟩ := by
    unfold startG; rw [← hse, globGo_eq]
  rw [eS]
  obtain ⟨g, hge⟩ : ∃ g : Env, g = envG g0 s.2.length gs := ⟨_, rfl⟩
  have glt : ∀ i, i < s.2.length → g i = g0 i := fun i hi => by rw [hge]; simp [envG, hi]
  have gge : ∀ j gl, gs[j]? = some gl → (g (s.2.length + j)).b = gl.b := fun j gl hj => by
    rw [hge]; unfold envG; rw [if_neg (by omega), Nat.add_sub_cancel_left, hj]
  have obs : ∀ i, (⟨s.1 ++ gs.zipIdx.map (fun p => (rG + p.1.b, .v (.a (.ptr (s.2.length + p.2) 0)))), s.2 ++ gs.map (fun gl => .box gl.T [gl.at]), [], .nil⟩ : St).ob i =
      if i < s.2.length then s.2.getD i .gone else ((gs[i - s.2.length]?).map fun gl => Ob.box gl.T [gl.at]).getD .gone := by
    intro i
    simp only [St.ob, List.getD_eq_getElem?_getD]
    split
    · rename_i hi; rw [List.getElem?_append_left hi]
    · rename_i hi; rw [List.getElem?_append_right (by omega), List.getElem?_map]
  have low : ∀ i, i < s.2.length → ∃ e u xs, s.2.getD i .gone = .row e u xs .lent false ∧ obP g i (.row e u xs .lent false) ∧ ∀ f ∈ (⟨(g i).v, xs.length, u.sz, (g i).cs⟩ :: (g i).fs : List Fact), Rds f.v f.n f.sz f.cs w := by
    intro i hi
    obtain ⟨ob, hob⟩ : ∃ ob, s.2[i]? = some ob := ⟨s.2[i], List.getElem?_eq_getElem hi⟩
    obtain ⟨h1, e, u, xs, rfl, h2⟩ := hs.ob i ob hob
    refine ⟨e, u, xs, by rw [List.getD_eq_getElem?_getD, hob]; rfl, obP_ext (glt i hi) h1, ?_⟩
    rw [glt i hi]; exact h2
  have boxes : ∀ i ob, ¬ i < s.2.length → ((gs[i - s.2.length]?).map fun gl => Ob.box gl.T [gl.at]).getD .gone = ob → ob = .gone ∨ ∃ gl, gs[i - s.2.length]? = some gl ∧ ob = .box gl.T [gl.at] := by
    intro i ob _ h
    cases hgl : gs[i - s.2.length]? with
    | none => rw [hgl] at h; exact .inl h.symm
    | some gl => rw [hgl] at h; exact .inr ⟨gl, rfl, h.symm⟩
  have entB : ∀ i gl, ¬ i < s.2.length → gs[i - s.2.length]? = some gl → entL g i (.box gl.T [gl.at]) = boxE false gl.b gl.T gl.cs := by
    intro i gl hi hgl
    have hb := gge (i - s.2.length) gl hgl
    rw [show s.2.length + (i - s.2.length) = i by omega] at hb
    simp only [entL, boxT, hb, encL, List.flatMap_cons, List.flatMap_nil, List.append_nil]
    rfl
  refine ⟨g, ?_, ?_, ?_, ⟨fun i => ?_, fun p hp => ?_, fun p hp o ho => ?_, fun i T ls hi => ?_⟩, ⟨Fr.refl _ _, fun i => ?_, fun i => ?_, fun i b hb => ?_, fun i j hij b hb hb2 => ?_, fun i j b hb hb2 => ?_, fun i _ b _ => .inl trivial⟩, ?_⟩
  · simp only
    rw [List.take_left' hl1, ← hs.enc]
    apply List.map_congr_left
    intro p hp
    exact encS_ext _ (fun o ho => glt o (hs.rs p hp o ho))
  · simp only [List.map_append, hs.keys, hl1, List.map_map]
    congr 1
    apply List.ext_getElem?
    intro i
    simp only [List.getElem?_map, List.getElem?_zipIdx]
    cases gs[i]? <;> rfl
  · simp only
    rw [List.drop_left' hl1]
    intro p hp
    obtain ⟨⟨gl, j⟩, hq, rfl⟩ := List.mem_map.1 hp
    have hj := List.mem_zipIdx_iff_getElem?.1 hq
    have := gge j gl hj
    have e : rG + gl.b - rG = gl.b := by generalize rG = r; omega
    simp only [encS, encV, val1, this, e]
  · rw [obs]
    split
    · rename_i hi
      obtain ⟨e, u, xs, h1, h2, _⟩ := low i hi
      rw [h1]; exact h2
    · rename_i hi
      rcases boxes i _ hi rfl with h | ⟨gl, _, h⟩
      · rw [h]; trivial
      · rw [h]; rfl
  · rcases List.mem_append.1 hp with hp | hp
    · exact hs.ok p hp
    · obtain ⟨⟨gl, j⟩, hq, rfl⟩ := List.mem_map.1 hp
      rfl
  · simp only [List.length_append, List.length_map]
    rcases List.mem_append.1 hp with hp | hp
    · have := hs.rs p hp o ho; omega
    · obtain ⟨⟨gl, j⟩, hq, rfl⟩ := List.mem_map.1 hp
      have hj := List.mem_zipIdx_iff_getElem?.1 hq
      have hlt := (List.getElem?_eq_some_iff.1 hj).1
      simp only [refS, refV, refA, List.mem_singleton] at ho
      subst ho
      simp only at hlt ⊢
      omega
  · rw [obs] at hi
    split at hi
    · rename_i hlt
      obtain ⟨e, u, xs, h1, _⟩ := low i hlt
      rw [h1] at hi; cases hi
    · rename_i hlt
      rcases boxes i _ hlt hi with h | ⟨gl, _, h⟩
      · cases h
      · simp only [Ob.box.injEq] at h
        obtain ⟨rfl, rfl⟩ := h
        intro o ho
        simp [refA, Glob.at] at ho
  · simp only [obs]
    split
    · rename_i hi
      obtain ⟨e, u, xs, h1, _⟩ := low i hi
      rw [h1]; trivial
    · rename_i hi
      rcases boxes i _ hi rfl with h | ⟨gl, hgl, h⟩
      · rw [h]; trivial
      · rw [h, entB i gl hi hgl]
        exact hg gl (List.mem_of_getElem? hgl)
  · simp only [obs]
    split
    · rename_i hi
      obtain ⟨e, u, xs, h1, _, h2⟩ := low i hi
      rw [h1]; exact h2
    · rename_i hi
      rcases boxes i _ hi rfl with h | ⟨gl, hgl, h⟩
      · rw [h]; trivial
      · rw [h]; trivial
  · simp only [obs] at hb
    split at hb
    · rename_i hi
      obtain ⟨e, u, xs, h1, _⟩ := low i hi
      rw [h1] at hb; exact hb.elim
    · rename_i hi
      rcases boxes i _ hi rfl with h | ⟨gl, hgl, h⟩
      · rw [h] at hb; exact hb.elim
      · rw [h, entB i gl hi hgl] at hb
        have hb : b = gl.b := hb
        exact .inl (by rw [hb]; exact List.mem_map.2 ⟨gl, List.mem_of_getElem? hgl, rfl⟩)
  · have dom : ∀ i, (entL g i ((⟨s.1 ++ gs.zipIdx.map (fun p => (rG + p.1.b, .v (.a (.ptr (s.2.length + p.2) 0)))), s.2 ++ gs.map (fun gl => .box gl.T [gl.at]), [], .nil⟩ : St).ob i)).dom b → ¬ i < s.2.length ∧ (gs[i - s.2.length]?).map (·.b) = some b := by
      intro i hb
      rw [obs] at hb
      split at hb
      · rename_i hi
        obtain ⟨e, u, xs, h1, _⟩ := low i hi
        rw [h1] at hb; exact hb.elim
      · rename_i hi
        rcases boxes i _ hi rfl with h | ⟨gl, hgl, h⟩
        · rw [h] at hb; exact hb.elim
        · rw [h, entB i gl hi hgl] at hb
          have hb : b = gl.b := hb
          exact ⟨hi, by rw [hgl, hb]; rfl⟩
    obtain ⟨h1, h2⟩ := dom i hb
    obtain ⟨h3, h4⟩ := dom j hb2
    rw [← List.getElem?_map] at h2 h4
    have hlt : i - s.2.length < (gs.map (·.b)).length := (List.getElem?_eq_some_iff.1 h2).1
    have := (List.getElem?_inj hlt hn).1 (h2.trans h4.symm)
    omega
  · simp only [obs] at hb hb2
    split at hb
    · rename_i hi
      obtain ⟨e, u, xs, h1, _⟩ := low i hi
      rw [h1] at hb; exact hb.elim
    · rename_i hi
      rcases boxes i _ hi rfl with h | ⟨gl, hgl, h⟩
      · rw [h] at hb; exact hb.elim
      · rw [h, entB i gl hi hgl] at hb
        have hb : b = gl.b := hb
        have hgm := List.mem_of_getElem? hgl
        split at hb2
        · rename_i hj
          obtain ⟨e, u, xs, h1, hobp, h2⟩ := low j hj
          rw [h1] at hb2
          obtain ⟨f, hf, hne, had⟩ := hb2
          have hin : Ob.row e u xs .lent false ∈ s.2 := by
            rw [← h1, List.getD_eq_getElem?_getD, List.getElem?_eq_getElem hj]
            exact List.getElem_mem hj
          have hku : noK gl.k u = true := by
            have := started_clean (k := gl.k) ds 0 ([], []) (hk gl hgm) (fun ob hob => (by cases hob)) (.row e u xs .lent false) (by rw [← hse]; exact hin)
            obtain ⟨e', u', xs', h5, h6⟩ := this
            cases h5
            exact h6
          have hrep : RepL (RepP u) xs (g j).cs (g j).fs := hobp.1
          obtain ⟨c1, c2⟩ := repL_clean (k := gl.k) (R := RepP u) (fun x cs F hr => rep_clean gl.k u x cs F hku hr) _ _ _ hrep
          have hcl : ∀ c ∈ f.cs, isK gl.k c = false := by
            rcases List.mem_cons.1 hf with rfl | hf'
            · exact c1
            · exact c2 f hf'
          exact glob_apart (hg gl hgm) (h2 f hf) hcl hne (by rw [had, hb])
        · rename_i hj
          rcases boxes j _ hj rfl with h5 | ⟨gl', _, h5⟩
          · rw [h5] at hb2; exact hb2.elim
          · rw [h5] at hb2; exact hb2.elim
  · intro b hb
    obtain ⟨gl, hgm, rfl⟩ := List.mem_map.1 hb
    obtain ⟨j, hj⟩ := List.getElem?_of_mem hgm
    have hlt := (List.getElem?_eq_some_iff.1 hj).1
    refine ⟨s.2.length + j, gl, by simp [List.length_append]; omega, hgm, rfl, ?_, gge j gl hj⟩
    rw [obs, if_neg (by omega), show s.2.length + j - s.2.length = j by omega, hj]
    rfl
theorem law_doneG {P : Program} {w : World} {f : Nat} {c : Con} {ds : List Dyn} {vs : List Value} {gs : List Glob} {k : Nat} {x : HL c.pat.codes} (hc : ConOk P c) (hfn : c.fn = f) (h : Args w ds vs) (hg : ∀ gl ∈ gs, gl.ok w) (hn : (gs.map (·.b)).Nodup) (hk : ∀ gl ∈ gs, ∀ d ∈ ds, noK gl.k d.1 = true)
    (hsh : ∀ b ∈ gs.map (·.b), b < shift) {y : DenL (c.out.map NSh.codes)}
    (hy : c.f k x = some y) (hp : patSt c.pat x = some (startG ds gs)) (hout : c.out = [⟨[(rB, .v (.a (.fl .bool)))], [], []⟩]) (hel : ∀ (R : Type) (q : Nat → List Dyn → R), elimL (c.out.map NSh.codes) y q = q 0 [⟨.bool, true⟩]) :
    Calls P f vs.toArray w (fun e w' => ∃ v, e = .returned v ∧ v = .bool true ∧ Fr nob w w') := by
  obtain ⟨g, h1, h2, h2b, h3, h4, h5⟩ := start_okG h hg hn hk
  have key := hc k x y (startG ds gs) ds.length (gs.map (·.b)) hy hp h2 hsh g w _ (fun _ => True) h3 h4 h2b
  rw [h1, hfn] at key
  refine Calls.mono key ?_
  rintro e w' ⟨v, rfl, i, es, s, N, r, g', q1, q2, q3, q4, q5, q6, q7, q8, q9, q10⟩
  have e0 := q1 (Nat × List Dyn) (fun i ds => (i, ds))
  rw [hel] at e0
  simp only [Prod.mk.injEq] at e0
  obtain ⟨rfl, rfl⟩ := e0
  rw [hout] at q2
  simp only [List.getElem?_cons_zero, Option.some.injEq] at q2
  subst q2
  have q3' : fiN ⟨[(rB, .v (.a (.fl .bool)))], [], []⟩ [⟨.bool, true⟩] = some N := q3
  have hN : fiN ⟨[(rB, .v (.a (.fl .bool)))], [], []⟩ [⟨.bool, true⟩] = some ⟨[(rB, .v (.a (.fl .bool true)))], [], []⟩ := by rfl
  rw [hN] at q3'
  cases q3'
  simp only [Go.Proofs.YtlidgpepppjeiaaGreatDoor.results, Option.some.injEq] at q4
  subst q4
  refine ⟨_, rfl, q5, ?_⟩
  have fr := q9.fr
  refine ⟨fr.os, fr.tape, fr.output, fr.size, fun b hb _ => ?_⟩
  by_cases hbg : b ∈ gs.map (·.b)
  · obtain ⟨i, gl, hi, hgm, hglb, hob, hgb⟩ := h5 b hbg
    obtain ⟨k1, k2⟩ := q10.same i hi (fun hx => by cases hx)
    have hok := q9.okL i
    have k1' : (afterS (startG ds gs) ⟨[(rB, .v (.a (.fl .bool true)))], [], []⟩).ob i = .box gl.T [gl.at] := (k1.trans hob)
    simp only [k1', entL, boxT, k2, hgb] at hok
    have hok : w'.heap[b]? = some (.cells (encL g' [gl.at]).toArray gl.T (0, 0)) := hok
    have hen : encL g' [gl.at] = gl.cs := by simp [encL, encA, Glob.at, Glob.cs]
    rw [hok, hen, ← hglb]
    exact (hg gl hgm).symm
  · exact fr.block b hb hbg
theorem allK {gs : List Glob} {ds : List Dyn} (h : ((gs.map (·.k)).all fun k => (ds.map (·.1)).all (noK k)) = true) : ∀ gl ∈ gs, ∀ d ∈ ds, noK gl.k d.1 = true := by
  intro gl hgl d hd
  have h1 := List.all_eq_true.1 h gl.k (List.mem_map.2 ⟨gl, hgl, rfl⟩)
  exact List.all_eq_true.1 h1 d.1 (List.mem_map.2 ⟨d, hd, rfl⟩)
/-- A laid variable, where it lies. -/
theorem glob_ok {P : Program} {W : World} {gl : Glob} {name : String} (hsh : W.ShapedOpen P) (hg : P.globalNamed name = some gl.b) (hz : (((begin P (fun _ _ => 0) default).world.heap[gl.b]?).bind Obj.row?).map (·.2) = some gl.T)
    (hlt : gl.b < P.globals.size) (htab : Lib.TabIs P W name gl.k gl.x.toList) : gl.ok W := by
  obtain ⟨⟨zero, T⟩, h1, h2⟩ := Option.map_eq_some_iff.1 hz
  simp only at h2
  subst h2
  obtain ⟨cs, h3, _⟩ := hsh.1 gl.b zero _ hlt h1
  unfold Lib.TabIs at htab
  have hvar : W.var? P name = some cs := by
    unfold World.var?
    rw [hg]
    simp only [Option.bind_some, h3]
  rw [hvar] at htab
  have hcs : cs = gl.cs.toArray := by
    rw [Option.some.inj htab]
    congr 1
    simp only [Glob.cs, flatT, FA, arL_eq, FK]
    induction gl.x.toList with
    | nil => rfl
    | cons a l ih => simp [ih]
  unfold Glob.ok
  rw [h3, hcs]
section
variable {H : Type} {enc : TypeId × Value → H}
theorem returns_shaped {a : Assume} {C : Checked} {os : Os} {f : FuncId} {fn : Func} {s : ChangeSpec} {conds : List PathCond} {apart fresh handsOn again : Bool} {X : World → Array Value → Prop}
    (hX : ∀ (w w' : World) (args : Array Value), w.heap = w'.heap → X w args → X w' args)
    (own : ownKnob C.prog.godebug = none) (started : os.Started) (noInit : C.prog.inits.idxOf? f = none) (hfn : C.prog.funcs[f]? = some fn)
    (witness : ∃ (w : World) (tape : Tape) (i : Input), w.os = os ∧ (w.forCall tape i).Shaped C.prog ∧ i.vars = [] ∧ Input.okWide C.prog (w.forCall tape i) .any w.heap.size f i ∧
      ((s.pre enc C.prog fn conds apart (w.forCall tape i).memory i.args ∧ X (w.forCall tape i).memory i.args) ∧ sizedMet enc C.prog fn (OpenSpec.ofChange s) apart (w.forCall tape i).memory i.args) ∧ a.holds C.prog (lone (Frame.enter C.prog f i.args .normal) [] (w.forCall tape i)))
    (contract : ∀ (W : World) (base : Nat) (args : Array Value) (ds gs : List (DataW H)) (before : List MemPlace),
      (∀ (j : Nat) t v, fn.params[j]? = some t → args[j]? = some v → Value.okWide C.prog W .any base t v) →
      DataW.Whole enc C.prog fn.params.toList s.vars apart W args.toList ds gs before → X W args → W.ShapedOpen C.prog →
      Calls C.prog f args W fun e W' => ∃ v, e = .returned v ∧ s.post enc C.prog fn apart fresh handsOn again W args v W') :
    ReturnsInHanded a C os f .any (fun w args => (s.pre enc C.prog fn conds apart w args ∧ X w args) ∧ sizedMet enc C.prog fn (OpenSpec.ofChange s) apart w args) (s.post enc C.prog fn apart fresh handsOn again) := by
  refine returnsInHanded_of_calls own started noInit witness ?_
  intro w tape i _ hshape _ hok hpre hholds
  obtain ⟨_, _, _, fn', hfn', _, _, _, _, hval⟩ := hok
  have e : fn' = fn := Option.some.inj (hfn'.symm.trans hfn)
  subst e
  obtain ⟨⟨⟨ds, gs, before, hw, hc⟩, hx⟩, hz⟩ := hpre
  have hw' := DataW.Whole.of_heap (w' := w.forCall tape i) (by rfl) hw
  refine (contract (w.forCall tape i) w.heap.size i.args ds gs before hval hw' (hX _ _ _ (by rfl) hx) hshape).mono fun e W' ⟨v, he, hp⟩ => ?_
  subst he
  exact ChangeSpec.post_blind hp
end
end Go.Proofs.YtlidgpepppjeiaaGreatDoor
/- The variables of the package that are laid. No condition. -/
namespace Go.Proofs.YtlidgpepppjeiaaGreatDoor
open Go
def vgl_check_table : Vector Int 16 := ⟨#[0, 498536548, 997073096, 651767980, 1994146192, 1802195444, 1303535960, 1342533948, 3988292384, 4027552580, 3604390888, 3412177804, 2607071920, 2262029012, 2685067896, 3183342108], rfl⟩
def gl_check_table : Glob := ⟨1, 128, 16, .u32, vgl_check_table⟩
end Go.Proofs.YtlidgpepppjeiaaGreatDoor
/- Plain facts about what walks compute with. No condition. -/
set_option linter.unusedVariables false
set_option linter.unusedSimpArgs false
namespace Go.Proofs.YtlidgpepppjeiaaGreatDoor
open Go
theorem wk_i64 {x : Int} (h1 : -9223372036854775808 ≤ x) (h2 : x ≤ 9223372036854775807) : WK .i64 x = x := wrap_i64 h1 h2
theorem wk_u64 {x : Int} (h1 : 0 ≤ x) (h2 : x ≤ 18446744073709551615) : WK .u64 x = x := by
  simp only [WK, IntKind.wrap, IntKind.bits, IntKind.signed]; simp; omega
theorem wk_u8 {x : Int} (h1 : 0 ≤ x) (h2 : x ≤ 255) : WK .u8 x = x := by
  simp only [WK, IntKind.wrap, IntKind.bits, IntKind.signed]; simp; omega
theorem wk_u8_mod (x : Int) : WK .u8 x = x % 256 := by
  simp only [WK, IntKind.wrap, IntKind.bits, IntKind.signed]; simp
theorem wk_u32_mod (x : Int) : WK .u32 x = x % 4294967296 := by
  simp only [WK, IntKind.wrap, IntKind.bits, IntKind.signed]; simp
theorem wk_u64_mod (x : Int) : WK .u64 x = x % 18446744073709551616 := by
  simp only [WK, IntKind.wrap, IntKind.bits, IntKind.signed]; simp
@[simp] theorem condO_true {α : Type} (x y : Option α) : condO true x y = x := rfl
@[simp] theorem condO_false {α : Type} (x y : Option α) : condO false x y = y := rfl
theorem condO_ite {α : Type} (b : Bool) (x y : Option α) : condO b x y = if b = true then x else y := by cases b <;> rfl
theorem condO_eq {α : Type} {b : Bool} {x y z : Option α} (h1 : b = true → x = z) (h2 : b = false → y = z) : condO b x y = z := by cases b <;> simp_all
@[simp] theorem caseS_inl {α β R : Type} (a : α) (f : α → R) (g : β → R) : caseS (.inl a) f g = f a := rfl
@[simp] theorem caseS_inr {α β R : Type} (b : β) (f : α → R) (g : β → R) : caseS (.inr b) f g = g b := rfl
theorem condO_app {α β : Type} (f : α → β) {b : Bool} {x y z : α} (h : condO b (some x) (some y) = some z) : condO b (some (f x)) (some (f y)) = some (f z) := by
  cases b <;> simp only [condO_true, condO_false, Option.some.injEq] at h ⊢ <;> rw [h]
theorem bind_of {α β : Type} {o : Option α} {f : α → Option β} {a : α} {r : Option β} (h : o = some a) (hf : f a = r) : o.bind f = r := by rw [h]; exact hf
/-! ### numbers told -/
theorem ieq_f {a b : Int} (h : a ≠ b) : ieq a b = false := by simpa using h
theorem ieq_t {a b : Int} (h : a = b) : ieq a b = true := by simpa using h
theorem ine_f {a b : Int} (h : a = b) : ine a b = false := by simpa using h
theorem ine_t {a b : Int} (h : a ≠ b) : ine a b = true := by simpa using h
theorem ilt_t {a b : Int} (h : a < b) : ilt a b = true := by simpa using h
theorem ilt_f {a b : Int} (h : b ≤ a) : ilt a b = false := by simpa using h
theorem ile_t {a b : Int} (h : a ≤ b) : ile a b = true := by simpa using h
theorem ile_f {a b : Int} (h : b < a) : ile a b = false := by simpa using h
theorem igt_t {a b : Int} (h : b < a) : igt a b = true := by simpa using h
theorem igt_f {a b : Int} (h : a ≤ b) : igt a b = false := by simpa using h
theorem ige_t {a b : Int} (h : b ≤ a) : ige a b = true := by simpa using h
theorem ige_f {a b : Int} (h : a < b) : ige a b = false := by simpa using h
/-! ### texts -/
theorem sEq_iff {a b : ByteArray} : sEq a b = true ↔ a = b := by
  unfold sEq
  constructor
  · intro h
    have h : a.data.toList = b.data.toList := by simpa using h
    exact Go.WideShapes.bytes_inj h
  · rintro rfl; simp
theorem sEq_self (a : ByteArray) : sEq a a = true := sEq_iff.2 rfl
theorem sEq_dec (a b : ByteArray) : sEq a b = decide (a.data.toList = b.data.toList) := by
  unfold sEq
  rw [Bool.eq_iff_iff]
  simp
theorem bytes_ext {a b : ByteArray} (h : a.data.toList = b.data.toList) : a = b := Go.WideShapes.bytes_inj h
@[simp] theorem size_strOfNums (l : List Int) : (strOfNums l).size = l.length := by simp [strOfNums, ByteArray.size]
@[simp] theorem size_app (a b : ByteArray) : (a ++ b).size = a.size + b.size := by simp
@[simp] theorem data_app (a b : ByteArray) : (a ++ b).data.toList = a.data.toList ++ b.data.toList := by simp
/-! ### lists -/
theorem at_get {t : Ty} {l : List t.den} {i : Int} (h0 : 0 ≤ i) (h1 : i < l.length) : at_ t l i = l[i.toNat]'(by omega) := by
  unfold at_
  rw [List.getD_eq_getElem?_getD, List.getElem?_eq_getElem (by omega)]
  rfl
theorem at_nat {t : Ty} {l : List t.den} {n : Nat} (h : n < l.length) : at_ t l (n : Int) = l[n] := by
  rw [at_get (by omega) (by omega)]
  congr 1
/-! ### loops -/
/-- A loop, by a measure and an invariant. -/
theorem loopK_inv {H E : Type} {step : H → Option (H ⊕ E)} (I : Nat → H → Prop) (Q : E → Prop)
    (hs : ∀ n h, I n h → (∃ h' m, step h = some (.inl h') ∧ m < n ∧ I m h') ∨ (∃ e, step h = some (.inr e) ∧ Q e)) : ∀ (n : Nat) (h : H), I n h → ∀ k, n < k → ∃ e, loopK k step h = some e ∧ Q e := by
  intro n
  induction n using Nat.strongRecOn with
  | _ n ih =>
    intro h hI k hk
    cases k with
    | zero => omega
    | succ k =>
      rcases hs n h hI with ⟨h', m, h1, h2, h3⟩ | ⟨e, h1, h2⟩
      · obtain ⟨e, he, hq⟩ := ih m h2 h' h3 k (by omega)
        exact ⟨e, by simp only [loopK, h1, Option.bind_some, caseS_inl]; exact he, hq⟩
      · exact ⟨e, by simp only [loopK, h1, Option.bind_some, caseS_inr], h2⟩
/-- A loop whose rounds are known. -/
theorem loopK_run {H E : Type} {step : H → Option (H ⊕ E)} (p : Nat → H) : ∀ (n : Nat) (e : E) (k : Nat), (∀ i < n, step (p i) = some (.inl (p (i + 1)))) → step (p n) = some (.inr e) → n < k → loopK k step (p 0) = some e := by
  intro n
  induction n generalizing p with
  | zero =>
    intro e k _ h2 hk
    cases k with
    | zero => omega
    | succ k => simp only [loopK, h2, Option.bind_some, caseS_inr]
  | succ n ih =>
    intro e k h1 h2 hk
    cases k with
    | zero => omega
    | succ k =>
      simp only [loopK, h1 0 (by omega), Option.bind_some, caseS_inl]
      exact ih (fun i => p (i + 1)) e k (fun i hi => h1 (i + 1) (by omega)) h2 (by omega)
/-- What a round may end with: another round with less to do, or the way out. -/
inductive Goes {H E : Type} (I : Nat → H → Prop) (Q : E → Prop) (n : Nat) : Option (H ⊕ E) → Prop
  | on {h' : H} (m : Nat) (lt : m < n) (i : I m h') : Goes I Q n (some (.inl h'))
  | out {e : E} (q : Q e) : Goes I Q n (some (.inr e))
theorem Goes.bind {H E S : Type} {I : Nat → H → Prop} {Q : E → Prop} {n : Nat} {o : Option S} {f : S → Option (H ⊕ E)} (P : S → Prop) (h : ∃ s, o = some s ∧ P s) (hf : ∀ s, P s → Goes I Q n (f s)) : Goes I Q n (o.bind f) := by
  obtain ⟨s, rfl, hp⟩ := h
  exact hf s hp
theorem loop_bind {H E R : Type} {step : H → Option (H ⊕ E)} {f : E → Option R} {r : Option R} {h0 : H} {k : Nat} (I : Nat → H → Prop) (Q : E → Prop) (n : Nat) (hk : n < k) (h : I n h0)
    (hs : ∀ n h, I n h → Goes I Q n (step h)) (hf : ∀ e, Q e → f e = r) : (loopK k step h0).bind f = r := by
  obtain ⟨e, he, hq⟩ := loopK_inv (step := step) I Q (fun n h hi => by
    have g := hs n h hi
    generalize step h = o at g ⊢
    cases g with
    | on m lt i => exact .inl ⟨_, m, rfl, lt, i⟩
    | out q => exact .inr ⟨_, rfl, q⟩) n h0 h k hk
  rw [he]
  exact hf e hq
theorem and_bound (x : Int) (m : Nat) (h : m < 4611686018427387904) : 0 ≤ andK .i64 x m ∧ andK .i64 x m ≤ m := by
  have e : (BitVec.ofInt IntKind.i64.bits x &&& BitVec.ofInt IntKind.i64.bits (m : Int)).toNat ≤ m := by
    rw [BitVec.toNat_and]
    refine Nat.le_trans Nat.and_le_right ?_
    rw [BitVec.toNat_ofInt]
    simp only [IntKind.bits]
    omega
  have w : andK .i64 x m = ((BitVec.ofInt IntKind.i64.bits x &&& BitVec.ofInt IntKind.i64.bits (m : Int)).toNat : Int) := wrap_i64 (by omega) (by omega)
  rw [w]
  omega
theorem iterL_congr {α H E : Type} {f g : H → α → Option (H ⊕ E)} : ∀ (l : List α) (h : H), (∀ h, ∀ a ∈ l, f h a = g h a) → iterL l f h = iterL l g h
  | [], h, _ => rfl
  | a :: l, h, hfg => by
    simp only [iterL]
    rw [hfg h a (List.mem_cons_self ..)]
    cases g h a with
    | none => rfl
    | some y => cases y with
      | inl h' => exact iterL_congr l h' (fun h b hb => hfg h b (List.mem_cons_of_mem _ hb))
      | inr e => rfl
theorem iterL_map {α β H E : Type} (q : β → α) (f : H → α → Option (H ⊕ E)) : ∀ (l : List β) (h : H), iterL (l.map q) f h = iterL l (fun h b => f h (q b)) h
  | [], h => rfl
  | b :: l, h => by
    simp only [List.map_cons, iterL]
    cases f h (q b) with
    | none => rfl
    | some y => cases y with
      | inl h' => exact iterL_map q f l h'
      | inr e => rfl
theorem foldL_map {α β H : Type} (q : β → α) (f : H → α → Option H) : ∀ (l : List β) (h : H), foldL (l.map q) f h = foldL l (fun h b => f h (q b)) h
  | [], h => rfl
  | b :: l, h => by
    simp only [List.map_cons, foldL]
    cases f h (q b) with
    | none => rfl
    | some y => exact foldL_map q f l y
theorem backL_snd {α : Type} (l : List α) : (backL l).map (·.2) = l.reverse := by
  simp [backL, List.map_reverse, List.map_map, Function.comp_def]
/-- Rounds that look at the elements alone. -/
theorem iterL_back {α H E : Type} (l : List α) (f : H → α → Option (H ⊕ E)) (h : H) : iterL (backL l) (fun h p => f h p.2) h = iterL l.reverse f h := by
  rw [← backL_snd, iterL_map]
theorem foldL_back {α H : Type} (l : List α) (f : H → α → Option H) (h : H) : foldL (backL l) (fun h p => f h p.2) h = foldL l.reverse f h := by
  rw [← backL_snd, foldL_map]
theorem foldL_pure {α H : Type} (f : H → α → H) : ∀ (l : List α) (h : H), foldL l (fun h a => some (f h a)) h = some (l.foldl f h)
  | [], h => rfl
  | a :: l, h => by simp only [foldL, Option.bind_some, List.foldl_cons]; exact foldL_pure f l (f h a)
end Go.Proofs.YtlidgpepppjeiaaGreatDoor
/- Octets: numbers and texts as bytes, what puts them and what reads them. No condition. -/
set_option linter.unusedVariables false
set_option linter.unusedSimpArgs false
namespace Go.Proofs.YtlidgpepppjeiaaGreatDoor
open Go
abbrev mkB (l : List UInt8) : ByteArray := ⟨l.toArray⟩
theorem mkB_of (s : ByteArray) : s = mkB s.data.toList := by cases s; rfl
theorem mkB_inj {a b : List UInt8} (h : mkB a = mkB b) : a = b := by
  have := congrArg (fun s : ByteArray => s.data.toList) h
  simpa using this
theorem mkB_size (l : List UInt8) : (mkB l).size = l.length := by simp [ByteArray.size]
theorem blen_mkB (l : List UInt8) : blen (mkB l) = (l.length : Int) := by rw [blen, mkB_size]
theorem mkB_app (a b : List UInt8) : mkB a ++ mkB b = mkB (a ++ b) := bytes_ext (by rw [data_app])
theorem nums_mkB (l : List Int) : strOfNums l = mkB (l.map fun n => UInt8.ofNat n.toNat) := rfl
theorem sAt_mkB (l : List UInt8) (i : Int) : sAt (mkB l) i = ((l.getD i.toNat 0).toNat : Int) := rfl
theorem scut_take (l : List UInt8) (n : Int) : scut (mkB l) 0 n = mkB (l.take n.toNat) := by
  apply bytes_ext
  simp [scut, ByteArray.data_extract]
theorem scut_drop (l : List UInt8) (n : Int) : scut (mkB l) n (blen (mkB l)) = mkB (l.drop n.toNat) := by
  apply bytes_ext
  rw [blen_mkB]
  simp [scut, ByteArray.data_extract, List.extract]
  exact List.take_of_length_le (by simp)
theorem byte_lt (b : UInt8) : (b.toNat : Int) ≤ 255 := by have := b.toNat_lt; omega
/-! ### the number that bytes are -/
def bval (l : List UInt8) : Nat := l.foldl (fun h b => h * 256 + b.toNat) 0
theorem bval_snoc (l : List UInt8) (b : UInt8) : bval (l ++ [b]) = bval l * 256 + b.toNat := by simp [bval, List.foldl_append]
theorem bval_lt (l : List UInt8) : bval l < 256 ^ l.length := by
  rw [← List.reverse_reverse l]
  induction l.reverse with
  | nil => simp [bval]
  | cons b l ih =>
    rw [List.reverse_cons, bval_snoc, List.length_append, List.length_singleton, Nat.pow_succ]
    have := b.toNat_lt
    omega
theorem bval_take (l : List UInt8) (i : Nat) (h : i < l.length) : bval (l.take (i + 1)) = bval (l.take i) * 256 + (l.getD i 0).toNat := by
  rw [List.take_add_one, List.getElem?_eq_getElem h, Option.toList_some, bval_snoc, List.getD_eq_getElem?_getD, List.getElem?_eq_getElem h]
  rfl
theorem bval_take_lt (l : List UInt8) (i : Nat) (h : i ≤ 7) : bval (l.take i) < 72057594037927936 := by
  refine Nat.lt_of_lt_of_le (bval_lt _) ?_
  have : (l.take i).length ≤ 7 := by rw [List.length_take]; omega
  calc 256 ^ (l.take i).length ≤ 256 ^ 7 := Nat.pow_le_pow_right (by decide) this
    _ = 72057594037927936 := by decide
theorem or_shl {h b : Int} (h0 : 0 ≤ h) (h1 : h < 72057594037927936) (b0 : 0 ≤ b) (b1 : b ≤ 255) : orK .u64 (shlK .u64 h 8) b = h * 256 + b := by
  obtain ⟨n, rfl⟩ := Int.eq_ofNat_of_zero_le h0
  obtain ⟨m, rfl⟩ := Int.eq_ofNat_of_zero_le b0
  have e1 : shlK .u64 (n : Int) 8 = ((n * 256 : Nat) : Int) := by
    show WK .u64 ((n : Int) * 2 ^ (min (8 : Int).toNat 64)) = _
    rw [show ((2 : Int) ^ (min (8 : Int).toNat 64)) = 256 by decide, wk_u64 (by omega) (by omega)]
    omega
  rw [e1]
  show WK .u64 (((BitVec.ofInt 64 ((n * 256 : Nat) : Int)) ||| (BitVec.ofInt 64 (m : Int))).toNat : Int) = _
  rw [BitVec.toNat_or, BitVec.toNat_ofInt, BitVec.toNat_ofInt]
  rw [show (((n * 256 : Nat) : Int) % ((2 ^ 64 : Nat) : Int)).toNat = n * 256 by omega, show (((m : Nat) : Int) % ((2 ^ 64 : Nat) : Int)).toNat = m by omega]
  have e2 : n * 256 ||| m = n * 256 + m := by
    have := Nat.two_pow_add_eq_or_of_lt (i := 8) (b := m) (by omega) n
    rw [Nat.mul_comm n 256]
    exact this.symm
  rw [e2, wk_u64 (by omega) (by omega)]
  omega
/-! ### a number that is put -/
def wdt (x : Nat) : Nat := (Lib.bitLen x + 7) / 8
def digs : Nat → Nat → List UInt8
  | 0, _ => []
  | n + 1, x => digs n (x / 256) ++ [UInt8.ofNat (x % 256)]
theorem digs_len : ∀ (n x : Nat), (digs n x).length = n
  | 0, _ => rfl
  | n + 1, x => by simp [digs, digs_len n]
theorem digs_cons : ∀ (n x : Nat), digs (n + 1) x = UInt8.ofNat (x / 256 ^ n % 256) :: digs n x
  | 0, x => by simp [digs]
  | n + 1, x => by
    rw [digs, digs_cons n (x / 256), Nat.div_div_eq_div_mul, ← Nat.pow_succ', digs]
    rfl
theorem wdt_zero : wdt 0 = 0 := by decide
theorem wdt_step {x : Nat} (h0 : x ≠ 0) (h : x < 18446744073709551616) : wdt x = wdt (x / 256) + 1 := by
  unfold wdt
  by_cases hx : 256 ≤ x
  · rw [Lib.bitLen_shift8 x hx h]; omega
  · have h1 := Lib.bitLen_le8 ⟨x, by omega⟩
    have h2 : 1 ≤ Lib.bitLen x := by
      rw [Lib.bitLen_half x h0 (by simpa using h)]; omega
    rw [show x / 256 = 0 by omega, show Lib.bitLen 0 = 0 by decide]
    simp only at h1
    omega
theorem wdt_le {x : Nat} (h : x < 18446744073709551616) : wdt x ≤ 8 := by
  have := Lib.bitLen_le x 64 (by decide) (by simpa using h)
  unfold wdt; omega
theorem digs_val (x : Nat) : x < 18446744073709551616 → bval (digs (wdt x) x) = x := by
  induction x using Nat.strongRecOn with
  | _ x ih =>
    intro h
    by_cases h0 : x = 0
    · subst h0; rw [wdt_zero]; rfl
    · rw [wdt_step h0 h, digs, bval_snoc, ih (x / 256) (by omega) (by omega)]
      have : (UInt8.ofNat (x % 256)).toNat = x % 256 := by simp
      rw [this]; omega
theorem digs_head (x : Nat) : x ≠ 0 → x < 18446744073709551616 → (digs (wdt x) x).getD 0 0 ≠ 0 := by
  induction x using Nat.strongRecOn with
  | _ x ih =>
    intro h0 h
    rw [wdt_step h0 h, digs]
    by_cases hx : x / 256 = 0
    · rw [hx, wdt_zero]
      simp only [digs, List.nil_append]
      show UInt8.ofNat (x % 256) ≠ 0
      intro e
      have e2 := congrArg UInt8.toNat e
      simp at e2
      omega
    · have := ih (x / 256) (by omega) hx (by omega)
      have hl : 0 < (digs (wdt (x / 256)) (x / 256)).length := by
        rw [digs_len, wdt_step hx (by omega)]; omega
      rw [List.getD_eq_getElem?_getD, List.getElem?_append_left hl, ← List.getD_eq_getElem?_getD]
      exact this
def putL (x : Nat) : List UInt8 := UInt8.ofNat (wdt x) :: digs (wdt x) x
theorem putL_len (x : Nat) : (putL x).length = wdt x + 1 := by simp [putL, digs_len]
/-! ### what reading comes to -/
def longL : List UInt8 → Option (Nat × List UInt8)
  | [] => none
  | c :: r => if 8 < c.toNat ∨ r.length < c.toNat ∨ (0 < c.toNat ∧ r.getD 0 0 = 0) then none else some (bval (r.take c.toNat), r.drop c.toNat)
theorem long_put {x : Nat} (h : x < 18446744073709551616) (r : List UInt8) : longL (putL x ++ r) = some (x, r) := by
  have hw := wdt_le h
  have hc : (UInt8.ofNat (wdt x)).toNat = wdt x := by simp; omega
  simp only [putL, List.cons_append, longL, hc]
  rw [if_neg, List.take_left' (digs_len _ _), List.drop_left' (digs_len _ _), digs_val x h]
  rw [List.length_append, digs_len]
  intro hh
  rcases hh with hh | hh | ⟨hh, hz⟩
  · omega
  · omega
  · have h0 : x ≠ 0 := by
      rintro rfl
      rw [wdt_zero] at hh; omega
    rw [List.getD_eq_getElem?_getD, List.getElem?_append_left (by rw [digs_len]; exact hh), ← List.getD_eq_getElem?_getD] at hz
    exact digs_head x h0 h hz
theorem longL_len {l r : List UInt8} {n : Nat} (h : longL l = some (n, r)) : ∃ p, p ++ r = l ∧ 1 ≤ p.length ∧ p.length ≤ 9 ∧ n < 18446744073709551616 := by
  cases l with
  | nil => simp [longL] at h
  | cons c l =>
    simp only [longL] at h
    split at h
    · cases h
    · rename_i hn
      simp only [Option.some.injEq, Prod.mk.injEq] at h
      obtain ⟨rfl, rfl⟩ := h
      refine ⟨c :: l.take c.toNat, by simp, by simp, by rw [List.length_cons, List.length_take]; omega, ?_⟩
      refine Nat.lt_of_lt_of_le (bval_lt _) ?_
      have : (l.take c.toNat).length ≤ 8 := by rw [List.length_take]; omega
      calc 256 ^ (l.take c.toNat).length ≤ 256 ^ 8 := Nat.pow_le_pow_right (by decide) this
        _ = 18446744073709551616 := by decide
end Go.Proofs.YtlidgpepppjeiaaGreatDoor
/- Numbers that are put. No condition. -/
set_option linter.unusedVariables false
set_option linter.unusedSimpArgs false
namespace Go.Proofs.YtlidgpepppjeiaaGreatDoor
open Go
def byI (l : List UInt8) : List Int := l.map fun b => (b.toNat : Int)
theorem byI_nums (l : List UInt8) : strOfNums (byI l) = mkB l := by
  rw [nums_mkB, byI, List.map_map]
  congr 1
  conv => rhs; rw [← List.map_id l]
  refine List.map_congr_left (fun b _ => ?_)
  simp
theorem byte_mod (x : Nat) : ((UInt8.ofNat (x % 256)).toNat : Int) = ((x % 256 : Nat) : Int) := by simp
theorem rput_ok (k : Nat) (hk : 8 < k) {x : Nat} (h : x < 18446744073709551616) : ref01_Put k (x : Int) = some (mkB (putL x)) := by
  unfold ref01_Put
  have hw := wdt_le h
  have big : ∀ i, i < wdt x → 0 < x / 256 ^ i := by
    intro i
    have gen : ∀ i x, x < 18446744073709551616 → i < wdt x → 0 < x / 256 ^ i := by
      intro i
      induction i with
      | zero =>
        intro x h hi
        rw [Nat.pow_zero, Nat.div_one]
        refine Nat.pos_of_ne_zero ?_
        rintro rfl
        rw [wdt_zero] at hi; omega
      | succ i ih =>
        intro x h hi
        have h0 : x ≠ 0 := by
          rintro rfl
          rw [wdt_zero] at hi; omega
        rw [wdt_step h0 h] at hi
        have := ih (x / 256) (by omega) (by omega)
        rw [Nat.div_div_eq_div_mul, ← Nat.pow_succ'] at this
        exact this
    exact gen i x h
  have zero : x / 256 ^ wdt x = 0 := by
    have gen : ∀ n x, x < 18446744073709551616 → wdt x = n → x / 256 ^ n = 0 := by
      intro n
      induction n with
      | zero =>
        intro x h hn
        by_cases h0 : x = 0
        · subst h0; rfl
        · rw [wdt_step h0 h] at hn; omega
      | succ n ih =>
        intro x h hn
        have h0 : x ≠ 0 := by
          rintro rfl
          rw [wdt_zero] at hn; omega
        rw [wdt_step h0 h] at hn
        have := ih (x / 256) (by omega) (by omega)
        rw [Nat.div_div_eq_div_mul, ← Nat.pow_succ'] at this
        exact this
    exact gen _ x h rfl
  have hpw : ∀ i, x / 256 ^ i ≤ x := fun i => Nat.div_le_self _ _
  refine bind_of (a := mkB (digs (wdt x) x)) ?_ ?_
  · refine Eq.trans (congrArg (loopK k _) (show ((x : Int), str0) = (((x / 256 ^ 0 : Nat) : Int), mkB (digs 0 x)) by rw [Nat.pow_zero, Nat.div_one]; rfl)) (loopK_run (fun i => (((x / 256 ^ i : Nat) : Int), mkB (digs i x))) (wdt x) _ k ?_ ?_ (by omega))
    · intro i hi
      have h1 := big i hi
      have h2 := hpw i
      have e : ((x / 256 ^ i : Nat) : Int).tmod 256 = ((x / 256 ^ i % 256 : Nat) : Int) := by
        rw [Int.tmod_eq_emod_of_nonneg (by omega)]; omega
      have e2 : ((x / 256 ^ i : Nat) : Int).tdiv 256 = ((x / 256 ^ (i + 1) : Nat) : Int) := by
        rw [Int.tdiv_eq_ediv_of_nonneg (by omega), Nat.pow_succ, ← Nat.div_div_eq_div_mul]; omega
      have h3 := hpw (i + 1)
      obtain ⟨z, hz⟩ : ∃ z, z = x / 256 ^ (i + 1) := ⟨_, rfl⟩
      rw [← hz] at e2 h3
      simp only [igt_t (show (0 : Int) < ((x / 256 ^ i : Nat) : Int) by omega), condO_true]
      rw [guardO_pos (by decide), e, e2, wk_u8 (by omega) (by omega), wk_u64 (by omega) (by omega)]
      have e3 : strOfNums [((x / 256 ^ i % 256 : Nat) : Int)] = mkB [UInt8.ofNat (x / 256 ^ i % 256)] := rfl
      rw [e3, mkB_app, guardO_pos (by
        unfold catOk
        rw [mkB_size, mkB_size, digs_len]
        have : [UInt8.ofNat (x / 256 ^ i % 256)].length = 1 := rfl
        omega), guardO_pos (by decide), hz]
      rw [digs_cons]
      rfl
    · simp only [zero]
      rfl
  · have hc : ((wdt x : Nat) : Int) = WK .u8 (blen (mkB (digs (wdt x) x))) := by
      rw [blen_mkB, digs_len, wk_u8 (by omega) (by omega)]
    rw [← hc]
    have e3 : strOfNums [((wdt x : Nat) : Int)] = mkB [UInt8.ofNat (wdt x)] := rfl
    rw [e3, mkB_app, guardO_pos (by
      unfold catOk
      rw [mkB_size, mkB_size, digs_len]
      have : [UInt8.ofNat (wdt x)].length = 1 := rfl
      omega)]
    rfl
theorem shr_byte (x i : Nat) (hi : i < 8) : WK .u8 (shrK .u64 (x : Int) (8 * (i : Int))) = ((x / 256 ^ i % 256 : Nat) : Int) := by
  have e : shrK .u64 (x : Int) (8 * (i : Int)) = ((x / 256 ^ i : Nat) : Int) := by
    show Int.fdiv (x : Int) (2 ^ (min (8 * (i : Int)).toNat 64)) = _
    have e2 : (2 : Int) ^ (8 * i) = ((256 ^ i : Nat) : Int) := by
      have h1 : (2 : Nat) ^ (8 * i) = 256 ^ i := by rw [Nat.pow_mul]
      rw [← h1, Int.natCast_pow]; rfl
    rw [show min (8 * (i : Int)).toNat 64 = 8 * i by omega, e2, Int.fdiv_eq_ediv_of_nonneg _ (Int.natCast_nonneg _)]
    exact (Int.natCast_ediv _ _).symm
  rw [e, wk_u8_mod]
  omega
theorem put_ok (k : Nat) (hk : 8 < k) {x : Nat} (h : x < 18446744073709551616) : octet_Put k (x : Int) = some (mkB (putL x)) := by
  unfold octet_Put
  have hw := wdt_le h
  have hb : Lib.bitLen x ≤ 64 := Lib.bitLen_le x 64 (by decide) (by simpa using h)
  have e0 : bits_Len64 k (x : Int) = some ((Lib.bitLen x : Nat) : Int) := by
    show L_math_bits_Len64 k (x : Int) = _
    unfold L_math_bits_Len64
    rw [guardO_pos ⟨by omega, by omega⟩, Int.toNat_natCast]
  rw [e0]
  simp only [Option.bind_some]
  have e1 : WK .i64 (Int.tdiv (WK .i64 (WK .i64 (((Lib.bitLen x : Nat) : Int) + 8) - 1)) 8) = ((wdt x : Nat) : Int) := by
    rw [wk_i64 (x := ((Lib.bitLen x : Nat) : Int) + 8) (by omega) (by omega), wk_i64 (x := ((Lib.bitLen x : Nat) : Int) + 8 - 1) (by omega) (by omega), Int.tdiv_eq_ediv_of_nonneg (by omega)]
    unfold wdt
    rw [wk_i64 (by omega) (by omega)]
    omega
  rw [e1]
  have e2 : WK .i64 (1 + ((wdt x : Nat) : Int)) = ((wdt x + 1 : Nat) : Int) := by
    rw [wk_i64 (by omega) (by omega)]; omega
  rw [e2, wk_u8 (x := ((wdt x : Nat) : Int)) (by omega) (by omega)]
  rw [guardO_pos (by decide), guardO_pos ⟨by omega, rfl, by omega, by omega⟩, guardO_pos ⟨by decide, by simp only [llen, lrep, List.length_replicate]; omega⟩]
  have e3 : lset (lrep ((wdt x + 1 : Nat) : Int) (0 : Int)) 0 ((wdt x : Nat) : Int) = ((wdt x : Nat) : Int) :: List.replicate (wdt x) 0 := by
    simp only [lset, lrep, Int.toNat_natCast, List.replicate_succ]
    rfl
  rw [e3]
  refine bind_of (a := byI (putL x)) ?_ (by rw [byI_nums])
  have hc : ((UInt8.ofNat (wdt x)).toNat : Int) = (wdt x : Int) := by
    have : (UInt8.ofNat (wdt x)).toNat = wdt x := by simp; omega
    rw [this]
  have fin : byI (putL x) = ((wdt x : Nat) : Int) :: (List.replicate (wdt x - wdt x) 0 ++ byI (digs (wdt x) x)) := by
    simp only [putL, byI, List.map_cons, hc, Nat.sub_self, List.replicate_zero, List.nil_append]
  have st : (((wdt x : Nat) : Int) :: List.replicate (wdt x) 0) = ((wdt x : Nat) : Int) :: (List.replicate (wdt x - 0) 0 ++ byI (digs 0 x)) := by
    simp [digs, byI]
  rw [st]
  refine loopK_run (fun i => ((i : Int), ((wdt x : Nat) : Int) :: (List.replicate (wdt x - i) 0 ++ byI (digs i x)))) (wdt x) _ k ?_ ?_ (by omega)
  · intro i hi
    have hlen : (((wdt x : Nat) : Int) :: (List.replicate (wdt x - i) 0 ++ byI (digs i x))).length = wdt x + 1 := by
      simp only [List.length_cons, List.length_append, List.length_replicate, byI, List.length_map, digs_len]; omega
    simp only [ilt_t (show (i : Int) < ((wdt x : Nat) : Int) by omega), condO_true]
    rw [wk_i64 (x := 8 * (i : Int)) (by omega) (by omega), guardO_pos (by omega), wk_i64 (x := ((wdt x : Nat) : Int) - (i : Int)) (by omega) (by omega), guardO_pos ⟨by omega, by rw [llen, hlen]; omega⟩, wk_i64 (x := (i : Int) + 1) (by omega) (by omega), shr_byte x i (by omega)]
    congr 3
    obtain ⟨m, hm⟩ : ∃ m, wdt x - i = m + 1 := ⟨wdt x - i - 1, by omega⟩
    rw [show wdt x - (i + 1) = m by omega, hm]
    simp only [lset]
    rw [show (((wdt x : Nat) : Int) - (i : Int)).toNat = m + 1 by omega, List.set_cons_succ, List.replicate_succ', List.append_assoc, List.set_append_right _ _ (by simp), List.length_replicate, Nat.sub_self]
    rw [digs_cons]
    simp only [byI, List.map_cons, byte_mod, List.singleton_append, List.set_cons_zero]
  · simp only [ilt_f (Int.le_refl _), condO_false, fin]
end Go.Proofs.YtlidgpepppjeiaaGreatDoor
/- Sectors made of texts. No condition. -/
set_option linter.unusedVariables false
set_option linter.unusedSimpArgs false
namespace Go.Proofs.YtlidgpepppjeiaaGreatDoor
open Go
theorem rep_zeros : ∀ n, Lib.repeatL [0] n = List.replicate n (0 : UInt8)
  | 0 => rfl
  | n + 1 => by rw [Lib.repeatL, rep_zeros n, List.replicate_succ]; rfl
theorem srep_ok (k : Nat) {n : Int} (h0 : 0 ≤ n) (h1 : n ≤ 100000) : strings_Repeat k (⟨#[0]⟩, n) = some (mkB (List.replicate n.toNat 0)) := by
  show L_strings_Repeat k (⟨#[0]⟩, n) = _
  unfold L_strings_Repeat
  simp only
  rw [guardO_pos ⟨h0, by omega, by
    show 1 * n.toNat ≤ _
    omega⟩]
  rw [rep_zeros]
theorem nums_zeros (n : Nat) : strOfNums (List.replicate n 0) = mkB (List.replicate n 0) := by
  rw [nums_mkB, List.map_replicate]
  rfl
/-- The sector of a text. -/
def secL (l : List UInt8) : List UInt8 := putL l.length ++ l ++ List.replicate (256 - (putL l.length ++ l).length) 0
def secB (l : List UInt8) : ByteArray × Int := if 256 < (putL l.length ++ l).length then (str0, 11) else (mkB (secL l), 0)
theorem sfill_ok {l : List UInt8} (hl : l.length ≤ 300) : sector_Fill 1000 (mkB l) = some (secB l) := by
  have hw := wdt_le (x := l.length) (by omega)
  have hp : (putL l.length ++ l).length = wdt l.length + 1 + l.length := by rw [List.length_append, putL_len]
  unfold sector_Fill
  rw [blen_mkB, wk_u64 (by omega) (by omega), put_ok 1000 (by decide) (by omega)]
  simp only [Option.bind_some]
  rw [mkB_app, guardO_pos (by unfold catOk; rw [mkB_size, mkB_size, putL_len]; omega)]
  unfold secB
  rw [blen_mkB]
  by_cases h : 256 < (putL l.length ++ l).length
  · rw [if_pos h, igt_t (by omega), condO_true]
  · rw [if_neg h, igt_f (by omega), condO_false, wk_i64 (by omega) (by omega), srep_ok 1000 (by omega) (by omega)]
    simp only [Option.bind_some]
    rw [mkB_app, guardO_pos (by unfold catOk; rw [mkB_size, mkB_size, List.length_replicate]; omega), secL, show (256 - ((putL l.length ++ l).length : Int)).toNat = 256 - (putL l.length ++ l).length by omega]
theorem rfill_ok {l : List UInt8} (hl : l.length ≤ 300) : ref05_Fill 1000 (mkB l) = some (secB l) := by
  have hw := wdt_le (x := l.length) (by omega)
  have hp : (putL l.length ++ l).length = wdt l.length + 1 + l.length := by rw [List.length_append, putL_len]
  unfold ref05_Fill
  rw [blen_mkB, wk_u64 (by omega) (by omega), rput_ok 1000 (by decide) (by omega)]
  simp only [Option.bind_some]
  rw [mkB_app, guardO_pos (by unfold catOk; rw [mkB_size, mkB_size, putL_len]; omega)]
  unfold secB
  rw [blen_mkB]
  by_cases h : 256 < (putL l.length ++ l).length
  · rw [if_pos h, igt_t (by omega), condO_true]
  · rw [if_neg h, igt_f (by omega), condO_false, wk_i64 (by omega) (by omega)]
    have e : (256 - ((putL l.length ++ l).length : Int)).toNat = 256 - (putL l.length ++ l).length := by omega
    rw [guardO_pos ⟨by omega, rfl, by omega, by omega⟩, lrep, e, nums_zeros, mkB_app, guardO_pos (by unfold catOk; rw [mkB_size, mkB_size, List.length_replicate]; omega), secL]
end Go.Proofs.YtlidgpepppjeiaaGreatDoor
/- The sum of a text: the program's by a table of sixteen, the document's bit by bit. No condition. -/
set_option linter.unusedVariables false
set_option linter.unusedSimpArgs false
namespace Go.Proofs.YtlidgpepppjeiaaGreatDoor
open Go
def p1 (n : Nat) : Nat := if n % 2 = 1 then (n / 2) ^^^ 3988292384 else n / 2
def tblN : List Nat := [0, 498536548, 997073096, 651767980, 1994146192, 1802195444, 1303535960, 1342533948, 3988292384, 4027552580, 3604390888, 3412177804, 2607071920, 2262029012, 2685067896, 3183342108]
theorem p1_xor (a b : Nat) : p1 (a ^^^ b) = p1 a ^^^ p1 b := by
  unfold p1
  have h := @Nat.xor_mod_two_eq_one a b
  rw [Nat.xor_div_two]
  by_cases ha : a % 2 = 1 <;> by_cases hb : b % 2 = 1
  · rw [if_neg (by rw [h]; simp [ha, hb]), if_pos ha, if_pos hb]
    rw [Nat.xor_comm (b / 2), Nat.xor_assoc, ← Nat.xor_assoc 3988292384, Nat.xor_self, Nat.zero_xor]
  · rw [if_pos (by rw [h]; simp [ha, hb]), if_pos ha, if_neg hb]
    rw [Nat.xor_assoc, Nat.xor_assoc, Nat.xor_comm 3988292384]
  · rw [if_pos (by rw [h]; simp [ha, hb]), if_neg ha, if_pos hb, Nat.xor_assoc]
  · rw [if_neg (by rw [h]; simp [ha, hb]), if_neg ha, if_neg hb]
theorem p1_even (q : Nat) : p1 (2 * q) = q := by unfold p1; rw [if_neg (by omega)]; omega
theorem p1_16 (q : Nat) : p1 (p1 (p1 (p1 (16 * q)))) = q := by
  rw [show 16 * q = 2 * (2 * (2 * (2 * q))) by omega, p1_even, p1_even, p1_even, p1_even]
theorem p1_low : ∀ r : Fin 16, p1 (p1 (p1 (p1 r.val))) = tblN.getD r.val 0 := by decide
theorem split16 (n : Nat) : n = (16 * (n / 16)) ^^^ (n % 16) := by
  apply Nat.eq_of_testBit_eq
  intro i
  have h1 := Nat.testBit_two_pow_mul_add (n / 16) (b := n % 16) (i := 4) (by omega) i
  have h2 := @Nat.testBit_two_pow_mul 4 (n / 16) i
  rw [show 2 ^ 4 * (n / 16) + n % 16 = n by omega] at h1
  rw [h1, Nat.testBit_xor, show 16 * (n / 16) = 2 ^ 4 * (n / 16) from rfl, h2]
  by_cases hi : i < 4
  · rw [if_pos hi]; simp [show ¬ 4 ≤ i by omega]
  · rw [if_neg hi]
    have : (n % 16).testBit i = false := Nat.testBit_lt_two_pow (Nat.lt_of_lt_of_le (show n % 16 < 2 ^ 4 by omega) (Nat.pow_le_pow_right (by decide) (by omega)))
    simp [this, show 4 ≤ i by omega]
def q1 (n : Nat) : Nat := (n / 16) ^^^ tblN.getD (n % 16) 0
theorem p1_4 (n : Nat) : p1 (p1 (p1 (p1 n))) = q1 n := by
  conv => lhs; rw [split16 n]
  rw [p1_xor, p1_xor, p1_xor, p1_xor, p1_16]
  have := p1_low ⟨n % 16, by omega⟩
  simp only at this
  rw [this, q1]
theorem p1_lt {n : Nat} (h : n < 4294967296) : p1 n < 4294967296 := by
  unfold p1
  split
  · exact Nat.xor_lt_two_pow (n := 32) (by omega) (by decide)
  · omega
theorem q1_lt {n : Nat} (h : n < 4294967296) : q1 n < 4294967296 := by rw [← p1_4]; exact p1_lt (p1_lt (p1_lt (p1_lt h)))
def byteP (n : Nat) : Nat := q1 (q1 n)
theorem byteP_lt {n : Nat} (h : n < 4294967296) : byteP n < 4294967296 := q1_lt (q1_lt h)
def addN (c : Nat) (l : List UInt8) : Nat := l.foldl (fun c b => byteP (c ^^^ b.toNat)) c
theorem wk_u32N {n : Nat} (h : n < 4294967296) : WK .u32 (n : Int) = (n : Int) := by rw [wk_u32_mod]; omega
theorem xorN {a b : Nat} (ha : a < 4294967296) (hb : b < 4294967296) : xorK .u32 (a : Int) (b : Int) = ((a ^^^ b : Nat) : Int) := by
  show WK .u32 (((BitVec.ofInt 32 (a : Int)) ^^^ (BitVec.ofInt 32 (b : Int))).toNat : Int) = _
  rw [BitVec.toNat_xor, BitVec.toNat_ofInt, BitVec.toNat_ofInt]
  rw [show ((a : Int) % ((2 ^ 32 : Nat) : Int)).toNat = a by omega, show ((b : Int) % ((2 ^ 32 : Nat) : Int)).toNat = b by omega]
  exact wk_u32N (Nat.xor_lt_two_pow (n := 32) ha hb)
theorem and15 {a : Nat} (ha : a < 4294967296) : andK .u32 (a : Int) 15 = ((a % 16 : Nat) : Int) := by
  show WK .u32 (((BitVec.ofInt 32 (a : Int)) &&& (BitVec.ofInt 32 (15 : Int))).toNat : Int) = _
  rw [BitVec.toNat_and, BitVec.toNat_ofInt, BitVec.toNat_ofInt]
  rw [show ((a : Int) % ((2 ^ 32 : Nat) : Int)).toNat = a by omega, show ((15 : Int) % ((2 ^ 32 : Nat) : Int)).toNat = 2 ^ 4 - 1 by decide, Nat.and_two_pow_sub_one_eq_mod]
  exact wk_u32N (by omega)
theorem shr4 (a : Nat) : shrK .u32 (a : Int) 4 = ((a / 16 : Nat) : Int) := by
  show Int.fdiv (a : Int) (2 ^ (min (4 : Int).toNat 32)) = _
  rw [show ((2 : Int) ^ (min (4 : Int).toNat 32)) = ((16 : Nat) : Int) by decide, Int.fdiv_eq_ediv_of_nonneg _ (Int.natCast_nonneg _)]
  exact (Int.natCast_ediv _ _).symm
theorem tbl_at : ∀ r : Fin 16, vAt 0 vgl_check_table ((r.val : Nat) : Int) = ((tblN.getD r.val 0 : Nat) : Int) := by decide
theorem tbl_lt : ∀ r : Fin 16, tblN.getD r.val 0 < 4294967296 := by decide
theorem nib {a : Nat} (ha : a < 4294967296) : xorK .u32 (shrK .u32 (a : Int) 4) (vAt 0 vgl_check_table (andK .u32 (a : Int) 15)) = ((q1 a : Nat) : Int) := by
  have h1 := tbl_at ⟨a % 16, by omega⟩
  have h2 := tbl_lt ⟨a % 16, by omega⟩
  simp only at h1 h2
  rw [and15 ha, h1, shr4, xorN (by omega) h2, q1]
theorem addN_lt (c : Nat) (h : c < 4294967296) (l : List UInt8) : addN c l < 4294967296 := by
  induction l generalizing c with
  | nil => exact h
  | cons b t ih => exact ih _ (byteP_lt (Nat.xor_lt_two_pow (n := 32) h (by have := b.toNat_lt; omega)))
theorem xorF {b : Nat} (hb : b < 4294967296) : xorK .u32 4294967295 (b : Int) = ((4294967295 ^^^ b : Nat) : Int) := xorN (a := 4294967295) (by decide) hb
theorem sAt_byte (l : List UInt8) (i : Nat) (hi : i < l.length) : sAt (mkB l) (i : Int) = ((l[i].toNat : Nat) : Int) := by
  rw [sAt_mkB, Int.toNat_natCast, List.getD_eq_getElem?_getD, List.getElem?_eq_getElem hi]; rfl
theorem addN_take (c : Nat) (l : List UInt8) (i : Nat) (hi : i < l.length) : addN c (l.take (i + 1)) = byteP (addN c (l.take i) ^^^ l[i].toNat) := by
  unfold addN
  rw [List.take_succ_eq_append_getElem hi, List.foldl_append, List.foldl_cons, List.foldl_nil]
def sumN (c : Nat) (l : List UInt8) : Nat := 4294967295 ^^^ addN (4294967295 ^^^ c) l
theorem sumN_lt {c : Nat} (hc : c < 4294967296) (l : List UInt8) : sumN c l < 4294967296 := Nat.xor_lt_two_pow (n := 32) (by decide) (addN_lt _ (Nat.xor_lt_two_pow (n := 32) (by decide) hc) l)
theorem cadd_ok (k : Nat) {c : Nat} (hc : c < 4294967296) {l : List UInt8} (hl : l.length < k) (hl2 : l.length < 1000000) : check_Add k ((c : Int), mkB l, vgl_check_table) = some ((sumN c l : Nat) : Int) := by
  have hc' : 4294967295 ^^^ c < 4294967296 := Nat.xor_lt_two_pow (n := 32) (by decide) hc
  have h0 : xorK .u32 4294967295 (c : Int) = ((4294967295 ^^^ c : Nat) : Int) := xorN (a := 4294967295) (by decide) hc
  unfold check_Add
  simp only [h0]
  refine bind_of (a := ((addN (4294967295 ^^^ c) l : Nat) : Int)) ?_ (by rw [xorF (addN_lt _ hc' _)]; rfl)
  refine loopK_run (fun i => (((addN (4294967295 ^^^ c) (l.take i) : Nat) : Int), (i : Int))) l.length _ k ?_ ?_ hl
  · intro i hi
    have hb : l[i].toNat < 4294967296 := by have := l[i].toNat_lt; omega
    have ha := addN_lt (4294967295 ^^^ c) hc' (l.take i)
    have hx : addN (4294967295 ^^^ c) (l.take i) ^^^ l[i].toNat < 4294967296 := Nat.xor_lt_two_pow (n := 32) ha hb
    simp only [blen_mkB, ilt_t (show (i : Int) < (l.length : Int) by omega), condO_true, sAt_byte l i hi, wk_u32N hb, xorN ha hb, wk_i64 (x := (i : Int) + 1) (by omega) (by omega), addN_take _ l i hi]
    generalize addN (4294967295 ^^^ c) (l.take i) ^^^ l[i].toNat = n at hx ⊢
    rw [nib hx, nib (q1_lt hx), and15 hx, and15 (q1_lt hx)]
    rw [guardO_pos ⟨by omega, by omega⟩, guardO_pos (by decide), guardO_pos ⟨by omega, by omega⟩, guardO_pos (by decide), guardO_pos ⟨by omega, by omega⟩]
    rfl
  · simp only [blen_mkB, ilt_f (Int.le_refl _), condO_false, List.take_length]
def bitN (j n : Nat) : Nat := Nat.repeat p1 j n
theorem bitN_8 (n : Nat) : bitN 8 n = byteP n := by
  show p1 (p1 (p1 (p1 (p1 (p1 (p1 (p1 n))))))) = _
  rw [p1_4, p1_4]; rfl
theorem bitN_lt {n : Nat} (h : n < 4294967296) : ∀ j, bitN j n < 4294967296
  | 0 => h
  | j + 1 => p1_lt (bitN_lt h j)
theorem radd_ok (k : Nat) (hk : 8 < k) {c : Nat} (hc : c < 4294967296) {l : List UInt8} (hl : l.length < k) (hl2 : l.length < 1000000) : ref04_Add k ((c : Int), mkB l) = some ((sumN c l : Nat) : Int) := by
  have hc' : 4294967295 ^^^ c < 4294967296 := Nat.xor_lt_two_pow (n := 32) (by decide) hc
  have h0 : xorK .u32 4294967295 (c : Int) = ((4294967295 ^^^ c : Nat) : Int) := xorN (a := 4294967295) (by decide) hc
  unfold ref04_Add
  simp only [h0]
  refine bind_of (a := ((addN (4294967295 ^^^ c) l : Nat) : Int)) ?_ (by rw [xorF (addN_lt _ hc' _)]; rfl)
  refine loopK_run (fun i => (((addN (4294967295 ^^^ c) (l.take i) : Nat) : Int), (i : Int))) l.length _ k ?_ ?_ hl
  · intro i hi
    have hb : l[i].toNat < 4294967296 := by have := l[i].toNat_lt; omega
    have ha := addN_lt (4294967295 ^^^ c) hc' (l.take i)
    have hx : addN (4294967295 ^^^ c) (l.take i) ^^^ l[i].toNat < 4294967296 := Nat.xor_lt_two_pow (n := 32) ha hb
    simp only [blen_mkB, ilt_t (show (i : Int) < (l.length : Int) by omega), condO_true, sAt_byte l i hi, wk_u32N hb, xorN ha hb, wk_i64 (x := (i : Int) + 1) (by omega) (by omega), addN_take _ l i hi]
    rw [guardO_pos ⟨by omega, by omega⟩]
    refine bind_of (a := ((byteP (addN (4294967295 ^^^ c) (l.take i) ^^^ l[i].toNat) : Nat) : Int)) ?_ rfl
    generalize addN (4294967295 ^^^ c) (l.take i) ^^^ l[i].toNat = n at hx ⊢
    refine loopK_run (fun j => (((bitN j n : Nat) : Int), (j : Int))) 8 _ k ?_ ?_ hk
    · intro j hj
      have hn := bitN_lt hx j
      simp only [ilt_t (show (j : Int) < 8 by omega), condO_true]
      rw [guardO_pos (by decide), guardO_pos (by decide)]
      have e1 : Int.tmod ((bitN j n : Nat) : Int) 2 = ((bitN j n % 2 : Nat) : Int) := by rw [Int.tmod_eq_emod_of_nonneg (by omega)]; omega
      have e2 : Int.tdiv ((bitN j n : Nat) : Int) 2 = ((bitN j n / 2 : Nat) : Int) := by rw [Int.tdiv_eq_ediv_of_nonneg (by omega)]; omega
      have e3 : bitN (j + 1) n = p1 (bitN j n) := rfl
      rw [e1, e2, wk_u32N (by omega), wk_i64 (x := (j : Int) + 1) (by omega) (by omega), e3, p1]
      have e4 := xorN (a := bitN j n / 2) (b := 3988292384) (by omega) (by decide)
      by_cases h : bitN j n % 2 = 1
      · rw [if_pos h, ieq_t (by omega), condO_true, ← e4]; rfl
      · rw [if_neg h, ieq_f (by omega), condO_false]; rfl
    · have := bitN_8 n
      simp only [ilt_f (show (8 : Int) ≤ ((8 : Nat) : Int) from Int.le_refl _), condO_false, this]
  · simp only [blen_mkB, ilt_f (Int.le_refl _), condO_false, List.take_length]
def tailL (n : Nat) : List UInt8 := [UInt8.ofNat (n % 256), UInt8.ofNat (n / 256 % 256), UInt8.ofNat (n / 65536 % 256), UInt8.ofNat (n / 16777216 % 256)]
def sealL (l : List UInt8) : List UInt8 := l ++ tailL (sumN 0 l)
theorem shr_b (n : Nat) (j : Int) (m : Nat) (h0 : 0 ≤ j) (hj : j ≤ 32) (hm : 2 ^ j.toNat = m) : WK .u8 (shrK .u32 (n : Int) j) = ((n / m % 256 : Nat) : Int) := by
  have : shrK .u32 (n : Int) j = ((n / m : Nat) : Int) := by
    show Int.fdiv (n : Int) (2 ^ (min j.toNat 32)) = _
    rw [show min j.toNat 32 = j.toNat by omega, show ((2 : Int) ^ j.toNat) = ((m : Nat) : Int) by rw [← hm]; exact (Int.natCast_pow 2 _).symm, Int.fdiv_eq_ediv_of_nonneg _ (Int.natCast_nonneg _)]
    exact (Int.natCast_ediv _ _).symm
  rw [this, wk_u8_mod]; omega
theorem wk_8 (n : Nat) : WK .u8 (n : Int) = ((n % 256 : Nat) : Int) := by rw [wk_u8_mod]; omega
theorem nums_tail (n : Nat) : strOfNums ([((n % 256 : Nat) : Int), ((n / 256 % 256 : Nat) : Int), ((n / 65536 % 256 : Nat) : Int), ((n / 16777216 % 256 : Nat) : Int)] : List Int) = mkB (tailL n) := by
  rw [nums_mkB]; simp only [List.map_cons, List.map_nil, Int.toNat_natCast, tailL]
theorem rseal_ok (k : Nat) (hk : 8 < k) {l : List UInt8} (hl : l.length < k) (hl2 : l.length < 100000) : ref04_Seal k (mkB l) = some (mkB (sealL l)) := by
  unfold ref04_Seal
  have h0 : ref04_Add k (0, mkB l) = _ := radd_ok k hk (c := 0) (by decide) hl (by omega)
  rw [h0]
  simp only [Option.bind_some]
  rw [wk_8, shr_b _ 8 256 (by decide) (by decide) (by decide), shr_b _ 16 65536 (by decide) (by decide) (by decide), shr_b _ 24 16777216 (by decide) (by decide) (by decide), nums_tail, mkB_app]
  rw [guardO_pos (by decide), guardO_pos (by decide), guardO_pos (by decide), guardO_pos (by unfold catOk; rw [mkB_size, mkB_size]; simp only [tailL, List.length_cons, List.length_nil]; omega)]
  rfl
theorem cof_ok (k : Nat) (hk : 2 < k) {l : List UInt8} (hl : l.length < k) (hl2 : l.length < 100000) : check_Of k ([mkB l], vgl_check_table) = some ((sumN 0 l : Nat) : Int) := by
  unfold check_Of
  refine bind_of (a := ((sumN 0 l : Nat) : Int)) ?_ rfl
  refine loopK_run (fun i => (if i = 0 then (0 : Int) else ((sumN 0 l : Nat) : Int), (i : Int))) 1 _ k ?_ ?_ (by omega)
  · intro i hi
    obtain rfl : i = 0 := by omega
    have := cadd_ok k (c := 0) (by decide) hl (by omega)
    have e : at_ .str [mkB l] ((0 : Nat) : Int) = mkB l := rfl
    simp only [if_true, e]
    rw [ilt_t (by simp only [llen, List.length_cons, List.length_nil]; omega), condO_true, guardO_pos ⟨by decide, by simp only [llen, List.length_cons, List.length_nil]; omega⟩]
    exact bind_of this rfl
  · rfl
theorem seal_ok (k : Nat) (hk : 8 < k) {l : List UInt8} (hl : l.length < k) (hl2 : l.length < 100000) : check_Seal k (mkB l, vgl_check_table) = some (mkB (sealL l)) := by
  unfold check_Seal
  simp only
  rw [cof_ok k (by omega) hl hl2]
  simp only [Option.bind_some]
  refine bind_of (a := (⟨#[((sumN 0 l % 256 : Nat) : Int), ((sumN 0 l / 256 % 256 : Nat) : Int), ((sumN 0 l / 65536 % 256 : Nat) : Int), ((sumN 0 l / 16777216 % 256 : Nat) : Int)], rfl⟩ : Vector Int 4)) ?_ ?_
  · obtain ⟨k, rfl⟩ : ∃ m, k = m + 5 := ⟨k - 5, by omega⟩
    have h0 := shr_b (sumN 0 l) 0 1 (by decide) (by decide) (by decide)
    have h1 := shr_b (sumN 0 l) 8 256 (by decide) (by decide) (by decide)
    have h2 := shr_b (sumN 0 l) 16 65536 (by decide) (by decide) (by decide)
    have h3 := shr_b (sumN 0 l) 24 16777216 (by decide) (by decide) (by decide)
    rw [Nat.div_one] at h0
    have n0 : WK .i64 (8 * 0) = 0 := by decide
    have n1 : WK .i64 (8 * 1) = 8 := by decide
    have n2 : WK .i64 (8 * 2) = 16 := by decide
    have n3 : WK .i64 (8 * 3) = 24 := by decide
    refine loopK_run (fun i => ((i : Int), (if i = 0 then Vector.replicate 4 0 else if i = 1 then ⟨#[((sumN 0 l % 256 : Nat) : Int), 0, 0, 0], rfl⟩ else if i = 2 then ⟨#[((sumN 0 l % 256 : Nat) : Int), ((sumN 0 l / 256 % 256 : Nat) : Int), 0, 0], rfl⟩ else if i = 3 then ⟨#[((sumN 0 l % 256 : Nat) : Int), ((sumN 0 l / 256 % 256 : Nat) : Int), ((sumN 0 l / 65536 % 256 : Nat) : Int), 0], rfl⟩ else ⟨#[((sumN 0 l % 256 : Nat) : Int), ((sumN 0 l / 256 % 256 : Nat) : Int), ((sumN 0 l / 65536 % 256 : Nat) : Int), ((sumN 0 l / 16777216 % 256 : Nat) : Int)], rfl⟩ : Vector Int 4))) 4 _ (k + 5) ?_ ?_ (by omega)
    · intro i hi
      match i, hi with
      | 0, _ => simp only [show ((0 : Nat) : Int) = 0 from rfl, n0, h0]; rfl
      | 1, _ => simp only [show ((1 : Nat) : Int) = 1 from rfl, n1, h1]; rfl
      | 2, _ => simp only [show ((2 : Nat) : Int) = 2 from rfl, n2, h2]; rfl
      | 3, _ => simp only [show ((3 : Nat) : Int) = 3 from rfl, n3, h3]; rfl
    · rfl
  · have e : strOfNums (Vector.toList (⟨#[((sumN 0 l % 256 : Nat) : Int), ((sumN 0 l / 256 % 256 : Nat) : Int), ((sumN 0 l / 65536 % 256 : Nat) : Int), ((sumN 0 l / 16777216 % 256 : Nat) : Int)], rfl⟩ : Vector Int 4)) = mkB (tailL (sumN 0 l)) := nums_tail _
    simp only [e, mkB_app]
    rw [guardO_pos (by unfold catOk; rw [mkB_size, mkB_size]; simp only [tailL, List.length_cons, List.length_nil]; omega)]
    rfl
theorem sealL_len (l : List UInt8) : (sealL l).length = l.length + 4 := by simp [sealL, tailL]
end Go.Proofs.YtlidgpepppjeiaaGreatDoor
/- The lines of a journal: the program's and the document's are one. No condition. -/
set_option linter.unusedVariables false
set_option linter.unusedSimpArgs false
namespace Go.Proofs.YtlidgpepppjeiaaGreatDoor
open Go
def kpn (n : Int) (m : Nat) : Nat := min n.toNat m
theorem kpn_le (n : Int) (m : Nat) : kpn n m ≤ m := Nat.min_le_right _ _
theorem mn_kp (n : Int) (m : Nat) : mnI (mxI n 0) (m : Int) = ((kpn n m : Nat) : Int) := by
  unfold mnI mxI kpn
  by_cases h : (0 : Int) > n
  · rw [if_pos h, if_neg (by omega)]; omega
  · rw [if_neg h]; split <;> omega
theorem mn60 (n : Nat) : mnI (n : Int) 60 = ((min n 60 : Nat) : Int) := by unfold mnI; split <;> omega
theorem keep_ok (k : Nat) (n : Int) (m : Nat) (hm : m ≤ 1099511627776) : ref07_keep k (n, (m : Int)) = some ((kpn n m : Nat) : Int) := by
  unfold ref07_keep kpn
  simp only
  by_cases h : n < 0
  · rw [ilt_t h, condO_true]; congr 1; omega
  · rw [ilt_f (by omega), condO_false]
    by_cases h2 : n > (m : Int)
    · rw [igt_t h2, condO_true, wk_u64 (by omega) (by omega)]; congr 1; omega
    · rw [igt_f (by omega), condO_false, wk_u64 (by omega) (by omega)]; congr 1; omega
theorem cput (n : Int) (m : Nat) (hm : m ≤ 1099511627776) : octet_Put 1000 (WK .u64 (mnI (mxI n 0) (m : Int))) = some (mkB (putL (kpn n m))) := by
  have := kpn_le n m
  rw [mn_kp, wk_u64 (by omega) (by omega)]
  exact put_ok 1000 (by decide) (by omega)
theorem cput40 (n : Int) : octet_Put 1000 (WK .u64 (mnI (mxI n 0) 1099511627776)) = some (mkB (putL (kpn n 1099511627776))) := cput n 1099511627776 (by decide)
theorem cput16 (n : Int) : octet_Put 1000 (WK .u64 (mnI (mxI n 0) 65535)) = some (mkB (putL (kpn n 65535))) := cput n 65535 (by decide)
theorem keep40 (n : Int) : ref07_keep 1000 (n, 1099511627776) = some ((kpn n 1099511627776 : Nat) : Int) := keep_ok 1000 n 1099511627776 (by decide)
theorem keep16 (n : Int) : ref07_keep 1000 (n, 65535) = some ((kpn n 65535 : Nat) : Int) := keep_ok 1000 n 65535 (by decide)
theorem rkput (n : Int) (m : Nat) (hm : m ≤ 1099511627776) : ref01_Put 1000 ((kpn n m : Nat) : Int) = some (mkB (putL (kpn n m))) := by
  have := kpn_le n m
  exact rput_ok 1000 (by decide) (by omega)
theorem putL_le {x : Nat} (h : x < 18446744073709551616) : (putL x).length ≤ 9 := by rw [putL_len]; have := wdt_le h; omega
theorem kput_le (n : Int) (m : Nat) (hm : m ≤ 1099511627776) : (putL (kpn n m)).length ≤ 9 := putL_le (by have := kpn_le n m; omega)
theorem wdt_16 {x : Nat} (h : x ≤ 65535) : wdt x ≤ 2 := by
  have : Lib.bitLen x ≤ 16 := Lib.bitLen_le x 16 (by decide) (by omega)
  unfold wdt; omega
theorem kput16_le (n : Int) : (putL (kpn n 65535)).length ≤ 3 := by rw [putL_len]; have := wdt_16 (kpn_le n 65535); omega
def headT (p s : Int) : List UInt8 := [83, 67, 72] ++ putL (kpn p 65535) ++ putL (kpn s 1099511627776)
def lastT (s n : Int) : List UInt8 := [83, 67, 67] ++ putL (kpn s 1099511627776) ++ putL (kpn n 1099511627776)
def restT (a : List Int) : List UInt8 := a.flatMap fun x => putL (kpn x 65535)
def firstT (s : Int) (a : List Int) : List UInt8 := [83, 67, 68] ++ putL (kpn s 1099511627776) ++ putL (min a.length 60) ++ restT (a.take (min a.length 60))
theorem restT_le : ∀ a : List Int, (restT a).length ≤ 3 * a.length
  | [] => by simp [restT]
  | x :: a => by
    have h1 := restT_le a
    have h2 := kput16_le x
    simp only [restT, List.flatMap_cons, List.length_append, List.length_cons] at h1 ⊢
    omega
theorem headT_len (p s : Int) : (headT p s).length ≤ 30 := by
  have h1 := kput_le p 65535 (by decide)
  have h2 := kput_le s 1099511627776 (by decide)
  simp only [headT, List.length_append, List.length_cons, List.length_nil]; omega
theorem lastT_len (p s : Int) : (lastT p s).length ≤ 30 := by
  have h1 := kput_le p 1099511627776 (by decide)
  have h2 := kput_le s 1099511627776 (by decide)
  simp only [lastT, List.length_append, List.length_cons, List.length_nil]; omega
theorem firstT_len (s : Int) (a : List Int) : (firstT s a).length ≤ 210 := by
  have h1 := kput_le s 1099511627776 (by decide)
  have h2 := putL_le (x := min a.length 60) (by omega)
  have h3 := restT_le (a.take (min a.length 60))
  rw [List.length_take] at h3
  simp only [firstT, List.length_append, List.length_cons, List.length_nil]; omega
def lineB (t : List UInt8) : ByteArray := (secB (sealL t)).1
theorem line_ok {t : List UInt8} (h : t.length ≤ 250) {β : Type} {f : ByteArray × Int → Option β} : ((check_Seal 1000 (mkB t, vgl_check_table)).bind fun r => (sector_Fill 1000 r).bind f) = f (secB (sealL t)) := by
  rw [seal_ok 1000 (by decide) (by omega) (by omega)]
  simp only [Option.bind_some]
  rw [sfill_ok (by rw [sealL_len]; omega)]
  rfl
theorem rline_ok {t : List UInt8} (h : t.length ≤ 250) {β : Type} {f : ByteArray × Int → Option β} : ((ref04_Seal 1000 (mkB t)).bind fun r => (ref05_Fill 1000 r).bind f) = f (secB (sealL t)) := by
  rw [rseal_ok 1000 (by decide) (by omega) (by omega)]
  simp only [Option.bind_some]
  rw [rfill_ok (by rw [sealL_len]; omega)]
  rfl
theorem catOk_small {a b : List UInt8} (ha : a.length ≤ 100000) (hb : b.length ≤ 100000) : catOk (mkB a) (mkB b) := by unfold catOk; rw [mkB_size, mkB_size]; omega
theorem kind3 (a b c : UInt8) : (⟨#[a, b, c]⟩ : ByteArray) = mkB [a, b, c] := rfl
theorem rest_take (a : List Int) (i : Nat) (hi : i < a.length) : restT (a.take (i + 1)) = restT (a.take i) ++ putL (kpn a[i] 65535) := by
  unfold restT
  rw [List.take_succ_eq_append_getElem hi, List.flatMap_append, List.flatMap_cons, List.flatMap_nil, List.append_nil]
theorem at_int (a : List Int) (i : Nat) (hi : i < a.length) : at_ (.int .i64) a (i : Int) = a[i] := by
  show a.getD (i : Int).toNat _ = _
  rw [Int.toNat_natCast, List.getD_eq_getElem?_getD, List.getElem?_eq_getElem hi]; rfl
theorem first_ok (s : Int) (a : List Int) (ha : a.length ≤ 100000) : redo_First 1000 (s, a, vgl_check_table) = some (lineB (firstT s a)) := by
  unfold redo_First
  have hs := kput_le s 1099511627776 (by decide)
  have hn := putL_le (x := min a.length 60) (by omega)
  have e0 : mnI (llen a) 60 = ((min a.length 60 : Nat) : Int) := mn60 _
  have hb : (a.take (min a.length 60)).length = min a.length 60 := by rw [List.length_take]; omega
  simp only [e0, ltake, Int.toNat_natCast]
  rw [guardO_pos ⟨by omega, by omega, by show ((min a.length 60 : Nat) : Int) ≤ (a.length : Int); omega, rfl⟩, cput40 s]
  simp only [Option.bind_some]
  rw [kind3, guardO_pos (catOk_small (by decide) (by omega)), mkB_app]
  have e1 : octet_Put 1000 (WK .u64 (mnI (mxI (llen (a.take (min a.length 60))) 0) 60)) = some (mkB (putL (min a.length 60))) := by
    have := cput (llen (a.take (min a.length 60))) 60 (by decide)
    rw [llen, hb] at this ⊢
    rw [show ((60 : Nat) : Int) = 60 from rfl] at this
    rw [this]
    congr 3
    unfold kpn
    omega
  rw [e1]
  simp only [Option.bind_some]
  rw [guardO_pos (catOk_small (by simp only [List.length_append, List.length_cons, List.length_nil]; omega) (by omega)), mkB_app]
  refine bind_of (a := mkB (firstT s a)) ?_ ?_
  · have st : firstT s a = [83, 67, 68] ++ putL (kpn s 1099511627776) ++ putL (min a.length 60) ++ restT ((a.take (min a.length 60)).take (min a.length 60)) := by
      unfold firstT; rw [List.take_take, Nat.min_self]
    generalize hbb : a.take (min a.length 60) = b at hb st ⊢
    generalize hnn : min a.length 60 = n at hb st ⊢
    have hn60 : n ≤ 60 := by omega
    rw [st]
    have s0 : mkB ([83, 67, 68] ++ putL (kpn s 1099511627776) ++ putL n) = mkB ([83, 67, 68] ++ putL (kpn s 1099511627776) ++ putL n ++ restT (b.take 0)) := by simp [restT]
    rw [hnn] at hn
    simp only [s0]
    refine loopK_run (fun i => (mkB ([83, 67, 68] ++ putL (kpn s 1099511627776) ++ putL n ++ restT (b.take i)), (i : Int))) n _ 1000 ?_ ?_ (by omega)
    · intro i hi
      have hr := restT_le (b.take i)
      rw [List.length_take] at hr
      have h16 := kput16_le b[i]
      simp only [llen]
      rw [ilt_t (by omega), condO_true, guardO_pos ⟨by omega, by omega⟩, at_int b i (by omega), cput16]
      simp only [Option.bind_some]
      rw [guardO_pos (catOk_small (by simp only [List.length_append, List.length_cons, List.length_nil]; omega) (by omega)), mkB_app, wk_i64 (x := (i : Int) + 1) (by omega) (by omega), rest_take b i (by omega), List.append_assoc]
      rfl
    · simp only [llen]
      rw [ilt_f (by omega), condO_false]
  · have := firstT_len s a
    rw [line_ok (by omega)]; rfl
theorem rfirst_ok (s : Int) (a : List Int) (ha : a.length ≤ 100000) : ref07_First 1000 (s, a) = some (lineB (firstT s a)) := by
  unfold ref07_First
  have hs := kput_le s 1099511627776 (by decide)
  have hn := putL_le (x := min a.length 60) (by omega)
  simp only
  refine bind_of (a := ((min a.length 60 : Nat) : Int)) ?_ ?_
  · by_cases h : 60 < a.length
    · rw [igt_t (by simp only [llen]; omega), condO_true]; congr 1; omega
    · rw [igt_f (by simp only [llen]; omega), condO_false]; congr 1; simp only [llen]; omega
  rw [keep40]
  simp only [Option.bind_some]
  rw [rkput s _ (by decide)]
  simp only [Option.bind_some]
  rw [kind3, guardO_pos (catOk_small (by decide) (by omega)), mkB_app, wk_u64 (by omega) (by omega), rput_ok 1000 (by decide) (by omega)]
  simp only [Option.bind_some]
  rw [guardO_pos (catOk_small (by simp only [List.length_append, List.length_cons, List.length_nil]; omega) (by omega)), mkB_app]
  refine bind_of (a := mkB (firstT s a)) ?_ ?_
  · have st : firstT s a = [83, 67, 68] ++ putL (kpn s 1099511627776) ++ putL (min a.length 60) ++ restT (a.take (min a.length 60)) := rfl
    rw [st]
    have s0 : mkB ([83, 67, 68] ++ putL (kpn s 1099511627776) ++ putL (min a.length 60)) = mkB ([83, 67, 68] ++ putL (kpn s 1099511627776) ++ putL (min a.length 60) ++ restT (a.take 0)) := by simp [restT]
    have hn60 : min a.length 60 ≤ 60 := by omega
    have hnl : min a.length 60 ≤ a.length := by omega
    generalize min a.length 60 = n at hn s0 hn60 hnl ⊢
    simp only [s0]
    refine loopK_run (fun i => (mkB ([83, 67, 68] ++ putL (kpn s 1099511627776) ++ putL n ++ restT (a.take i)), (i : Int))) n _ 1000 ?_ ?_ (by omega)
    · intro i hi
      have hr := restT_le (a.take i)
      rw [List.length_take] at hr
      have h16 := kput16_le a[i]
      rw [ilt_t (by simp only; omega), condO_true, guardO_pos ⟨by simp only; omega, by simp only [llen]; omega⟩, at_int a i (by omega), keep16]
      simp only [Option.bind_some]
      rw [rkput _ _ (by decide)]
      simp only [Option.bind_some]
      rw [guardO_pos (catOk_small (by simp only [List.length_append, List.length_cons, List.length_nil]; omega) (by omega)), mkB_app, wk_i64 (x := (i : Int) + 1) (by omega) (by omega), rest_take a i (by omega), List.append_assoc]
      rfl
    · simp only
      rw [ilt_f (by omega), condO_false]
  · have := firstT_len s a
    rw [rline_ok (by omega)]; rfl
end Go.Proofs.YtlidgpepppjeiaaGreatDoor
/- Octets: what the program's and the document's functions answer. No condition. -/
set_option linter.unusedVariables false
set_option linter.unusedSimpArgs false
namespace Go.Proofs.YtlidgpepppjeiaaGreatDoor
open Go
theorem take_ok (k : Nat) {l : List UInt8} {n : Int} (h0 : 0 ≤ n) (h1 : n ≤ l.length) : octet_Scan_take k (n, mkB l, false) = some (mkB (l.take n.toNat), true, mkB (l.drop n.toNat), false) := by
  unfold octet_Scan_take
  simp only [condO_false, ilt_f h0, igt_f (show n ≤ blen (mkB l) by rw [blen_mkB]; exact h1)]
  rw [guardO_pos ⟨by decide, h0, by rw [blen_mkB]; exact h1⟩, guardO_pos ⟨h0, by rw [blen_mkB]; exact h1, Int.le_refl _⟩, scut_take, scut_drop]
theorem take_bad (k : Nat) {l : List UInt8} {n : Int} (h : n < 0 ∨ (l.length : Int) < n) : octet_Scan_take k (n, mkB l, false) = some (str0, false, mkB l, true) := by
  unfold octet_Scan_take
  by_cases h0 : n < 0
  · simp only [condO_false, ilt_t h0, condO_true]
  · simp only [condO_false, ilt_f (show 0 ≤ n by omega), igt_t (show blen (mkB l) < n by rw [blen_mkB]; omega), condO_true]
theorem take_spoilt (k : Nat) (s : ByteArray) (n : Int) : octet_Scan_take k (n, s, true) = some (str0, false, s, true) := by
  unfold octet_Scan_take
  simp only [condO_true]
theorem byteI (c : UInt8) : WK .i64 (c.toNat : Int) = (c.toNat : Int) := by
  have := byte_lt c
  exact wk_i64 (by omega) (by omega)
theorem long_loop (k : Nat) (hk : 8 < k) (l : List UInt8) (hl : l.length ≤ 8) {R : Type} (f : Int → Option R) :
    (loopK (H := Int × Int) (E := Int) k (fun h4 => condO (ilt h4.2 (blen (mkB l))) (guardO ((nn 8)) (guardO ((inR h4.2 (blen (mkB l)))) (some (.inl (((orK .u64 (shlK .u64 h4.1 8) (WK .u64 (sAt (mkB l) h4.2))), (WK .i64 (h4.2 + 1)))))))) (some (.inr (h4.1)))) ((0, 0))).bind f = f (bval l : Int) := by
  refine bind_of (a := (bval l : Int)) ?_ rfl
  refine loopK_run (fun i => ((bval (l.take i) : Int), (i : Int))) l.length (bval l : Int) k ?_ ?_ (by omega)
  · intro i hi
    have hb := byte_lt (l.getD i 0)
    have hv := bval_take_lt l i (by omega)
    simp only [blen_mkB, ilt_t (show (i : Int) < (l.length : Int) by omega), condO_true, sAt_mkB, Int.toNat_natCast]
    rw [guardO_pos (by decide), guardO_pos ⟨by omega, by omega⟩, wk_u64 (by omega) (by omega), wk_i64 (by omega) (by omega), or_shl (by omega) (by omega) (by omega) (by omega), bval_take l i hi]
    congr 3
  · simp only [blen_mkB, ilt_f (Int.le_refl _), condO_false, List.take_length]
theorem long_none (k : Nat) (hk : 8 < k) {l : List UInt8} (h : longL l = none) : ∃ t, octet_Scan_Long k (mkB l, false) = some (0, t, true) := by
  unfold octet_Scan_Long
  have lp : ∀ (t : ByteArray), (loopK (H := Int × Int) (E := Int) k (fun h4 => condO (ilt h4.2 (blen str0)) (guardO ((nn 8)) (guardO ((inR h4.2 (blen str0))) (some (.inl (((orK .u64 (shlK .u64 h4.1 8) (WK .u64 (sAt str0 h4.2))), (WK .i64 (h4.2 + 1)))))))) (some (.inr (h4.1)))) ((0, 0))).bind (fun r4 => some (r4, t, true)) = some (0, t, true) := fun t => long_loop k hk [] (by decide) _
  cases l with
  | nil =>
    rw [take_bad k (.inr (by decide))]
    exact ⟨_, rfl⟩
  | cons c r =>
    rw [take_ok k (by decide) (by simp; omega)]
    simp only [Option.bind_some, Bool.not_true, condO_false]
    have hc := byte_lt c
    rw [guardO_pos ⟨by decide, by rw [blen_mkB]; show (0 : Int) < ((1 : Nat) : Int); decide⟩]
    have e0 : sAt (mkB (List.take (1 : Int).toNat (c :: r))) 0 = (c.toNat : Int) := rfl
    have e1 : List.drop (1 : Int).toNat (c :: r) = r := rfl
    simp only [e0, e1, byteI]
    by_cases h8 : 8 < c.toNat
    · rw [igt_t (by omega), condO_true]
      simp only [Option.bind_some]
      rw [take_bad k (.inl (by decide))]
      simp only [Option.bind_some, condO_false, caseS_inr]
      exact ⟨_, lp _⟩
    · rw [igt_f (by omega), condO_false]
      simp only [Option.bind_some]
      by_cases hr : r.length < c.toNat
      · rw [take_bad k (.inr (by omega))]
        simp only [Option.bind_some, condO_false, caseS_inr]
        exact ⟨_, lp _⟩
      · have hz : 0 < c.toNat ∧ r.getD 0 0 = 0 := by
          simp only [longL] at h
          split at h
          · rename_i hh
            rcases hh with hh | hh | hh
            · omega
            · omega
            · exact hh
          · cases h
        rw [take_ok k (by omega) (by omega)]
        simp only [Option.bind_some, condO_true]
        rw [igt_t (by omega), condO_true, guardO_pos ⟨by decide, by rw [blen_mkB, List.length_take]; omega⟩]
        have e2 : sAt (mkB (List.take (c.toNat : Int).toNat r)) 0 = 0 := by
          rw [sAt_mkB, Int.toNat_natCast]
          show (((r.take c.toNat).getD 0 0).toNat : Int) = 0
          rw [List.getD_eq_getElem?_getD, List.getElem?_take_of_lt hz.1, ← List.getD_eq_getElem?_getD, hz.2]
          rfl
        rw [e2, ieq_t rfl, condO_true, take_bad k (.inl (by decide))]
        simp only [Option.bind_some, caseS_inl]
        exact ⟨_, rfl⟩
theorem long_some (k : Nat) (hk : 8 < k) {l r : List UInt8} {n : Nat} (h : longL l = some (n, r)) : octet_Scan_Long k (mkB l, false) = some ((n : Int), mkB r, false) := by
  unfold octet_Scan_Long
  cases l with
  | nil => simp [longL] at h
  | cons c r0 =>
    simp only [longL] at h
    split at h
    · cases h
    · rename_i hn
      simp only [Option.some.injEq, Prod.mk.injEq] at h
      obtain ⟨rfl, rfl⟩ := h
      have hn : ¬ 8 < c.toNat ∧ ¬ r0.length < c.toNat ∧ (0 < c.toNat → r0.getD 0 0 ≠ 0) := ⟨fun g => hn (.inl g), fun g => hn (.inr (.inl g)), fun g1 g2 => hn (.inr (.inr ⟨g1, g2⟩))⟩
      have hc := byte_lt c
      rw [take_ok k (by decide) (by simp; omega)]
      simp only [Option.bind_some, Bool.not_true, condO_false]
      rw [guardO_pos ⟨by decide, by rw [blen_mkB]; show (0 : Int) < ((1 : Nat) : Int); decide⟩]
      have e0 : sAt (mkB (List.take (1 : Int).toNat (c :: r0))) 0 = (c.toNat : Int) := rfl
      have e1 : List.drop (1 : Int).toNat (c :: r0) = r0 := rfl
      simp only [e0, e1, byteI]
      rw [igt_f (by omega), condO_false]
      simp only [Option.bind_some]
      rw [take_ok k (by omega) (by omega)]
      simp only [Option.bind_some, condO_true, Int.toNat_natCast]
      have hl := long_loop k hk (r0.take c.toNat) (by rw [List.length_take]; omega) (fun r4 => some (r4, mkB (r0.drop c.toNat), false))
      by_cases h0 : 0 < c.toNat
      · rw [igt_t (by omega), condO_true, guardO_pos ⟨by decide, by rw [blen_mkB, List.length_take]; omega⟩]
        have e2 : ieq (sAt (mkB (List.take c.toNat r0)) 0) 0 = false := by
          refine ieq_f ?_
          rw [sAt_mkB]
          show (((r0.take c.toNat).getD 0 0).toNat : Int) ≠ 0
          rw [List.getD_eq_getElem?_getD, List.getElem?_take_of_lt h0, ← List.getD_eq_getElem?_getD]
          intro g
          exact hn.2.2 h0 (by
            apply UInt8.toNat_inj.1
            have : (0 : UInt8).toNat = 0 := rfl
            omega)
        rw [e2, condO_false]
        simp only [Option.bind_some, caseS_inr]
        exact hl
      · rw [igt_f (by omega), condO_false]
        simp only [Option.bind_some, caseS_inr]
        exact hl
theorem long_spoilt (k : Nat) (s : ByteArray) : octet_Scan_Long k (s, true) = some (0, s, true) := by
  unfold octet_Scan_Long
  rw [take_spoilt]
  rfl
/-! ### numbers up to a bound, and texts -/
def numL (most : Int) (l : List UInt8) : Option (Nat × List UInt8) := (longL l).bind fun x => if most < 0 ∨ most < x.1 then none else some x
theorem num_none (k : Nat) (hk : 8 < k) {l : List UInt8} {most : Int} (hm : most ≤ 9223372036854775807) (h : numL most l = none) : ∃ t, octet_Scan_Num k (most, mkB l, false) = some (0, t, true) := by
  unfold octet_Scan_Num
  cases hL : longL l with
  | none =>
    obtain ⟨t, ht⟩ := long_none k hk hL
    simp only [ht, Option.bind_some, take_spoilt]
    by_cases h0 : most < 0
    · rw [ilt_t h0]; exact ⟨_, rfl⟩
    · rw [ilt_f (by omega), condO_false, igt_f (by rw [wk_u64 (by omega) (by omega)]; omega), condO_false]
      exact ⟨t, rfl⟩
  | some x =>
    obtain ⟨n, r⟩ := x
    simp only [long_some k hk hL, Option.bind_some]
    simp only [numL, hL, Option.bind_some] at h
    have hb : most < 0 ∨ most < (n : Int) := by
      by_cases g : most < 0 ∨ most < (n : Int)
      · exact g
      · rw [if_neg g] at h; cases h
    rw [take_bad k (.inl (by decide))]
    by_cases h0 : most < 0
    · rw [ilt_t h0]; exact ⟨_, rfl⟩
    · rw [ilt_f (by omega), condO_false, igt_t (by rw [wk_u64 (by omega) (by omega)]; omega)]; exact ⟨_, rfl⟩
theorem num_some (k : Nat) (hk : 8 < k) {l r : List UInt8} {n : Nat} {most : Int} (hm : most ≤ 9223372036854775807) (h : numL most l = some (n, r)) : octet_Scan_Num k (most, mkB l, false) = some ((n : Int), mkB r, false) ∧ longL l = some (n, r) ∧ (n : Int) ≤ most := by
  unfold octet_Scan_Num
  cases hL : longL l with
  | none => simp [numL, hL] at h
  | some x =>
    obtain ⟨n', r'⟩ := x
    simp only [numL, hL, Option.bind_some] at h
    split at h
    · cases h
    · rename_i g
      simp only [Option.some.injEq, Prod.mk.injEq] at h
      obtain ⟨rfl, rfl⟩ := h
      have g : ¬ most < 0 ∧ ¬ most < (n' : Int) := ⟨fun a => g (.inl a), fun a => g (.inr a)⟩
      simp only [long_some k hk hL, Option.bind_some]
      refine ⟨?_, trivial, by omega⟩
      rw [ilt_f (by omega), condO_false, igt_f (by rw [wk_u64 (by omega) (by omega)]; omega), condO_false, wk_i64 (by omega) (by omega)]
def textL (most : Int) (l : List UInt8) : Option (List UInt8 × List UInt8) := (numL most l).bind fun x => if x.2.length < x.1 then none else some (x.2.take x.1, x.2.drop x.1)
theorem text_none (k : Nat) (hk : 8 < k) {l : List UInt8} {most : Int} (hm : most ≤ 9223372036854775807) (h : textL most l = none) : ∃ t, octet_Scan_Text k (most, mkB l, false) = some (str0, t, true) := by
  unfold octet_Scan_Text
  cases hL : numL most l with
  | none =>
    obtain ⟨t, ht⟩ := num_none k hk hm hL
    simp only [ht, Option.bind_some]
    exact ⟨t, rfl⟩
  | some x =>
    obtain ⟨n, r⟩ := x
    simp only [(num_some k hk hm hL).1, Option.bind_some]
    simp only [textL, hL, Option.bind_some] at h
    have hb : r.length < n := by
      by_cases g : r.length < n
      · exact g
      · rw [if_neg g] at h; cases h
    rw [take_bad k (.inr (by omega))]
    exact ⟨_, rfl⟩
theorem text_some (k : Nat) (hk : 8 < k) {l t r : List UInt8} {most : Int} (hm : most ≤ 9223372036854775807) (h : textL most l = some (t, r)) : octet_Scan_Text k (most, mkB l, false) = some (mkB t, mkB r, false) ∧ (t.length : Int) ≤ most := by
  unfold octet_Scan_Text
  cases hL : numL most l with
  | none => simp [textL, hL] at h
  | some x =>
    obtain ⟨n, r'⟩ := x
    simp only [textL, hL, Option.bind_some] at h
    split at h
    · cases h
    · rename_i g
      simp only [Option.some.injEq, Prod.mk.injEq] at h
      obtain ⟨rfl, rfl⟩ := h
      have := num_some k hk hm hL
      simp only [this.1, Option.bind_some]
      rw [take_ok k (by omega) (by omega)]
      refine ⟨by simp, ?_⟩
      rw [List.length_take]
      have := this.2.2
      omega
end Go.Proofs.YtlidgpepppjeiaaGreatDoor
/- Octets: the document's reader, and what puts numbers. No condition. -/
set_option linter.unusedVariables false
set_option linter.unusedSimpArgs false
namespace Go.Proofs.YtlidgpepppjeiaaGreatDoor
open Go
theorem sAt_app (p l : List UInt8) (i : Int) (j : Nat) (h : i = (p.length : Int) + (j : Int)) : sAt (mkB (p ++ l)) i = ((l.getD j 0).toNat : Int) := by
  rw [sAt_mkB, show i.toNat = p.length + j by omega, List.getD_eq_getElem?_getD, List.getElem?_append_right (by omega), Nat.add_sub_cancel_left, ← List.getD_eq_getElem?_getD]
theorem rlong_none (k : Nat) {p l : List UInt8} (hs : (p ++ l).length < 4611686018427387904) (h : longL l = none) : ∃ a, ref01_Scan_Long k (mkB (p ++ l), (p.length : Int), false) = some (0, mkB (p ++ l), a, true) := by
  unfold ref01_Scan_Long
  simp only [condO_false]
  cases l with
  | nil =>
    rw [ige_t (by rw [blen_mkB, List.append_nil]; omega), condO_true]
    exact ⟨_, rfl⟩
  | cons c r =>
    have hlen : ((p ++ c :: r).length : Int) = p.length + r.length + 1 := by simp; omega
    rw [ige_f (by rw [blen_mkB]; omega), condO_false, guardO_pos ⟨by omega, by rw [blen_mkB]; omega⟩]
    rw [sAt_app p (c :: r) p.length 0 (by omega), blen_mkB, hlen]
    have hc := byte_lt c
    simp only [List.getD_cons_zero, byteI]
    by_cases h8 : 8 < c.toNat
    · rw [igt_t (by omega), condO_true]; exact ⟨_, rfl⟩
    · rw [igt_f (by omega), condO_false, wk_i64 (x := (p.length : Int) + r.length + 1 - p.length) (by omega) (by omega), wk_i64 (by omega) (by omega)]
      by_cases hr : r.length < c.toNat
      · rw [ilt_t (by omega), condO_true]; exact ⟨_, rfl⟩
      · rw [ilt_f (by omega), condO_false]
        have hz : 0 < c.toNat ∧ r.getD 0 0 = 0 := by
          simp only [longL] at h
          split at h
          · rename_i hh
            rcases hh with hh | hh | hh
            · omega
            · omega
            · exact hh
          · cases h
        rw [igt_t (by omega), condO_true, wk_i64 (by omega) (by omega), guardO_pos ⟨by omega, by omega⟩, sAt_app p (c :: r) (p.length + 1) 1 (by omega)]
        rw [ieq_t (show (((c :: r).getD 1 0).toNat : Int) = 0 by
          show ((r.getD 0 0).toNat : Int) = 0
          rw [hz.2]; rfl), condO_true]
        exact ⟨_, rfl⟩
theorem rlong_some (k : Nat) (hk : 8 < k) {p l r : List UInt8} {n : Nat} (hs : (p ++ l).length < 4611686018427387904) (h : longL l = some (n, r)) : ∃ q, q ++ r = p ++ l ∧ ref01_Scan_Long k (mkB (p ++ l), (p.length : Int), false) = some ((n : Int), mkB (p ++ l), (q.length : Int), false) := by
  unfold ref01_Scan_Long
  simp only [condO_false]
  cases l with
  | nil => simp [longL] at h
  | cons c r0 =>
    simp only [longL] at h
    split at h
    · cases h
    · rename_i hn
      simp only [Option.some.injEq, Prod.mk.injEq] at h
      obtain ⟨rfl, rfl⟩ := h
      have hn : ¬ 8 < c.toNat ∧ ¬ r0.length < c.toNat ∧ (0 < c.toNat → r0.getD 0 0 ≠ 0) := ⟨fun g => hn (.inl g), fun g => hn (.inr (.inl g)), fun g1 g2 => hn (.inr (.inr ⟨g1, g2⟩))⟩
      have hc := byte_lt c
      have hlen : ((p ++ c :: r0).length : Int) = p.length + r0.length + 1 := by simp; omega
      refine ⟨p ++ c :: r0.take c.toNat, by simp, ?_⟩
      rw [ige_f (by rw [blen_mkB]; omega), condO_false, guardO_pos ⟨by omega, by rw [blen_mkB]; omega⟩]
      rw [sAt_app p (c :: r0) p.length 0 (by omega)]
      simp only [List.getD_cons_zero, byteI]
      have loop : ∀ {R : Type} (f : Int → Option R), (loopK (H := Int × Int) (E := Int) k (fun h1 => condO (ile h1.2 (c.toNat : Int)) (guardO ((inR (WK .i64 ((p.length : Int) + h1.2)) (blen (mkB (p ++ c :: r0))))) (some (.inl (((WK .u64 ((WK .u64 (h1.1 * 256)) + (WK .u64 (sAt (mkB (p ++ c :: r0)) (WK .i64 ((p.length : Int) + h1.2)))))), (WK .i64 (h1.2 + 1))))))) (some (.inr (h1.1)))) ((0, 1))).bind f = f (bval (r0.take c.toNat) : Int) := by
        intro R f
        refine bind_of (a := (bval (r0.take c.toNat) : Int)) ?_ rfl
        refine loopK_run (fun i => ((bval (r0.take i) : Int), (i : Int) + 1)) c.toNat _ k ?_ ?_ (by omega)
        · intro i hi
          have hb := byte_lt (r0.getD i 0)
          have hv := bval_take_lt r0 i (by omega)
          simp only [ile_t (show (i : Int) + 1 ≤ (c.toNat : Int) by omega), condO_true]
          rw [wk_i64 (x := (p.length : Int) + ((i : Int) + 1)) (by omega) (by omega), guardO_pos ⟨by omega, by rw [blen_mkB]; omega⟩, sAt_app p (c :: r0) _ (i + 1) (by omega), wk_i64 (by omega) (by omega)]
          simp only [List.getD_cons_succ]
          rw [wk_u64 (x := (bval (List.take i r0) : Int) * 256) (by omega) (by omega), wk_u64 (x := ((r0.getD i 0).toNat : Int)) (by omega) (by omega), wk_u64 (by omega) (by omega), bval_take r0 i (by omega)]
          congr 3
        · simp only [ile_f (show (c.toNat : Int) < (c.toNat : Int) + 1 by omega), condO_false]
      rw [igt_f (by omega), condO_false]
      rw [show WK .i64 (WK .i64 (blen (mkB (p ++ c :: r0)) - (p.length : Int)) - 1) = (r0.length : Int) by
        rw [blen_mkB, hlen, wk_i64 (x := (p.length : Int) + r0.length + 1 - p.length) (by omega) (by omega), wk_i64 (by omega) (by omega)]; omega]
      rw [ilt_f (by omega), condO_false]
      have fin : WK .i64 (WK .i64 ((p.length : Int) + 1) + (c.toNat : Int)) = ((p ++ c :: r0.take c.toNat).length : Int) := by
        have e : ((p ++ c :: r0.take c.toNat).length : Int) = p.length + (c.toNat + 1) := by
          rw [List.length_append, List.length_cons, List.length_take]; omega
        rw [e, wk_i64 (x := (p.length : Int) + 1) (by omega) (by omega), wk_i64 (by omega) (by omega)]; omega
      by_cases h0 : 0 < c.toNat
      · rw [igt_t (by omega), condO_true, wk_i64 (x := (p.length : Int) + 1) (by omega) (by omega), guardO_pos ⟨by omega, by rw [blen_mkB]; omega⟩, sAt_app p (c :: r0) (p.length + 1) 1 (by omega)]
        rw [ieq_f (show (((c :: r0).getD 1 0).toNat : Int) ≠ 0 by
          show ((r0.getD 0 0).toNat : Int) ≠ 0
          intro g
          exact hn.2.2 h0 (by
            apply UInt8.toNat_inj.1
            have : (0 : UInt8).toNat = 0 := rfl
            omega)), condO_false]
        simp only [Option.bind_some, caseS_inr]
        rw [loop]
        rw [fin]
      · rw [igt_f (by omega), condO_false]
        simp only [Option.bind_some, caseS_inr]
        rw [loop, fin]
theorem rnum_none (k : Nat) (hk : 8 < k) {p l : List UInt8} {most : Int} (hs : (p ++ l).length < 4611686018427387904) (hm : most ≤ 9223372036854775807) (h : numL most l = none) : ∃ a, ref01_Scan_Num k (most, mkB (p ++ l), (p.length : Int), false) = some (0, mkB (p ++ l), a, true) := by
  unfold ref01_Scan_Num
  cases hL : longL l with
  | none =>
    obtain ⟨a, ha⟩ := rlong_none k hs hL
    simp only [ha, Option.bind_some]
    refine ⟨a, ?_⟩
    cases ilt most 0 <;> cases igt 0 (WK .u64 most) <;> rfl
  | some x =>
    obtain ⟨n, r⟩ := x
    obtain ⟨q, _, hq⟩ := rlong_some k hk hs hL
    simp only [hq, Option.bind_some]
    simp only [numL, hL, Option.bind_some] at h
    have hb : most < 0 ∨ most < (n : Int) := by
      by_cases g : most < 0 ∨ most < (n : Int)
      · exact g
      · rw [if_neg g] at h; cases h
    by_cases h0 : most < 0
    · rw [ilt_t h0]; exact ⟨_, rfl⟩
    · rw [ilt_f (by omega), condO_false, igt_t (by rw [wk_u64 (by omega) (by omega)]; omega)]; exact ⟨_, rfl⟩
theorem rnum_some (k : Nat) (hk : 8 < k) {p l r : List UInt8} {n : Nat} {most : Int} (hs : (p ++ l).length < 4611686018427387904) (hm : most ≤ 9223372036854775807) (h : numL most l = some (n, r)) : ∃ q, q ++ r = p ++ l ∧ ref01_Scan_Num k (most, mkB (p ++ l), (p.length : Int), false) = some ((n : Int), mkB (p ++ l), (q.length : Int), false) := by
  unfold ref01_Scan_Num
  have hx := (num_some k hk hm h).2
  obtain ⟨q, q1, hq⟩ := rlong_some k hk hs hx.1
  refine ⟨q, q1, ?_⟩
  simp only [hq, Option.bind_some]
  rw [ilt_f (by omega), condO_false, igt_f (by rw [wk_u64 (by omega) (by omega)]; omega), condO_false]
  simp only [Option.bind_some, condO_false]
  rw [wk_i64 (by omega) (by omega)]
theorem rtext_none (k : Nat) (hk : 8 < k) {p l : List UInt8} {most : Int} (hs : (p ++ l).length < 4611686018427387904) (hm : most ≤ 9223372036854775807) (h : textL most l = none) : ∃ a, ref01_Scan_Text k (most, mkB (p ++ l), (p.length : Int), false) = some (str0, mkB (p ++ l), a, true) := by
  unfold ref01_Scan_Text
  cases hL : numL most l with
  | none =>
    obtain ⟨a, ha⟩ := rnum_none k hk hs hm hL
    simp only [ha, Option.bind_some, condO_true]
    exact ⟨a, rfl⟩
  | some x =>
    obtain ⟨n, r⟩ := x
    obtain ⟨q, q1, hq⟩ := rnum_some k hk hs hm hL
    simp only [hq, Option.bind_some, condO_false]
    simp only [textL, hL, Option.bind_some] at h
    have hb : r.length < n := by
      by_cases g : r.length < n
      · exact g
      · rw [if_neg g] at h; cases h
    have hl := congrArg List.length q1
    simp only [List.length_append] at hl hs
    rw [blen_mkB, List.length_append, wk_i64 (by omega) (by omega), ilt_t (by omega), condO_true]
    exact ⟨_, rfl⟩
theorem rtext_some (k : Nat) (hk : 8 < k) {p l t r : List UInt8} {most : Int} (hs : (p ++ l).length < 4611686018427387904) (hm : most ≤ 9223372036854775807) (h : textL most l = some (t, r)) : ∃ q, q ++ r = p ++ l ∧ ref01_Scan_Text k (most, mkB (p ++ l), (p.length : Int), false) = some (mkB t, mkB (p ++ l), (q.length : Int), false) := by
  unfold ref01_Scan_Text
  cases hL : numL most l with
  | none => simp [textL, hL] at h
  | some x =>
    obtain ⟨n, r'⟩ := x
    simp only [textL, hL, Option.bind_some] at h
    split at h
    · cases h
    · rename_i g
      simp only [Option.some.injEq, Prod.mk.injEq] at h
      obtain ⟨rfl, rfl⟩ := h
      obtain ⟨q, q1, hq⟩ := rnum_some k hk hs hm hL
      refine ⟨q ++ r'.take n, by rw [List.append_assoc, List.take_append_drop]; exact q1, ?_⟩
      simp only [hq, Option.bind_some, condO_false]
      have hl := congrArg List.length q1
      simp only [List.length_append] at hl hs
      have e : ((q ++ r'.take n).length : Int) = q.length + n := by rw [List.length_append, List.length_take]; omega
      rw [blen_mkB, List.length_append, wk_i64 (x := ((p.length + l.length : Nat) : Int) - q.length) (by omega) (by omega), ilt_f (by omega), condO_false, wk_i64 (by omega) (by omega), guardO_pos ⟨by omega, by omega, by omega⟩, e]
      congr 2
      apply bytes_ext
      rw [← q1]
      simp [scut, ByteArray.data_extract, List.extract]
      rw [show ((q.length : Int) + (n : Int)).toNat - q.length = n by omega]
end Go.Proofs.YtlidgpepppjeiaaGreatDoor
/- Octets: what puts numbers. No condition. -/
set_option linter.unusedVariables false
set_option linter.unusedSimpArgs false
namespace Go.Proofs.YtlidgpepppjeiaaGreatDoor
open Go

end Go.Proofs.YtlidgpepppjeiaaGreatDoor
/- Sectors made of texts, and opened. No condition. -/
set_option linter.unusedVariables false
set_option linter.unusedSimpArgs false
namespace Go.Proofs.YtlidgpepppjeiaaGreatDoor
open Go
/-- What opening comes to. -/
def secO (m : List UInt8) : ByteArray × Bool := match textL 256 m with
  | none => (str0, false)
  | some (t, _) => if (secB t).2 ≠ 0 then (str0, false) else if (secB t).1 ≠ mkB m then (str0, false) else (mkB t, true)
theorem open_tail (f : ByteArray × Int) (m : List UInt8) (t : ByteArray) : (condO (ine f.2 0) (some (str0, false)) (condO (!(sEq f.1 (mkB m))) (some (str0, false)) (some (t, true)))) = some (if f.2 ≠ 0 then (str0, false) else if f.1 ≠ mkB m then (str0, false) else (t, true)) := by
  by_cases h : f.2 = 0
  · rw [ine_f h, condO_false, if_neg (by simpa using h)]
    by_cases g : f.1 = mkB m
    · rw [g, sEq_self, if_neg (by simp)]; rfl
    · have : sEq f.1 (mkB m) = false := by
        rw [← Bool.not_eq_true]; intro e; exact g (sEq_iff.1 e)
      rw [this, if_pos g]; rfl
  · rw [ine_t h, condO_true, if_pos h]
theorem sopen_ok (m : List UInt8) : sector_Open 1000 (mkB m) = some (secO m) := by
  unfold sector_Open secO
  cases h : textL 256 m with
  | none =>
    obtain ⟨t, ht⟩ := text_none 1000 (by decide) (by decide) h
    simp only [ht, Option.bind_some]
    have := sfill_ok (l := []) (by decide)
    rw [show str0 = mkB [] from rfl, this]
    rfl
  | some x =>
    obtain ⟨t, r⟩ := x
    have ht := text_some 1000 (by decide) (by decide) h
    simp only [ht.1, Option.bind_some]
    rw [sfill_ok (by omega)]
    simp only [Option.bind_some, Bool.not_false, Bool.not_true, condO_false]
    exact open_tail _ _ _
theorem ropen_ok (m : List UInt8) (hm : m.length ≤ 300) : ref05_Open 1000 (mkB m) = some (secO m) := by
  unfold ref05_Open secO
  cases h : textL 256 m with
  | none =>
    obtain ⟨t, ht⟩ := rtext_none 1000 (by decide) (p := []) (by simp; omega) (by decide) h
    have ht : ref01_Scan_Text 1000 (256, mkB m, 0, false) = _ := ht
    simp only [ht, Option.bind_some]
    have := rfill_ok (l := []) (by decide)
    rw [show str0 = mkB [] from rfl, this]
    rfl
  | some x =>
    obtain ⟨t, r⟩ := x
    have hl := (text_some 1000 (by decide) (by decide) h).2
    obtain ⟨q, _, hq⟩ := rtext_some 1000 (by decide) (p := []) (by simp; omega) (by decide) h
    have hq : ref01_Scan_Text 1000 (256, mkB m, 0, false) = _ := hq
    simp only [hq, Option.bind_some]
    rw [rfill_ok (by omega)]
    simp only [Option.bind_some, condO_false]
    exact open_tail _ _ _
theorem text_put {l r : List UInt8} {most : Int} (h : (l.length : Int) ≤ most) (hl : l.length < 18446744073709551616) : textL most (putL l.length ++ l ++ r) = some (l, r) := by
  unfold textL numL
  rw [List.append_assoc, long_put hl]
  simp only [Option.bind_some]
  rw [if_neg (by omega)]
  simp only [Option.bind_some]
  rw [if_neg (by simp), List.take_left' rfl, List.drop_left' rfl]
theorem secB_small {l : List UInt8} (hl : l.length ≤ 253) : secB l = (mkB (secL l), 0) := by
  have hw : wdt l.length ≤ 1 := by
    by_cases h : l.length = 0
    · rw [h, wdt_zero]; decide
    · rw [wdt_step h (by omega), show l.length / 256 = 0 by omega, wdt_zero]; decide
  unfold secB
  rw [if_neg]
  rw [List.length_append, putL_len]; omega
theorem secB_len {l : List UInt8} {s : ByteArray} (h : secB l = (s, 0)) : s = mkB (secL l) ∧ (secL l).length = 256 ∧ l.length ≤ 256 := by
  unfold secB at h
  split at h
  · cases h
  · rename_i g
    simp only [Prod.mk.injEq] at h
    refine ⟨h.1.symm, ?_, ?_⟩
    · unfold secL
      rw [List.length_append, List.length_replicate]; omega
    · rw [List.length_append] at g; omega
theorem open_fill {l : List UInt8} (h : l.length ≤ 256) (h2 : (secB l).2 = 0) : secO (secL l) = (mkB l, true) := by
  unfold secO
  have e : textL 256 (secL l) = some (l, _) := text_put (by omega) (by omega)
  rw [e]
  simp only
  have := secB_len (l := l) (s := (secB l).1) (by rw [← h2])
  rw [if_neg (by simpa using h2), if_neg (by simpa using this.1)]
theorem short_cases (s : ByteArray) (n : Nat) : (igt (blen s) n = true ∧ cutOk 0 n (blen s) ∧ ∃ l, scut s 0 n = mkB l ∧ l.length ≤ n) ∨ (igt (blen s) n = false ∧ ∃ l, s = mkB l ∧ l.length ≤ n) := by
  rw [mkB_of s]
  by_cases h : n < s.data.toList.length
  · refine .inl ⟨igt_t (by rw [blen_mkB]; omega), ⟨by decide, by omega, by rw [blen_mkB]; omega⟩, _, scut_take _ _, ?_⟩
    rw [List.length_take]; omega
  · exact .inr ⟨igt_f (by rw [blen_mkB]; omega), _, rfl, by omega⟩
end Go.Proofs.YtlidgpepppjeiaaGreatDoor
