/- Texts of the proof, put together: part 9. No condition. -/
import Derived.Test.YtlidgpepppjeiaaDoorT8
import Derived.Test.YtlidgpepppjeiaaDoorRows
import Derived.WalkKit
import Derived.ProofKit
import Derived.OpenShut
import Derived.ShutString
import Derived.ChangeOld
import Derived.SizedLaws
import Derived.Deep.Slices
import Derived.LaidMore
import Derived.Lib.LaidTab
import Derived.Stop.Joined
/- Arguments that came in, as data; a law's start and its end. No condition. -/
set_option linter.unusedVariables false
set_option linter.unusedSimpArgs false
namespace Go.Proofs.YtlidgpepppjeiaaDoor
open Go Go.WideShapes Go.ChangeShapes
mutual
/-- Is a type told by data, its parts one behind the other? -/
def chkT (P : Program) : Nat → TypeId → Ty → Bool
  | 0, _, _ => false
  | d + 1, t, u => match P.underlying t with
    | some .bool => decide (u = .bool)
    | some (.int k) => decide (u = .int k)
    | some .string => decide (u = .str)
    | some (.array n e) => match u with
      | .arr m v => decide (n = m) && v.flat && chkT P d e v && decide (n * P.cellsOf e = P.cellsOf t) && decide (P.cellsOf e = v.sz)
      | _ => false
    | some (.slice e) => match u with
      | .sl e' v => decide (e = e') && chkT P d e v && decide (P.cellsOf e = v.sz)
      | _ => false
    | some (.struct fs) => chkF P d 0 fs.toList u (P.cellsOf t)
    | _ => false
def chkF (P : Program) : Nat → Nat → List Field → Ty → Nat → Bool
  | 0, _, _, _, _ => false
  | _ + 1, off, [], u, n => decide (u = .unit) && decide (off = n)
  | d + 1, off, [f], u, n => decide (f.offset = off) && chkT P d f.type u && decide (off + P.cellsOf f.type = n)
  | d + 1, off, f :: g :: fs, u, n => match u with
    | .pair a b => decide (f.offset = off) && chkT P d f.type a && chkF P d (off + P.cellsOf f.type) (g :: fs) b n
    | _ => false
end
def wfT : (u : Ty) → u.den → Prop
  | .int k, x => (Lit.int k x).wf = true
  | .bool, _ => True
  | .str, s => s.size ≤ 9223372036854775807
  | .unit, _ => True
  | .arr n t, v => ∀ i : Fin n, wfT t (v.get i)
  | .pair a b, x => wfT a x.1 ∧ wfT b x.2
  | .sl _ t, l => l.length ≤ 9223372036854775807 ∧ ∀ x ∈ l, wfT t x
def Facts (F : List Fact) (w : World) : Prop := ∀ f ∈ F, Rds f.v f.n f.sz f.cs w
section
variable {H : Type} {enc : TypeId × Value → H} {P : Program} {w : World} {base : Nat} {held : Bool}
theorem facts_app {F G : List Fact} (h : Facts F w) (k : Facts G w) : Facts (F ++ G) w := fun f hf => by
  rcases List.mem_append.1 hf with hf | hf
  · exact h f hf
  · exact k f hf
mutual
theorem open_rep : ∀ (d fuel : Nat) (t : TypeId) (u : Ty) (cs : List Value) (x : DataW H × List MemPlace), chkT P d t u = true → DataW.trod enc P w base (fun _ => true) held fuel t cs = some x →
    ∃ (y : u.den) (F : List Fact), RepP u y cs F ∧ Facts F w ∧ wfT u y
  | 0, _, _, _, _, _, h, _ => by simp [chkT] at h
  | d + 1, fuel, t, u, cs, x, h, hx => by
    simp only [chkT] at h
    split at h
    · rename_i hu
      obtain rfl := of_decide_eq_true h
      obtain ⟨b, rfl, _⟩ := DataW.trod_bool hu hx
      exact ⟨b, [], ⟨rfl, rfl⟩, (fun f hf => by cases hf), trivial⟩
    · rename_i k hu
      obtain rfl := of_decide_eq_true h
      obtain ⟨n, rfl, _, hw⟩ := DataW.trod_int hu hx
      exact ⟨n, [], ⟨rfl, rfl⟩, (fun f hf => by cases hf), hw⟩
    · rename_i hu
      obtain rfl := of_decide_eq_true h
      obtain ⟨s, rfl, _, hw⟩ := DataW.trod_string hu hx
      exact ⟨s, [], ⟨rfl, rfl⟩, (fun f hf => by cases hf), hw⟩
    · rename_i n e hu
      split at h
      · rename_i m v
        simp only [Bool.and_eq_true, decide_eq_true_eq] at h
        obtain ⟨⟨⟨⟨rfl, hfl⟩, hc⟩, hsz⟩, hv⟩ := h
        obtain ⟨xs, m, rfl, _, hl, hlen, hm⟩ := DataW.trod_array hu hx
        have one : ∀ i, i < n → ∃ y : v.den, (cs.drop (i * v.sz)).take v.sz = (flatT v).cells y ∧ wfT v y := by
          intro i hi
          have hlt : i < xs.length := by omega
          obtain ⟨y, F, h1, h2, h3⟩ := open_rep d m e v _ xs[i] hc (by rw [hm i hi, List.getElem?_eq_getElem hlt])
          rw [hv] at h1
          exact ⟨y, ((RepP_flat v hfl _ _ _).1 h1).1, h3⟩
        haveI : Inhabited v.den := ⟨v.dflt⟩
        obtain ⟨f, hf⟩ := Go.Deep.choose_lt one
        refine ⟨Vector.ofFn (fun i : Fin n => f i.1), [], ⟨?_, rfl⟩, (fun f hf => by cases hf), fun i => ?_⟩
        · have har : arL (flatT v).dflt n (Vector.ofFn (fun i : Fin n => f i.1)) = (List.range n).map f := by
            unfold arL
            apply List.map_congr_left
            intro i hi
            have hi : i < n := by simpa using hi
            have h1 : (Vector.ofFn (fun i : Fin n => f i.1)).toArray.size = n := by simp
            simp only [Array.getD, h1, hi, dif_pos]
            simp [Array.getInternal_eq_getElem]
          have hcs : ∀ k, k ≤ n → ((List.range k).map f).flatMap (flatT v).cells = cs.take (k * v.sz) := by
            intro k
            induction k with
            | zero => intro _; simp
            | succ k ih =>
              intro hk
              rw [List.range_succ, List.map_append, List.flatMap_append, ih (by omega)]
              simp only [List.map_cons, List.map_nil, List.flatMap_cons, List.flatMap_nil, List.append_nil]
              rw [← (hf k (by omega)).1, Nat.add_mul, Nat.one_mul, List.take_add]
          show cs = (arL (flatT v).dflt n _).flatMap (flatT v).cells
          rw [har, hcs n (Nat.le_refl _), List.take_of_length_le]
          rw [hl, ← hsz, hv]; exact Nat.le_refl _
        · have : (Vector.ofFn (fun i : Fin n => f i.1)).get i = f i.1 := by
            simp only [Vector.get]
            simp
            first | rfl | done
          rw [this]; exact (hf i.1 i.2).2
      · cases h
    · rename_i e hu
      split at h
      · rename_i e' v
        simp only [Bool.and_eq_true, decide_eq_true_eq] at h
        obtain ⟨⟨rfl, hc⟩, hv⟩ := h
        rcases Go.Deep.open_slice hu hx with ⟨h0, _⟩ | ⟨a, len, cap, m, n, D, Pl, hcs, hb, hl, hm, hmm, _, hel⟩
        · subst h0
          exact ⟨[], [⟨.slice none 0 0, 0, v.sz, []⟩], ⟨_, [], [], rfl, ⟨none, 0, rfl, fun _ => rfl⟩, rfl, rfl, rfl⟩, (fun f hf => by
            simp only [List.mem_singleton] at hf; subst hf; exact rds_nil _ _), by simp, by simp⟩
        · subst hcs
          have hm' : len ≤ m := by rw [hmm]; split <;> omega
          have one : ∀ i, i < len → ∃ y : v.den × List Value × List Fact, w.cells? base (a.add (i * v.sz)) v.sz = some y.2.1 ∧ RepP v y.1 y.2.1 y.2.2 ∧ Facts y.2.2 w ∧ wfT v y.1 := by
            intro i hi
            obtain ⟨cs', h1, h2⟩ := hel i (by omega)
            rw [hv] at h1
            obtain ⟨y, F, k1, k2, k3⟩ := open_rep d n e v cs' _ hc h2
            exact ⟨(y, cs', F), h1, k1, k2, k3⟩
          haveI : Inhabited (v.den × List Value × List Fact) := ⟨(v.dflt, [], [])⟩
          obtain ⟨f, hf⟩ := Go.Deep.choose_lt one
          have build : ∀ k, k ≤ len → ∃ css F, RepL (RepP v) ((List.range k).map fun i => (f i).1) css F ∧ Facts F w ∧ css.length = k * v.sz ∧ ∀ j c, css[j]? = some c → w.cell? (a.add j) = some c := by
            intro k
            induction k with
            | zero => intro _; exact ⟨[], [], ⟨rfl, rfl⟩, (fun f hf => by cases hf), by simp, by simp⟩
            | succ k ih =>
              intro hk
              obtain ⟨css, F, r1, r2, r3, r4⟩ := ih (by omega)
              obtain ⟨c1, c2, c3, _⟩ := hf k (by omega)
              obtain ⟨_, hcl, hce⟩ := World.cells?_some c1
              refine ⟨css ++ (f k).2.1, F ++ (f k).2.2, ?_, facts_app r2 c3, ?_, fun j c hj => ?_⟩
              · rw [List.range_succ, List.map_append]
                refine RepL_app _ _ _ _ _ _ r1 ?_
                exact ⟨(f k).2.1, [], (f k).2.2, [], by simp, by simp, c2, rfl, rfl⟩
              · rw [List.length_append, r3, RepP_len v _ _ _ c2, Nat.add_mul, Nat.one_mul]
              · by_cases hlt : j < k * v.sz
                · rw [List.getElem?_append_left (by omega)] at hj
                  exact r4 j c hj
                · rw [List.getElem?_append_right (by omega), r3] at hj
                  have hlt2 := (List.getElem?_eq_some_iff.1 hj).1
                  rw [RepP_len v _ _ _ c2] at hlt2
                  have := hce (j - k * v.sz) hlt2
                  rw [hj, Go.Deep.add_add] at this
                  rw [← this]; congr 2; omega
          obtain ⟨css, F, r1, r2, r3, r4⟩ := build len (Nat.le_refl _)
          have hlen : ((List.range len).map fun i => (f i).1).length = len := by simp
          have hmx : cap ≤ 9223372036854775807 := by unfold maxLen at hm; omega
          refine ⟨(List.range len).map fun i => (f i).1, ⟨.slice (some a) len cap, len, v.sz, css⟩ :: F, ⟨_, css, F, rfl, ⟨some a, cap, by rw [hlen], fun h => by cases h⟩, by rw [hlen], r1⟩, fun f0 hf0 => ?_, ?_, ?_⟩
          · rcases List.mem_cons.1 hf0 with rfl | hf0
            · exact ⟨r3, some a, cap, rfl, hl, hmx, (fun h => by cases h), fun j u hu => ⟨a, rfl, r4 j u hu⟩⟩
            · exact r2 f0 hf0
          · rw [hlen]; omega
          · intro y hy
            simp only [List.mem_map, List.mem_range] at hy
            obtain ⟨i, hi, rfl⟩ := hy
            exact (hf i hi).2.2.2
      · cases h
    · rename_i fs hu
      obtain ⟨xs, m, rfl, _, hl, hlen, hm⟩ := DataW.trod_struct hu hx
      have := open_repF d m 0 fs.toList u (P.cellsOf t) cs h hl (fun i f hi => ?_)
      · simpa using this
      · have hi' : fs[i]? = some f := by simpa using hi
        have hlt : i < xs.length := by rw [hlen]; exact (Array.getElem?_eq_some_iff.1 hi').1
        exact ⟨xs[i], by rw [hm i f hi', List.getElem?_eq_getElem hlt]⟩
    · cases h
theorem open_repF : ∀ (d fuel off : Nat) (fs : List Field) (u : Ty) (n : Nat) (cs : List Value), chkF P d off fs u n = true → cs.length = n →
    (∀ (i : Nat) f, fs[i]? = some f → ∃ y, DataW.trod enc P w base (fun _ => true) held fuel f.type ((cs.drop f.offset).take (P.cellsOf f.type)) = some y) →
    ∃ (y : u.den) (F : List Fact), RepP u y (cs.drop off) F ∧ Facts F w ∧ wfT u y
  | 0, _, _, _, _, _, _, h, _, _ => by simp [chkF] at h
  | d + 1, fuel, off, [], u, n, cs, h, hl, _ => by
    simp only [chkF, Bool.and_eq_true, decide_eq_true_eq] at h
    obtain ⟨rfl, rfl⟩ := h
    exact ⟨(), [], ⟨by simp [flatT, FU, ← hl], rfl⟩, (fun f hf => by cases hf), trivial⟩
  | d + 1, fuel, off, [f], u, n, cs, h, hl, hm => by
    simp only [chkF, Bool.and_eq_true, decide_eq_true_eq] at h
    obtain ⟨⟨ho, hc⟩, hn⟩ := h
    obtain ⟨x, hx⟩ := hm 0 f rfl
    have := open_rep d fuel f.type u _ x hc hx
    rw [ho, List.take_of_length_le (by rw [List.length_drop]; omega)] at this
    exact this
  | d + 1, fuel, off, f :: g :: fs, u, n, cs, h, hl, hm => by
    simp only [chkF] at h
    split at h
    · rename_i a b
      simp only [Bool.and_eq_true, decide_eq_true_eq] at h
      obtain ⟨⟨ho, hc⟩, hn⟩ := h
      obtain ⟨x, hx⟩ := hm 0 f rfl
      obtain ⟨y1, F1, a1, a2, a3⟩ := open_rep d fuel f.type a _ x hc hx
      obtain ⟨y2, F2, b1, b2, b3⟩ := open_repF d fuel (off + P.cellsOf f.type) (g :: fs) b n cs hn hl (fun i f' hi => hm (i + 1) f' hi)
      refine ⟨(y1, y2), F1 ++ F2, ⟨_, _, F1, F2, ?_, rfl, a1, b1⟩, facts_app a2 b2, a3, b3⟩
      rw [ho, ← List.drop_drop, List.take_append_drop]
    · cases h
end
/-- What a value of a type is, by its cells. -/
def valC : Ty → List Value → Value
  | .arr _ _, cs => .agg cs.toArray
  | .pair _ _, cs => .agg cs.toArray
  | .unit, cs => .agg cs.toArray
  | _, cs => cs.headD .nilFunc
/-- Is it an aggregate, just where its data are? -/
def aggOk (P : Program) (t : TypeId) (u : Ty) : Bool :=
  match P.underlying t, u with
  | some (.struct _), .pair _ _ => true
  | some (.struct _), .unit => true
  | some (.array _ _), .arr _ _ => true
  | some (.slice _), .sl _ _ => true
  | some .bool, .bool => true
  | some (.int _), .int _ => true
  | some .string, .str => true
  | _, _ => false
structure RepOk (w : World) (d : Dyn) (v : Value) : Prop where
  rep : ∃ F, RepP d.1 d.2 v.cells.toList F ∧ Facts F w
  val : v = valC d.1 v.cells.toList
theorem open_arg {b0 : Nat} {t : TypeId} {u : Ty} {v : Value} {d : DataW H} {ps : List MemPlace} (hc : chkT P 12 t u = true) (ha : aggOk P t u = true) (hval : Value.okWide P w .any b0 t v) (hd : DataW.Trod enc P w base (fun _ => true) held t v d ps) :
    ∃ y : u.den, RepOk w ⟨u, y⟩ v ∧ wfT u y := by
  obtain ⟨fuel, hf⟩ := hd
  obtain ⟨y, F, h1, h2, h3⟩ := open_rep 12 fuel t u _ _ hc hf
  refine ⟨y, ⟨⟨F, h1, h2⟩, ?_⟩, h3⟩
  have agg : (∃ cs, v = .agg cs) → ∀ u, (match u with | .arr _ _ => true | .pair _ _ => true | .unit => true | _ => false) = true → v = valC u v.cells.toList := by
    rintro ⟨cs, rfl⟩ u hu
    cases u <;> simp_all [valC, Value.cells]
  unfold aggOk at ha
  split at ha
  · rename_i fs e
    exact agg (by unfold Value.okWide at hval; rw [e] at hval; obtain ⟨cs, h, _⟩ := hval; exact ⟨cs, h⟩) _ rfl
  · rename_i fs e
    exact agg (by unfold Value.okWide at hval; rw [e] at hval; obtain ⟨cs, h, _⟩ := hval; exact ⟨cs, h⟩) _ rfl
  · rename_i n e' e
    exact agg (by unfold Value.okWide at hval; rw [e] at hval; obtain ⟨cs, h, _⟩ := hval; exact ⟨cs, h⟩) _ rfl
  · rename_i e
    obtain ⟨a, l, c, rfl⟩ := okWide_slice e hval
    rfl
  · rename_i e
    obtain ⟨b, rfl⟩ := okWide_bool e hval
    rfl
  · rename_i e
    obtain ⟨b, rfl⟩ := okWide_int e hval
    rfl
  · rename_i e
    obtain ⟨b, rfl⟩ := okWide_string e hval
    rfl
  · cases ha
end
/-! ### a law's start -/
inductive Args (w : World) : List Dyn → List Value → Prop where
  | nil : Args w [] []
  | cons {d : Dyn} {v : Value} {ds : List Dyn} {vs : List Value} : RepOk w d v → Args w ds vs → Args w (d :: ds) (v :: vs)
def slotOf (u : Ty) (ls : List At) : SV :=
  match u, ls with
  | .pair _ _, ls => .v (.st ls)
  | .unit, ls => .v (.st ls)
  | _, [a] => .v (.a a)
  | _, ls => .v (.st ls)
def startGo : List Dyn → Nat → List (Nat × SV) × List Ob → List (Nat × SV) × List Ob
  | [], _, s => s
  | d :: ds, i, s => startGo ds (i + 1) (s.1 ++ [(i, slotOf d.1 (unpk .lent d.1 d.2 s.2.length).1)], s.2 ++ (unpk .lent d.1 d.2 s.2.length).2)
def startS (ds : List Dyn) : St := ⟨(startGo ds 0 ([], [])).1, (startGo ds 0 ([], [])).2, [], .nil⟩
theorem unpk_nrm (m : Md) : ∀ (u : Ty) (x : u.den) (n : Nat), (unpk m u x n).1.all nrmA = true
  | .pair a b, x, n => by simp only [unpk, List.all_append, unpk_nrm m a x.1 n, unpk_nrm m b x.2 _, Bool.and_self]
  | .int k, x, n => rfl
  | .bool, x, n => rfl
  | .str, x, n => rfl
  | .unit, x, n => rfl
  | .arr q t, x, n => rfl
  | .sl e t, x, n => rfl
theorem slot_enc (u : Ty) (x : u.den) (m : Md) (n : Nat) (g : Env) : encS g (slotOf u (unpk m u x n).1) = valC u (encL g (unpk m u x n).1) ∧ nrmS (slotOf u (unpk m u x n).1) = true ∧ refS (slotOf u (unpk m u x n).1) = (unpk m u x n).1.flatMap refA := by
  cases u with
  | int k => exact ⟨rfl, rfl, rfl⟩
  | bool => exact ⟨rfl, rfl, rfl⟩
  | str => exact ⟨rfl, rfl, rfl⟩
  | unit => exact ⟨rfl, rfl, rfl⟩
  | arr q t => exact ⟨by simp [slotOf, unpk, encS, encV, val1, valC, encL, encA], rfl, rfl⟩
  | pair a b => exact ⟨rfl, unpk_nrm m _ x n, rfl⟩
  | sl e t => exact ⟨rfl, rfl, rfl⟩
structure Started (w : World) (g : Env) (vs : List Value) (s : List (Nat × SV) × List Ob) : Prop where
  enc : s.1.map (fun p => encS g p.2) = vs
  keys : s.1.map (·.1) = List.range s.1.length
  ok : ∀ p ∈ s.1, nrmS p.2 = true
  rs : ∀ p ∈ s.1, ∀ o ∈ refS p.2, o < s.2.length
  ob : ∀ i ob, s.2[i]? = some ob → obP g i ob ∧ ∃ e u xs, ob = .row e u xs .lent false ∧ ∀ f ∈ (⟨(g i).v, xs.length, u.sz, (g i).cs⟩ :: (g i).fs : List Fact), Rds f.v f.n f.sz f.cs w
theorem start_go {w : World} : ∀ (ds : List Dyn) (vs : List Value) (i : Nat) (s : List (Nat × SV) × List Ob) (us : List Value) (g : Env), Args w ds vs → Started w g us s → i = s.1.length →
    ∃ g', Started w g' (us ++ vs) (startGo ds i s)
  | [], [], i, s, us, g, .nil, h, hi => ⟨g, by simpa [startGo] using h⟩
  | d :: ds, v :: vs, i, s, us, g, .cons hd hds, h, hi => by
    obtain ⟨F, hrep, hfa⟩ := hd.rep
    obtain ⟨g1, e1, e2, e3, e4, e5⟩ := unpk_spec .lent (by decide) d.1 d.2 s.2.length g _ F hrep
    obtain ⟨s1, s2, s3⟩ := slot_enc d.1 d.2 .lent s.2.length g1
    have hsl : ∀ o ∈ refS (slotOf d.1 (unpk .lent d.1 d.2 s.2.length).1), o < (s.2 ++ (unpk .lent d.1 d.2 s.2.length).2).length := by
      rw [s3]
      intro o ho
      have := (e4 o ho).2
      rw [List.length_append]; exact this
    have := start_go ds vs (i + 1) (s.1 ++ [(i, slotOf d.1 (unpk .lent d.1 d.2 s.2.length).1)], s.2 ++ (unpk .lent d.1 d.2 s.2.length).2) (us ++ [v]) g1 hds ?_ (by simp [hi])
    · obtain ⟨g', h'⟩ := this
      exact ⟨g', by simpa [startGo] using h'⟩
    · refine ⟨?_, ?_, ?_, ?_, ?_⟩
      · simp only [List.map_append, List.map_cons, List.map_nil]
        congr 1
        · rw [← h.enc]
          apply List.map_congr_left
          intro p hp
          exact encS_ext _ (fun o ho => e1 o (.inl (h.rs p hp o ho)))
        · rw [s1, e2, ← hd.val]
      · simp only [List.map_append, List.map_cons, List.map_nil, List.length_append, List.length_singleton, List.range_succ, h.keys, hi]
      · intro p hp
        rcases List.mem_append.1 hp with hp | hp
        · exact h.ok p hp
        · simp only [List.mem_singleton] at hp; subst hp; exact s2
      · intro p hp o ho
        rcases List.mem_append.1 hp with hp | hp
        · have := h.rs p hp o ho
          simp only [List.length_append]; omega
        · simp only [List.mem_singleton] at hp; subst hp; exact hsl o ho
      · intro j ob hj
        rcases Nat.lt_or_ge j s.2.length with hlt | hge
        · simp only at hj
          rw [List.getElem?_append_left hlt] at hj
          have := h.ob j ob hj
          have hg : g1 j = g j := e1 j (.inl hlt)
          obtain ⟨a1, e, u, xs, rfl, a2⟩ := this
          exact ⟨obP_ext hg a1, e, u, xs, rfl, by rw [hg]; exact a2⟩
        · simp only at hj
          rw [List.getElem?_append_right hge] at hj
          obtain ⟨p1, e, u, xs, he, hf⟩ := e5 _ ob hj
          have hn : s.2.length + (j - s.2.length) = j := by omega
          rw [hn] at p1 hf
          exact ⟨p1, e, u, xs, he, fun f hf' => hfa f (hf f hf')⟩
theorem start_ok {w : World} {ds : List Dyn} {vs : List Value} (h : Args w ds vs) :
    ∃ g, (startS ds).slots.map (fun p => encS g p.2) = vs ∧ (startS ds).slots.map (·.1) = List.range (startS ds).slots.length ∧ Cal g (startS ds) ∧ Cx g (startS ds) w nob (fun _ => True) w ∧ ∀ i, (entL g i ((startS ds).ob i)).dom = nob := by
  obtain ⟨g, hs⟩ := start_go ds vs 0 ([], []) [] env0 h ⟨rfl, rfl, (fun p hp => by cases hp), (fun p hp => by cases hp), (fun i ob hi => by simp at hi)⟩ rfl
  have get : ∀ i, (startS ds).ob i = .gone ∨ (startGo ds 0 ([], [])).2[i]? = some ((startS ds).ob i) := fun i => by
    cases hi : (startGo ds 0 ([], [])).2[i]? with
    | none => left; simp [St.ob, startS, List.getD_eq_getElem?_getD, hi]
    | some ob => right; simp [St.ob, startS, List.getD_eq_getElem?_getD, hi]
  have dom : ∀ i, (entL g i ((startS ds).ob i)).dom = nob := fun i => by
    rcases get i with h | h
    · rw [h]; rfl
    · obtain ⟨_, e, u, xs, he, _⟩ := hs.ob i _ h
      rw [he]; rfl
  refine ⟨g, by have := hs.enc; rwa [List.nil_append] at this, hs.keys, ⟨fun i => ?_, hs.ok, hs.rs, fun i T ls hi => ?_⟩, ⟨Fr.refl _ _, fun i => ?_, fun i => ?_, fun i b hb => ?_, fun i j _ b hb => ?_, fun i j b hb => ?_, fun i _ b _ => .inl trivial⟩, dom⟩
  · rcases get i with h | h
    · rw [h]; trivial
    · exact (hs.ob i _ h).1
  · rcases get i with h | h
    · rw [h] at hi; cases hi
    · obtain ⟨_, e, u, xs, he, _⟩ := hs.ob i _ h
      rw [he] at hi; cases hi
  · rcases get i with h | h
    · simp only [h]; trivial
    · obtain ⟨_, e, u, xs, he, _⟩ := hs.ob i _ h
      simp only [he]; trivial
  · rcases get i with h | h
    · simp only [h]; trivial
    · obtain ⟨_, e, u, xs, he, hf⟩ := hs.ob i _ h
      simp only [he]
      exact hf
  · rw [dom] at hb; exact hb.elim
  · rw [dom] at hb; exact hb.elim
  · rw [dom] at hb; exact hb.elim
theorem law_done {P : Program} {w : World} {f : Nat} {c : Con} {ds : List Dyn} {vs : List Value} {k : Nat} {x : HL c.pat.codes} (hc : ConOk P c) (hfn : c.fn = f) (h : Args w ds vs) {y : DenL (c.out.map NSh.codes)}
    (hy : c.f k x = some y) (hp : patSt c.pat x = some (startS ds)) (hout : c.out = [⟨[(rB, .v (.a (.fl .bool)))], [], []⟩]) (hel : ∀ (R : Type) (q : Nat → List Dyn → R), elimL (c.out.map NSh.codes) y q = q 0 [⟨.bool, true⟩]) :
    Calls P f vs.toArray w (fun e w' => ∃ v, e = .returned v ∧ v = .bool true ∧ Fr nob w w') := by
  obtain ⟨g, h1, h2, h3, h4, h5⟩ := start_ok h
  have key := hc k x y (startS ds) (startS ds).slots.length [] hy hp (by rw [h2, List.map_nil, List.append_nil]) (fun b hb => by cases hb) g w nob (fun _ => True) h3 h4 (by rw [List.drop_length]; intro p hp; cases hp)
  rw [List.take_length, h1, hfn] at key
  refine Calls.mono key ?_
  rintro e w' ⟨v, rfl, i, es, s, N, r, g', q1, q2, q3, q4, q5, q6, q7, q8, q9, q10⟩
  refine ⟨v, rfl, ?_, q9.fr⟩
  have e0 := q1 (Nat × List Dyn) (fun i ds => (i, ds))
  rw [hel] at e0
  simp only [Prod.mk.injEq] at e0
  obtain ⟨rfl, rfl⟩ := e0
  rw [hout] at q2
  simp only [List.getElem?_cons_zero, Option.some.injEq] at q2
  subst q2
  have q3' : fiN ⟨[(rB, .v (.a (.fl .bool)))], [], []⟩ [⟨.bool, true⟩] = some N := q3
  have hN : fiN ⟨[(rB, .v (.a (.fl .bool)))], [], []⟩ [⟨.bool, true⟩] = some ⟨[(rB, .v (.a (.fl .bool true)))], [], []⟩ := by rfl
  rw [hN] at q3'
  cases q3'
  simp only [Go.Proofs.YtlidgpepppjeiaaDoor.results, Option.some.injEq] at q4
  subst q4
  exact q5
end Go.Proofs.YtlidgpepppjeiaaDoor
/- A law's start where variables of the package are laid; the end. No condition. -/
set_option linter.unusedVariables false
set_option linter.unusedSimpArgs false
namespace Go.Proofs.YtlidgpepppjeiaaDoor
open Go Go.WideShapes Go.ChangeShapes
def isK (k : IntKind) : Value → Bool
  | .int k' _ => k' == k
  | _ => false
/-- No number of this kind stands in it. -/
def noK (k : IntKind) : Ty → Bool
  | .int k' => !(k' == k)
  | .arr _ t => noK k t
  | .pair a b => noK k a && noK k b
  | .sl _ t => noK k t
  | _ => true
theorem flat_clean (k : IntKind) : ∀ (u : Ty) (x : u.den), noK k u = true → ∀ c ∈ (flatT u).cells x, isK k c = false
  | .int k', x, h, c, hc => by
    have : c = .int k' x := by simpa [flatT, FK] using hc
    subst this
    simpa [noK, isK] using h
  | .bool, x, h, c, hc => by
    have : c = .bool x := by simpa [flatT, FB] using hc
    subst this; rfl
  | .str, x, h, c, hc => by
    have : c = .string x := by simpa [flatT, FS] using hc
    subst this; rfl
  | .unit, x, h, c, hc => by simp [flatT, FU] at hc
  | .arr n t, x, h, c, hc => by
    simp only [flatT, FA] at hc
    obtain ⟨y, _, hy⟩ := List.mem_flatMap.1 hc
    exact flat_clean k t y h c hy
  | .pair a b, x, h, c, hc => by
    simp only [noK, Bool.and_eq_true] at h
    simp only [flatT, FP] at hc
    rcases List.mem_append.1 hc with hc | hc
    · exact flat_clean k a x.1 h.1 c hc
    · exact flat_clean k b x.2 h.2 c hc
  | .sl _ t, x, h, c, hc => by
    have : c = .nilFunc := by simpa [flatT, FL] using hc
    subst this; rfl
theorem repL_clean {k : IntKind} {α : Type} {R : α → List Value → List Fact → Prop} (h : ∀ x cs F, R x cs F → (∀ c ∈ cs, isK k c = false) ∧ ∀ f ∈ F, ∀ c ∈ f.cs, isK k c = false) :
    ∀ (xs : List α) (cs : List Value) (F : List Fact), RepL R xs cs F → (∀ c ∈ cs, isK k c = false) ∧ ∀ f ∈ F, ∀ c ∈ f.cs, isK k c = false
  | [], cs, F, ⟨h1, h2⟩ => by subst h1 h2; exact ⟨fun c hc => (by cases hc), fun f hf => (by cases hf)⟩
  | x :: xs, cs, F, ⟨c1, c2, F1, F2, h1, h2, h3, h4⟩ => by
    subst h1 h2
    obtain ⟨a1, a2⟩ := h x c1 F1 h3
    obtain ⟨b1, b2⟩ := repL_clean h xs c2 F2 h4
    exact ⟨fun c hc => (List.mem_append.1 hc).elim (a1 c) (b1 c), fun f hf => (List.mem_append.1 hf).elim (a2 f) (b2 f)⟩
theorem rep_clean (k : IntKind) : ∀ (u : Ty) (x : u.den) (cs : List Value) (F : List Fact), noK k u = true → RepP u x cs F → (∀ c ∈ cs, isK k c = false) ∧ ∀ f ∈ F, ∀ c ∈ f.cs, isK k c = false
  | .sl e t, x, cs, F, h, ⟨v, css, F', h1, ⟨ao, c, h2, _⟩, h3, h4⟩ => by
    obtain ⟨a1, a2⟩ := repL_clean (k := k) (R := RepP t) (fun x cs F hr => rep_clean k t x cs F h hr) x css F' h4
    subst h1 h3 h2
    refine ⟨fun c' hc => ?_, fun f hf => ?_⟩
    · simp only [List.mem_singleton] at hc; subst hc; rfl
    · rcases List.mem_cons.1 hf with rfl | hf
      · exact a1
      · exact a2 f hf
  | .pair a b, x, cs, F, h, ⟨c1, c2, F1, F2, h1, h2, h3, h4⟩ => by
    simp only [noK, Bool.and_eq_true] at h
    obtain ⟨a1, a2⟩ := rep_clean k a x.1 c1 F1 h.1 h3
    obtain ⟨b1, b2⟩ := rep_clean k b x.2 c2 F2 h.2 h4
    subst h1 h2
    exact ⟨fun c hc => (List.mem_append.1 hc).elim (a1 c) (b1 c), fun f hf => (List.mem_append.1 hf).elim (a2 f) (b2 f)⟩
  | .int k', x, cs, F, h, hr => by
    obtain ⟨h1, h2⟩ : cs = (flatT (.int k')).cells x ∧ F = [] := hr
    subst h1 h2; exact ⟨flat_clean k _ x h, fun f hf => (by cases hf)⟩
  | .bool, x, cs, F, h, hr => by
    obtain ⟨h1, h2⟩ : cs = (flatT .bool).cells x ∧ F = [] := hr
    subst h1 h2; exact ⟨flat_clean k _ x h, fun f hf => (by cases hf)⟩
  | .str, x, cs, F, h, hr => by
    obtain ⟨h1, h2⟩ : cs = (flatT .str).cells x ∧ F = [] := hr
    subst h1 h2; exact ⟨flat_clean k _ x h, fun f hf => (by cases hf)⟩
  | .unit, x, cs, F, h, hr => by
    obtain ⟨h1, h2⟩ : cs = (flatT .unit).cells x ∧ F = [] := hr
    subst h1 h2; exact ⟨flat_clean k _ x h, fun f hf => (by cases hf)⟩
  | .arr n t, x, cs, F, h, hr => by
    obtain ⟨h1, h2⟩ : cs = (flatT (.arr n t)).cells x ∧ F = [] := hr
    subst h1 h2; exact ⟨flat_clean k _ x h, fun f hf => (by cases hf)⟩
/-- A variable of the package: numbers, so many; where they lie. -/
structure Glob where
  b : Nat
  T : TypeId
  n : Nat
  k : IntKind
  x : Vector Int n
def Glob.at (gl : Glob) : At := .fl (.arr gl.n (.int gl.k)) gl.x
def Glob.cs (gl : Glob) : List Value := (flatT (.arr gl.n (.int gl.k))).cells gl.x
def Glob.ok (gl : Glob) (w : World) : Prop := w.heap[gl.b]? = some (.cells gl.cs.toArray gl.T (0, 0))
theorem Glob.kind (gl : Glob) : ∀ c ∈ gl.cs, isK gl.k c = true := by
  intro c hc
  simp only [Glob.cs, flatT, FA] at hc
  obtain ⟨y, _, hy⟩ := List.mem_flatMap.1 hc
  have : c = .int gl.k y := by simpa [FK] using hy
  subst this
  simp [isK]
theorem glob_apart {gl : Glob} {w : World} (h : gl.ok w) {v : Value} {n sz : Nat} {cs : List Value} (hr : Rds v n sz cs w) (hc : ∀ c ∈ cs, isK gl.k c = false) (hne : cs ≠ []) : addrOf v ≠ some gl.b := by
  obtain ⟨_, ao, c, rfl, _, _, _, hcell⟩ := hr
  obtain ⟨u, us, rfl⟩ := List.exists_cons_of_ne_nil hne
  obtain ⟨ad, rfl, hu⟩ := hcell 0 u rfl
  intro e
  simp only [addrOf, Option.some.injEq] at e
  have hblk : (ad.add 0).block = gl.b := by rw [add_block]; exact e
  unfold World.cell? at hu
  unfold Glob.ok at h
  rw [hblk, h] at hu
  simp only at hu
  split at hu
  · cases hu
  · have hm : u ∈ gl.cs := by
      rw [List.getElem?_toArray] at hu
      exact List.mem_of_getElem? hu
    have h1 := gl.kind u hm
    rw [hc u (List.mem_cons_self ..)] at h1
    cases h1
def globGo : List Glob → List (Nat × SV) × List Ob → List (Nat × SV) × List Ob
  | [], s => s
  | gl :: gs, s => globGo gs (s.1 ++ [(rG + gl.b, .v (.a (.ptr s.2.length 0)))], s.2 ++ [.box gl.T [gl.at]])
def startG (ds : List Dyn) (gs : List Glob) : St := ⟨(globGo gs (startGo ds 0 ([], []))).1, (globGo gs (startGo ds 0 ([], []))).2, [], .nil⟩
theorem globGo_eq : ∀ (gs : List Glob) (s : List (Nat × SV) × List Ob), globGo gs s = (s.1 ++ gs.zipIdx.map (fun p => (rG + p.1.b, .v (.a (.ptr (s.2.length + p.2) 0)))), s.2 ++ gs.map fun gl => .box gl.T [gl.at])
  | [], s => by simp [globGo]
  | gl :: gs, s => by
    rw [globGo, globGo_eq gs]
    simp only [List.length_append, List.length_singleton, List.append_assoc, List.cons_append, List.nil_append, List.map_cons, List.zipIdx_cons, Prod.mk.injEq, Nat.add_zero]
    refine ⟨?_, trivial⟩
    congr 2
    rw [Nat.zero_add, List.zipIdx_succ]
    simp only [List.map_map]
    apply List.map_congr_left
    intro p _
    simp only [Function.comp_apply, Prod.mk.injEq, SV.v.injEq, V1.a.injEq, At.ptr.injEq, and_true, true_and]
    omega
theorem start_goQ {w : World} {ds : List Dyn} {vs : List Value} (h : Args w ds vs) : ∃ g, Started w g vs (startGo ds 0 ([], [])) := by
  obtain ⟨g, hs⟩ := start_go ds vs 0 ([], []) [] env0 h ⟨rfl, rfl, (fun p hp => by cases hp), (fun p hp => by cases hp), (fun i ob hi => by simp at hi)⟩ rfl
  exact ⟨g, by simpa using hs⟩
theorem start_len : ∀ (ds : List Dyn) (i : Nat) (s : List (Nat × SV) × List Ob), (startGo ds i s).1.length = s.1.length + ds.length
  | [], i, s => by simp [startGo]
  | d :: ds, i, s => by rw [startGo, start_len ds]; simp; omega
/-- What a law's arguments are told of is of their own types. -/
theorem started_clean {k : IntKind} : ∀ (ds : List Dyn) (i : Nat) (s : List (Nat × SV) × List Ob), (∀ d ∈ ds, noK k d.1 = true) → (∀ ob ∈ s.2, ∃ e u xs, ob = .row e u xs .lent false ∧ noK k u = true) →
    ∀ ob ∈ (startGo ds i s).2, ∃ e u xs, ob = .row e u xs .lent false ∧ noK k u = true
  | [], i, s, _, h => h
  | d :: ds, i, s, hd, h => by
    refine started_clean ds (i + 1) _ (fun d' hd' => hd d' (List.mem_cons_of_mem _ hd')) (fun ob hob => ?_)
    rcases List.mem_append.1 hob with hob | hob
    · exact h ob hob
    · have hk := hd d (List.mem_cons_self ..)
      revert hob
      generalize s.2.length = n
      obtain ⟨u, x⟩ := d
      have key : ∀ (u : Ty) (x : u.den) (n : Nat), noK k u = true → ob ∈ (unpk .lent u x n).2 → ∃ e t xs, ob = .row e t xs .lent false ∧ noK k t = true := by
        intro u
        induction u with
        | pair a b iha ihb =>
          intro x n hk hob
          simp only [noK, Bool.and_eq_true] at hk
          simp only [unpk] at hob
          rcases List.mem_append.1 hob with hob | hob
          · exact iha _ _ hk.1 hob
          · exact ihb _ _ hk.2 hob
        | sl e t _ =>
          intro x n hk hob
          simp only [unpk, List.mem_singleton] at hob
          exact ⟨e, t, x, hob, hk⟩
        | int k' => intro x n hk hob; simp [unpk] at hob
        | bool => intro x n hk hob; simp [unpk] at hob
        | str => intro x n hk hob; simp [unpk] at hob
        | unit => intro x n hk hob; simp [unpk] at hob
        | arr m t _ => intro x n hk hob; simp [unpk] at hob
      exact key u x n hk
def envG (g0 : Env) (n : Nat) (gs : List Glob) : Env := fun i => if i < n then g0 i else match gs[i - n]? with
  | some gl => ⟨.nilFunc, rfl, gl.b, [], []⟩
  | none => g0 i
theorem start_okG {w : World} {ds : List Dyn} {vs : List Value} {gs : List Glob} (h : Args w ds vs) (hg : ∀ gl ∈ gs, gl.ok w) (hn : (gs.map (·.b)).Nodup) (hk : ∀ gl ∈ gs, ∀ d ∈ ds, noK gl.k d.1 = true) :
    ∃ g, ((startG ds gs).slots.take ds.length).map (fun p => encS g p.2) = vs ∧ (startG ds gs).slots.map (·.1) = List.range ds.length ++ (gs.map (·.b)).map (rG + ·) ∧ (∀ p ∈ (startG ds gs).slots.drop ds.length, encS g p.2 = .pointer (some ⟨p.1 - rG, 0, none⟩)) ∧
      Cal g (startG ds gs) ∧ Cx g (startG ds gs) w (fun b => b ∈ gs.map (·.b)) (fun _ => True) w ∧
      (∀ b ∈ gs.map (·.b), ∃ i gl, i < (startG ds gs).obs.length ∧ gl ∈ gs ∧ gl.b = b ∧ (startG ds gs).ob i = .box gl.T [gl.at] ∧ (g i).b = b) := by
  obtain ⟨g0, hs⟩ := start_goQ h
  obtain ⟨s, hse⟩ : ∃ s, s = startGo ds 0 ([], []) := ⟨_, rfl⟩
  rw [← hse] at hs
  have hl1 : s.1.length = ds.length := by rw [hse, start_len]; simp
  have eS : startG ds gs = ⟨s.1 ++ gs.zipIdx.map (fun p => (rG + p.1.b, .v (.a (.ptr (s.2.length + p.2) 0)))), s.2 ++ gs.map (fun gl => .box gl.T [gl.at]), [], .nil⟩ := by
    unfold startG; rw [← hse, globGo_eq]
  rw [eS]
  obtain ⟨g, hge⟩ : ∃ g : Env, g = envG g0 s.2.length gs := ⟨_, rfl⟩
  have glt : ∀ i, i < s.2.length → g i = g0 i := fun i hi => by rw [hge]; simp [envG, hi]
  have gge : ∀ j gl, gs[j]? = some gl → (g (s.2.length + j)).b = gl.b := fun j gl hj => by
    rw [hge]; unfold envG; rw [if_neg (by omega), Nat.add_sub_cancel_left, hj]
  have obs : ∀ i, (⟨s.1 ++ gs.zipIdx.map (fun p => (rG + p.1.b, .v (.a (.ptr (s.2.length + p.2) 0)))), s.2 ++ gs.map (fun gl => .box gl.T [gl.at]), [], .nil⟩ : St).ob i =
      if i < s.2.length then s.2.getD i .gone else ((gs[i - s.2.length]?).map fun gl => Ob.box gl.T [gl.at]).getD .gone := by
    intro i
    simp only [St.ob, List.getD_eq_getElem?_getD]
    split
    · rename_i hi; rw [List.getElem?_append_left hi]
    · rename_i hi; rw [List.getElem?_append_right (by omega), List.getElem?_map]
  have low : ∀ i, i < s.2.length → ∃ e u xs, s.2.getD i .gone = .row e u xs .lent false ∧ obP g i (.row e u xs .lent false) ∧ ∀ f ∈ (⟨(g i).v, xs.length, u.sz, (g i).cs⟩ :: (g i).fs : List Fact), Rds f.v f.n f.sz f.cs w := by
    intro i hi
    obtain ⟨ob, hob⟩ : ∃ ob, s.2[i]? = some ob := ⟨s.2[i], List.getElem?_eq_getElem hi⟩
    obtain ⟨h1, e, u, xs, rfl, h2⟩ := hs.ob i ob hob
    refine ⟨e, u, xs, by rw [List.getD_eq_getElem?_getD, hob]; rfl, obP_ext (glt i hi) h1, ?_⟩
    rw [glt i hi]; exact h2
  have boxes : ∀ i ob, ¬ i < s.2.length → ((gs[i - s.2.length]?).map fun gl => Ob.box gl.T [gl.at]).getD .gone = ob → ob = .gone ∨ ∃ gl, gs[i - s.2.length]? = some gl ∧ ob = .box gl.T [gl.at] := by
    intro i ob _ h
    cases hgl : gs[i - s.2.length]? with
    | none => rw [hgl] at h; exact .inl h.symm
    | some gl => rw [hgl] at h; exact .inr ⟨gl, rfl, h.symm⟩
  have entB : ∀ i gl, ¬ i < s.2.length → gs[i - s.2.length]? = some gl → entL g i (.box gl.T [gl.at]) = boxE false gl.b gl.T gl.cs := by
    intro i gl hi hgl
    have hb := gge (i - s.2.length) gl hgl
    rw [show s.2.length + (i - s.2.length) = i by omega] at hb
    simp only [entL, boxT, hb, encL, List.flatMap_cons, List.flatMap_nil, List.append_nil]
    rfl
  refine ⟨g, ?_, ?_, ?_, ⟨fun i => ?_, fun p hp => ?_, fun p hp o ho => ?_, fun i T ls hi => ?_⟩, ⟨Fr.refl _ _, fun i => ?_, fun i => ?_, fun i b hb => ?_, fun i j hij b hb hb2 => ?_, fun i j b hb hb2 => ?_, fun i _ b _ => .inl trivial⟩, ?_⟩
  · simp only
    rw [List.take_left' hl1, ← hs.enc]
    apply List.map_congr_left
    intro p hp
    exact encS_ext _ (fun o ho => glt o (hs.rs p hp o ho))
  · simp only [List.map_append, hs.keys, hl1, List.map_map]
    congr 1
    apply List.ext_getElem?
    intro i
    simp only [List.getElem?_map, List.getElem?_zipIdx]
    cases gs[i]? <;> rfl
  · simp only
    rw [List.drop_left' hl1]
    intro p hp
    obtain ⟨⟨gl, j⟩, hq, rfl⟩ := List.mem_map.1 hp
    have hj := List.mem_zipIdx_iff_getElem?.1 hq
    have := gge j gl hj
    have e : rG + gl.b - rG = gl.b := by generalize rG = r; omega
    simp only [encS, encV, val1, this, e]
  · rw [obs]
    split
    · rename_i hi
      obtain ⟨e, u, xs, h1, h2, _⟩ := low i hi
      rw [h1]; exact h2
    · rename_i hi
      rcases boxes i _ hi rfl with h | ⟨gl, _, h⟩
      · rw [h]; trivial
      · rw [h]; rfl
  · rcases List.mem_append.1 hp with hp | hp
    · exact hs.ok p hp
    · obtain ⟨⟨gl, j⟩, hq, rfl⟩ := List.mem_map.1 hp
      rfl
  · simp only [List.length_append, List.length_map]
    rcases List.mem_append.1 hp with hp | hp
    · have := hs.rs p hp o ho; omega
    · obtain ⟨⟨gl, j⟩, hq, rfl⟩ := List.mem_map.1 hp
      have hj := List.mem_zipIdx_iff_getElem?.1 hq
      have hlt := (List.getElem?_eq_some_iff.1 hj).1
      simp only [refS, refV, refA, List.mem_singleton] at ho
      subst ho
      simp only at hlt ⊢
      omega
  · rw [obs] at hi
    split at hi
    · rename_i hlt
      obtain ⟨e, u, xs, h1, _⟩ := low i hlt
      rw [h1] at hi; cases hi
    · rename_i hlt
      rcases boxes i _ hlt hi with h | ⟨gl, _, h⟩
      · cases h
      · simp only [Ob.box.injEq] at h
        obtain ⟨rfl, rfl⟩ := h
        intro o ho
        simp [refA, Glob.at] at ho
  · simp only [obs]
    split
    · rename_i hi
      obtain ⟨e, u, xs, h1, _⟩ := low i hi
      rw [h1]; trivial
    · rename_i hi
      rcases boxes i _ hi rfl with h | ⟨gl, hgl, h⟩
      · rw [h]; trivial
      · rw [h, entB i gl hi hgl]
        exact hg gl (List.mem_of_getElem? hgl)
  · simp only [obs]
    split
    · rename_i hi
      obtain ⟨e, u, xs, h1, _, h2⟩ := low i hi
      rw [h1]; exact h2
    · rename_i hi
      rcases boxes i _ hi rfl with h | ⟨gl, hgl, h⟩
      · rw [h]; trivial
      · rw [h]; trivial
  · simp only [obs] at hb
    split at hb
    · rename_i hi
      obtain ⟨e, u, xs, h1, _⟩ := low i hi
      rw [h1] at hb; exact hb.elim
    · rename_i hi
      rcases boxes i _ hi rfl with h | ⟨gl, hgl, h⟩
      · rw [h] at hb; exact hb.elim
      · rw [h, entB i gl hi hgl] at hb
        have hb : b = gl.b := hb
        exact .inl (by rw [hb]; exact List.mem_map.2 ⟨gl, List.mem_of_getElem? hgl, rfl⟩)
  · have dom : ∀ i, (entL g i ((⟨s.1 ++ gs.zipIdx.map (fun p => (rG + p.1.b, .v (.a (.ptr (s.2.length + p.2) 0)))), s.2 ++ gs.map (fun gl => .box gl.T [gl.at]), [], .nil⟩ : St).ob i)).dom b → ¬ i < s.2.length ∧ (gs[i - s.2.length]?).map (·.b) = some b := by
      intro i hb
      rw [obs] at hb
      split at hb
      · rename_i hi
        obtain ⟨e, u, xs, h1, _⟩ := low i hi
        rw [h1] at hb; exact hb.elim
      · rename_i hi
        rcases boxes i _ hi rfl with h | ⟨gl, hgl, h⟩
        · rw [h] at hb; exact hb.elim
        · rw [h, entB i gl hi hgl] at hb
          have hb : b = gl.b := hb
          exact ⟨hi, by rw [hgl, hb]; rfl⟩
    obtain ⟨h1, h2⟩ := dom i hb
    obtain ⟨h3, h4⟩ := dom j hb2
    rw [← List.getElem?_map] at h2 h4
    have hlt : i - s.2.length < (gs.map (·.b)).length := (List.getElem?_eq_some_iff.1 h2).1
    have := (List.getElem?_inj hlt hn).1 (h2.trans h4.symm)
    omega
  · simp only [obs] at hb hb2
    split at hb
    · rename_i hi
      obtain ⟨e, u, xs, h1, _⟩ := low i hi
      rw [h1] at hb; exact hb.elim
    · rename_i hi
      rcases boxes i _ hi rfl with h | ⟨gl, hgl, h⟩
      · rw [h] at hb; exact hb.elim
      · rw [h, entB i gl hi hgl] at hb
        have hb : b = gl.b := hb
        have hgm := List.mem_of_getElem? hgl
        split at hb2
        · rename_i hj
          obtain ⟨e, u, xs, h1, hobp, h2⟩ := low j hj
          rw [h1] at hb2
          obtain ⟨f, hf, hne, had⟩ := hb2
          have hin : Ob.row e u xs .lent false ∈ s.2 := by
            rw [← h1, List.getD_eq_getElem?_getD, List.getElem?_eq_getElem hj]
            exact List.getElem_mem hj
          have hku : noK gl.k u = true := by
            have := started_clean (k := gl.k) ds 0 ([], []) (hk gl hgm) (fun ob hob => (by cases hob)) (.row e u xs .lent false) (by rw [← hse]; exact hin)
            obtain ⟨e', u', xs', h5, h6⟩ := this
            cases h5
            exact h6
          have hrep : RepL (RepP u) xs (g j).cs (g j).fs := hobp.1
          obtain ⟨c1, c2⟩ := repL_clean (k := gl.k) (R := RepP u) (fun x cs F hr => rep_clean gl.k u x cs F hku hr) _ _ _ hrep
          have hcl : ∀ c ∈ f.cs, isK gl.k c = false := by
            rcases List.mem_cons.1 hf with rfl | hf'
            · exact c1
            · exact c2 f hf'
          exact glob_apart (hg gl hgm) (h2 f hf) hcl hne (by rw [had, hb])
        · rename_i hj
          rcases boxes j _ hj rfl with h5 | ⟨gl', _, h5⟩
          · rw [h5] at hb2; exact hb2.elim
          · rw [h5] at hb2; exact hb2.elim
  · intro b hb
    obtain ⟨gl, hgm, rfl⟩ := List.mem_map.1 hb
    obtain ⟨j, hj⟩ := List.getElem?_of_mem hgm
    have hlt := (List.getElem?_eq_some_iff.1 hj).1
    refine ⟨s.2.length + j, gl, by simp [List.length_append]; omega, hgm, rfl, ?_, gge j gl hj⟩
    rw [obs, if_neg (by omega), show s.2.length + j - s.2.length = j by omega, hj]
    rfl
theorem law_doneG {P : Program} {w : World} {f : Nat} {c : Con} {ds : List Dyn} {vs : List Value} {gs : List Glob} {k : Nat} {x : HL c.pat.codes} (hc : ConOk P c) (hfn : c.fn = f) (h : Args w ds vs) (hg : ∀ gl ∈ gs, gl.ok w) (hn : (gs.map (·.b)).Nodup) (hk : ∀ gl ∈ gs, ∀ d ∈ ds, noK gl.k d.1 = true)
    (hsh : ∀ b ∈ gs.map (·.b), b < shift) {y : DenL (c.out.map NSh.codes)}
    (hy : c.f k x = some y) (hp : patSt c.pat x = some (startG ds gs)) (hout : c.out = [⟨[(rB, .v (.a (.fl .bool)))], [], []⟩]) (hel : ∀ (R : Type) (q : Nat → List Dyn → R), elimL (c.out.map NSh.codes) y q = q 0 [⟨.bool, true⟩]) :
    Calls P f vs.toArray w (fun e w' => ∃ v, e = .returned v ∧ v = .bool true ∧ Fr nob w w') := by
  obtain ⟨g, h1, h2, h2b, h3, h4, h5⟩ := start_okG h hg hn hk
  have key := hc k x y (startG ds gs) ds.length (gs.map (·.b)) hy hp h2 hsh g w _ (fun _ => True) h3 h4 h2b
  rw [h1, hfn] at key
  refine Calls.mono key ?_
  rintro e w' ⟨v, rfl, i, es, s, N, r, g', q1, q2, q3, q4, q5, q6, q7, q8, q9, q10⟩
  have e0 := q1 (Nat × List Dyn) (fun i ds => (i, ds))
  rw [hel] at e0
  simp only [Prod.mk.injEq] at e0
  obtain ⟨rfl, rfl⟩ := e0
  rw [hout] at q2
  simp only [List.getElem?_cons_zero, Option.some.injEq] at q2
  subst q2
  have q3' : fiN ⟨[(rB, .v (.a (.fl .bool)))], [], []⟩ [⟨.bool, true⟩] = some N := q3
  have hN : fiN ⟨[(rB, .v (.a (.fl .bool)))], [], []⟩ [⟨.bool, true⟩] = some ⟨[(rB, .v (.a (.fl .bool true)))], [], []⟩ := by rfl
  rw [hN] at q3'
  cases q3'
  simp only [Go.Proofs.YtlidgpepppjeiaaDoor.results, Option.some.injEq] at q4
  subst q4
  refine ⟨_, rfl, q5, ?_⟩
  have fr := q9.fr
  refine ⟨fr.os, fr.tape, fr.output, fr.size, fun b hb _ => ?_⟩
  by_cases hbg : b ∈ gs.map (·.b)
  · obtain ⟨i, gl, hi, hgm, hglb, hob, hgb⟩ := h5 b hbg
    obtain ⟨k1, k2⟩ := q10.same i hi (fun hx => by cases hx)
    have hok := q9.okL i
    have k1' : (afterS (startG ds gs) ⟨[(rB, .v (.a (.fl .bool true)))], [], []⟩).ob i = .box gl.T [gl.at] := (k1.trans hob)
    simp only [k1', entL, boxT, k2, hgb] at hok
    have hok : w'.heap[b]? = some (.cells (encL g' [gl.at]).toArray gl.T (0, 0)) := hok
    have hen : encL g' [gl.at] = gl.cs := by simp [encL, encA, Glob.at, Glob.cs]
    rw [hok, hen, ← hglb]
    exact (hg gl hgm).symm
  · exact fr.block b hb hbg
theorem allK {gs : List Glob} {ds : List Dyn} (h : ((gs.map (·.k)).all fun k => (ds.map (·.1)).all (noK k)) = true) : ∀ gl ∈ gs, ∀ d ∈ ds, noK gl.k d.1 = true := by
  intro gl hgl d hd
  have h1 := List.all_eq_true.1 h gl.k (List.mem_map.2 ⟨gl, hgl, rfl⟩)
  exact List.all_eq_true.1 h1 d.1 (List.mem_map.2 ⟨d, hd, rfl⟩)
/-- A laid variable, where it lies. -/
theorem glob_ok {P : Program} {W : World} {gl : Glob} {name : String} (hsh : W.ShapedOpen P) (hg : P.globalNamed name = some gl.b) (hz : (((begin P (fun _ _ => 0) default).world.heap[gl.b]?).bind Obj.row?).map (·.2) = some gl.T)
    (hlt : gl.b < P.globals.size) (htab : Lib.TabIs P W name gl.k gl.x.toList) : gl.ok W := by
  obtain ⟨⟨zero, T⟩, h1, h2⟩ := Option.map_eq_some_iff.1 hz
  simp only at h2
  subst h2
  obtain ⟨cs, h3, _⟩ := hsh.1 gl.b zero _ hlt h1
  unfold Lib.TabIs at htab
  have hvar : W.var? P name = some cs := by
    unfold World.var?
    rw [hg]
    simp only [Option.bind_some, h3]
  rw [hvar] at htab
  have hcs : cs = gl.cs.toArray := by
    rw [Option.some.inj htab]
    congr 1
    simp only [Glob.cs, flatT, FA, arL_eq, FK]
    induction gl.x.toList with
    | nil => rfl
    | cons a l ih => simp [ih]
  unfold Glob.ok
  rw [h3, hcs]
section
variable {H : Type} {enc : TypeId × Value → H}
theorem returns_shaped {a : Assume} {C : Checked} {os : Os} {f : FuncId} {fn : Func} {s : ChangeSpec} {conds : List PathCond} {apart fresh handsOn again : Bool} {X : World → Array Value → Prop}
    (hX : ∀ (w w' : World) (args : Array Value), w.heap = w'.heap → X w args → X w' args)
    (own : ownKnob C.prog.godebug = none) (started : os.Started) (noInit : C.prog.inits.idxOf? f = none) (hfn : C.prog.funcs[f]? = some fn)
    (witness : ∃ (w : World) (tape : Tape) (i : Input), w.os = os ∧ (w.forCall tape i).Shaped C.prog ∧ i.vars = [] ∧ Input.okWide C.prog (w.forCall tape i) .any w.heap.size f i ∧
      ((s.pre enc C.prog fn conds apart (w.forCall tape i).memory i.args ∧ X (w.forCall tape i).memory i.args) ∧ sizedMet enc C.prog fn (OpenSpec.ofChange s) apart (w.forCall tape i).memory i.args) ∧ a.holds C.prog (lone (Frame.enter C.prog f i.args .normal) [] (w.forCall tape i)))
    (contract : ∀ (W : World) (base : Nat) (args : Array Value) (ds gs : List (DataW H)) (before : List MemPlace),
      (∀ (j : Nat) t v, fn.params[j]? = some t → args[j]? = some v → Value.okWide C.prog W .any base t v) →
      DataW.Whole enc C.prog fn.params.toList s.vars apart W args.toList ds gs before → X W args → W.ShapedOpen C.prog →
      Calls C.prog f args W fun e W' => ∃ v, e = .returned v ∧ s.post enc C.prog fn apart fresh handsOn again W args v W') :
    ReturnsInHanded a C os f .any (fun w args => (s.pre enc C.prog fn conds apart w args ∧ X w args) ∧ sizedMet enc C.prog fn (OpenSpec.ofChange s) apart w args) (s.post enc C.prog fn apart fresh handsOn again) := by
  refine returnsInHanded_of_calls own started noInit witness ?_
  intro w tape i _ hshape _ hok hpre hholds
  obtain ⟨_, _, _, fn', hfn', _, _, _, _, hval⟩ := hok
  have e : fn' = fn := Option.some.inj (hfn'.symm.trans hfn)
  subst e
  obtain ⟨⟨⟨ds, gs, before, hw, hc⟩, hx⟩, hz⟩ := hpre
  have hw' := DataW.Whole.of_heap (w' := w.forCall tape i) (by rfl) hw
  refine (contract (w.forCall tape i) w.heap.size i.args ds gs before hval hw' (hX _ _ _ (by rfl) hx) hshape).mono fun e W' ⟨v, he, hp⟩ => ?_
  subst he
  exact ChangeSpec.post_blind hp
end
end Go.Proofs.YtlidgpepppjeiaaDoor
/- The variables of the package that are laid. No condition. -/
namespace Go.Proofs.YtlidgpepppjeiaaDoor
open Go
def vgl_check_table : Vector Int 16 := ⟨#[0, 498536548, 997073096, 651767980, 1994146192, 1802195444, 1303535960, 1342533948, 3988292384, 4027552580, 3604390888, 3412177804, 2607071920, 2262029012, 2685067896, 3183342108], rfl⟩
def gl_check_table : Glob := ⟨0, 134, 16, .u32, vgl_check_table⟩
end Go.Proofs.YtlidgpepppjeiaaDoor
/- The plain law of RedoNil. No condition. -/
set_option linter.unusedVariables false
set_option linter.unusedSimpArgs false
namespace Go.Proofs.YtlidgpepppjeiaaDoor
open Go
def RedoNilPure : Prop := ∀ (z0 : Ty.den (.int .i64)), wfT (.int .i64) z0 → ∃ k, law07_RedoNil k (z0, vgl_check_table) = some true
theorem redoNil_law : RedoNilPure := by
  intro i _
  refine ⟨1000, ?_⟩
  kernel_rfl
end Go.Proofs.YtlidgpepppjeiaaDoor
