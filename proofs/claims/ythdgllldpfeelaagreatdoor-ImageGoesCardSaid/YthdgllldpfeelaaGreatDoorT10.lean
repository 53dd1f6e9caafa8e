/- Texts of the proof, put together: part 10. No condition. -/
import Derived.Test.YthdgllldpfeelaaGreatDoorT9
import Derived.Test.YthdgllldpfeelaaGreatDoorRows
import Derived.WalkKit
import Derived.ProofKit
import Derived.OpenShut
import Derived.ShutString
import Derived.ChangeOld
import Derived.SizedLaws
import Derived.Deep.Slices
import Derived.LaidMore
import Derived.Lib.LaidTab
import Derived.Stop.Joined
/- Arguments that came in, as data; a law's start and its end. No condition. -/
set_option linter.unusedVariables false
set_option linter.unusedSimpArgs false
namespace Go.Proofs.YthdgllldpfeelaaGreatDoor
open Go Go.WideShapes Go.ChangeShapes
mutual
/-- Is a type told by data, its parts one behind the other? -/
def chkT (P : Program) : Nat → TypeId → Ty → Bool
  | 0, _, _ => false
  | d + 1, t, u => match P.underlying t with
    | some .bool => decide (u = .bool)
    | some (.int k) => decide (u = .int k)
    | some .string => decide (u = .str)
    | some (.array n e) => match u with
      | .arr m v => decide (n = m) && v.flat && chkT P d e v && decide (n * P.cellsOf e = P.cellsOf t) && decide (P.cellsOf e = v.sz)
      | _ => false
    | some (.slice e) => match u with
      | .sl e' v => decide (e = e') && chkT P d e v && decide (P.cellsOf e = v.sz)
      | _ => false
    | some (.struct fs) => chkF P d 0 fs.toList u (P.cellsOf t)
    | _ => false
def chkF (P : Program) : Nat → Nat → List Field → Ty → Nat → Bool
  | 0, _, _, _, _ => false
  | _ + 1, off, [], u, n => decide (u = .unit) && decide (off = n)
  | d + 1, off, [f], u, n => decide (f.offset = off) && chkT P d f.type u && decide (off + P.cellsOf f.type = n)
  | d + 1, off, f :: g :: fs, u, n => match u with
    | .pair a b => decide (f.offset = off) && chkT P d f.type a && chkF P d (off + P.cellsOf f.type) (g :: fs) b n
    | _ => false
end
def wfT : (u : Ty) → u.den → Prop
  | .int k, x => (Lit.int k x).wf = true
  | .bool, _ => True
  | .str, s => s.size ≤ 9223372036854775807
  | .unit, _ => True
  | .arr n t, v => ∀ i : Fin n, wfT t (v.get i)
  | .pair a b, x => wfT a x.1 ∧ wfT b x.2
  | .sl _ t, l => l.length ≤ 9223372036854775807 ∧ ∀ x ∈ l, wfT t x
def Facts (F : List Fact) (w : World) : Prop := ∀ f ∈ F, Rds f.v f.n f.sz f.cs w
section
variable {H : Type} {enc : TypeId × Value → H} {P : Program} {w : World} {base : Nat} {held : Bool}
theorem facts_app {F G : List Fact} (h : Facts F w) (k : Facts G w) : Facts (F ++ G) w := fun f hf => by
  rcases List.mem_append.1 hf with hf | hf
  · exact h f hf
  · exact k f hf
mutual
theorem open_rep : ∀ (d fuel : Nat) (t : TypeId) (u : Ty) (cs : List Value) (x : DataW H × List MemPlace), chkT P d t u = true → DataW.trod enc P w base (fun _ => true) held fuel t cs = some x →
    ∃ (y : u.den) (F : List Fact), RepP u y cs F ∧ Facts F w ∧ wfT u y
  | 0, _, _, _, _, _, h, _ => by simp [chkT] at h
  | d + 1, fuel, t, u, cs, x, h, hx => by
    simp only [chkT] at h
    split at h
    · rename_i hu
      obtain rfl := of_decide_eq_true h
      obtain ⟨b, rfl, _⟩ := DataW.trod_bool hu hx
      exact ⟨b, [], ⟨rfl, rfl⟩, (fun f hf => by cases hf), trivial⟩
    · rename_i k hu
      obtain rfl := of_decide_eq_true h
      obtain ⟨n, rfl, _, hw⟩ := DataW.trod_int hu hx
      exact ⟨n, [], ⟨rfl, rfl⟩, (fun f hf => by cases hf), hw⟩
    · rename_i hu
      obtain rfl := of_decide_eq_true h
      obtain ⟨s, rfl, _, hw⟩ := DataW.trod_string hu hx
      exact ⟨s, [], ⟨rfl, rfl⟩, (fun f hf => by cases hf), hw⟩
    · rename_i n e hu
      split at h
      · rename_i m v
        simp only [Bool.and_eq_true, decide_eq_true_eq] at h
        obtain ⟨⟨⟨⟨rfl, hfl⟩, hc⟩, hsz⟩, hv⟩ := h
        obtain ⟨xs, m, rfl, _, hl, hlen, hm⟩ := DataW.trod_array hu hx
        have one : ∀ i, i < n → ∃ y : v.den, (cs.drop (i * v.sz)).take v.sz = (flatT v).cells y ∧ wfT v y := by
          intro i hi
          have hlt : i < xs.length := by omega
          obtain ⟨y, F, h1, h2, h3⟩ := open_rep d m e v _ xs[i] hc (by rw [hm i hi, List.getElem?_eq_getElem hlt])
          rw [hv] at h1
          exact ⟨y, ((RepP_flat v hfl _ _ _).1 h1).1, h3⟩
        haveI : Inhabited v.den := ⟨v.dflt⟩
        obtain ⟨f, hf⟩ := Go.Deep.choose_lt one
        refine ⟨Vector.ofFn (fun i : Fin n => f i.1), [], ⟨?_, rfl⟩, (fun f hf => by cases hf), fun i => ?_⟩
        · have har : arL (flatT v).dflt n (Vector.ofFn (fun i : Fin n => f i.1)) = (List.range n).map f := by
            unfold arL
            apply List.map_congr_left
            intro i hi
            have hi : i < n := by simpa using hi
            have h1 : (Vector.ofFn (fun i : Fin n => f i.1)).toArray.size = n := by simp
            simp only [Array.getD, h1, hi, dif_pos]
            simp [Array.getInternal_eq_getElem]
          have hcs : ∀ k, k ≤ n → ((List.range k).map f).flatMap (flatT v).cells = cs.take (k * v.sz) := by
            intro k
            induction k with
            | zero => intro _; simp
            | succ k ih =>
              intro hk
              rw [List.range_succ, List.map_append, List.flatMap_append, ih (by omega)]
              simp only [List.map_cons, List.map_nil, List.flatMap_cons, List.flatMap_nil, List.append_nil]
              rw [← (hf k (by omega)).1, Nat.add_mul, Nat.one_mul, List.take_add]
          show cs = (arL (flatT v).dflt n _).flatMap (flatT v).cells
          rw [har, hcs n (Nat.le_refl _), List.take_of_length_le]
          rw [hl, ← hsz, hv]; exact Nat.le_refl _
        · have : (Vector.ofFn (fun i : Fin n => f i.1)).get i = f i.1 := by
            simp only [Vector.get]
            simp
            first | rfl | done
          rw [this]; exact (hf i.1 i.2).2
      · cases h
    · rename_i e hu
      split at h
      · rename_i e' v
        simp only [Bool.and_eq_true, decide_eq_true_eq] at h
        obtain ⟨⟨rfl, hc⟩, hv⟩ := h
        rcases Go.Deep.open_slice hu hx with ⟨h0, _⟩ | ⟨a, len, cap, m, n, D, Pl, hcs, hb, hl, hm, hmm, _, hel⟩
        · subst h0
          exact ⟨[], [⟨.slice none 0 0, 0, v.sz, []⟩], ⟨_, [], [], rfl, ⟨none, 0, rfl, fun _ => rfl⟩, rfl, rfl, rfl⟩, (fun f hf => by
            simp only [List.mem_singleton] at hf; subst hf; exact rds_nil _ _), by simp, by simp⟩
        · subst hcs
          have hm' : len ≤ m := by rw [hmm]; split <;> omega
          have one : ∀ i, i < len → ∃ y : v.den × List Value × List Fact, w.cells? base (a.add (i * v.sz)) v.sz = some y.2.1 ∧ RepP v y.1 y.2.1 y.2.2 ∧ Facts y.2.2 w ∧ wfT v y.1 := by
            intro i hi
            obtain ⟨cs', h1, h2⟩ := hel i (by omega)
            rw [hv] at h1
            obtain ⟨y, F, k1, k2, k3⟩ := open_rep d n e v cs' _ hc h2
            exact ⟨(y, cs', F), h1, k1, k2, k3⟩
          haveI : Inhabited (v.den × List Value × List Fact) := ⟨(v.dflt, [], [])⟩
          obtain ⟨f, hf⟩ := Go.Deep.choose_lt one
          have build : ∀ k, k ≤ len → ∃ css F, RepL (RepP v) ((List.range k).map fun i => (f i).1) css F ∧ Facts F w ∧ css.length = k * v.sz ∧ ∀ j c, css[j]? = some c → w.cell? (a.add j) = some c := by
            intro k
            induction k with
            | zero => intro _; exact ⟨[], [], ⟨rfl, rfl⟩, (fun f hf => by cases hf), by simp, by simp⟩
            | succ k ih =>
              intro hk
              obtain ⟨css, F, r1, r2, r3, r4⟩ := ih (by omega)
              obtain ⟨c1, c2, c3, _⟩ := hf k (by omega)
              obtain ⟨_, hcl, hce⟩ := World.cells?_some c1
              refine ⟨css ++ (f k).2.1, F ++ (f k).2.2, ?_, facts_app r2 c3, ?_, fun j c hj => ?_⟩
              · rw [List.range_succ, List.map_append]
                refine RepL_app _ _ _ _ _ _ r1 ?_
                exact ⟨(f k).2.1, [], (f k).2.2, [], by simp, by simp, c2, rfl, rfl⟩
              · rw [List.length_append, r3, RepP_len v _ _ _ c2, Nat.add_mul, Nat.one_mul]
              · by_cases hlt : j < k * v.sz
                · rw [List.getElem?_append_left (by omega)] at hj
                  exact r4 j c hj
                · rw [List.getElem?_append_right (by omega), r3] at hj
                  have hlt2 := (List.getElem?_eq_some_iff.1 hj).1
                  rw [RepP_len v _ _ _ c2] at hlt2
                  have := hce (j - k * v.sz) hlt2
                  rw [hj, Go.Deep.add_add] at this
                  rw [← this]; congr 2; omega
          obtain ⟨css, F, r1, r2, r3, r4⟩ := build len (Nat.le_refl _)
          have hlen : ((List.range len).map fun i => (f i).1).length = len := by simp
          have hmx : cap ≤ 9223372036854775807 := by unfold maxLen at hm; omega
          refine ⟨(List.range len).map fun i => (f i).1, ⟨.slice (some a) len cap, len, v.sz, css⟩ :: F, ⟨_, css, F, rfl, ⟨some a, cap, by rw [hlen], fun h => by cases h⟩, by rw [hlen], r1⟩, fun f0 hf0 => ?_, ?_, ?_⟩
          · rcases List.mem_cons.1 hf0 with rfl | hf0
            · exact ⟨r3, some a, cap, rfl, hl, hmx, (fun h => by cases h), fun j u hu => ⟨a, rfl, r4 j u hu⟩⟩
            · exact r2 f0 hf0
          · rw [hlen]; omega
          · intro y hy
            simp only [List.mem_map, List.mem_range] at hy
            obtain ⟨i, hi, rfl⟩ := hy
            exact (hf i hi).2.2.2
      · cases h
    · rename_i fs hu
      obtain ⟨xs, m, rfl, _, hl, hlen, hm⟩ := DataW.trod_struct hu hx
      have := open_repF d m 0 fs.toList u (P.cellsOf t) cs h hl (fun i f hi => ?_)
      · simpa using this
      · have hi' : fs[i]? = some f := by simpa using hi
        have hlt : i < xs.length := by rw [hlen]; exact (Array.getElem?_eq_some_iff.1 hi').1
        exact ⟨xs[i], by rw [hm i f hi', List.getElem?_eq_getElem hlt]⟩
    · cases h
theorem open_repF : ∀ (d fuel off : Nat) (fs : List Field) (u : Ty) (n : Nat) (cs : List Value), chkF P d off fs u n = true → cs.length = n →
    (∀ (i : Nat) f, fs[i]? = some f → ∃ y, DataW.trod enc P w base (fun _ => true) held fuel f.type ((cs.drop f.offset).take (P.cellsOf f.type)) = some y) →
    ∃ (y : u.den) (F : List Fact), RepP u y (cs.drop off) F ∧ Facts F w ∧ wfT u y
  | 0, _, _, _, _, _, _, h, _, _ => by simp [chkF] at h
  | d + 1, fuel, off, [], u, n, cs, h, hl, _ => by
    simp only [chkF, Bool.and_eq_true, decide_eq_true_eq] at h
    obtain ⟨rfl, rfl⟩ := h
    exact ⟨(), [], ⟨by simp [flatT, FU, ← hl], rfl⟩, (fun f hf => by cases hf), trivial⟩
  | d + 1, fuel, off, [f], u, n, cs, h, hl, hm => by
    simp only [chkF, Bool.and_eq_true, decide_eq_true_eq] at h
    obtain ⟨⟨ho, hc⟩, hn⟩ := h
    obtain ⟨x, hx⟩ := hm 0 f rfl
    have := open_rep d fuel f.type u _ x hc hx
    rw [ho, List.take_of_length_le (by rw [List.length_drop]; omega)] at this
    exact this
  | d + 1, fuel, off, f :: g :: fs, u, n, cs, h, hl, hm => by
    simp only [chkF] at h
    split at h
    · rename_i a b
      simp only [Bool.and_eq_true, decide_eq_true_eq] at h
      obtain ⟨⟨ho, hc⟩, hn⟩ := h
      obtain ⟨x, hx⟩ := hm 0 f rfl
      obtain ⟨y1, F1, a1, a2, a3⟩ := open_rep d fuel f.type a _ x hc hx
      obtain ⟨y2, F2, b1, b2, b3⟩ := open_repF d fuel (off + P.cellsOf f.type) (g :: fs) b n cs hn hl (fun i f' hi => hm (i + 1) f' hi)
      refine ⟨(y1, y2), F1 ++ F2, ⟨_, _, F1, F2, ?_, rfl, a1, b1⟩, facts_app a2 b2, a3, b3⟩
      rw [ho, ← List.drop_drop, List.take_append_drop]
    · cases h
end
/-- What a value of a type is, by its cells. -/
def valC : Ty → List Value → Value
  | .arr _ _, cs => .agg cs.toArray
  | .pair _ _, cs => .agg cs.toArray
  | .unit, cs => .agg cs.toArray
  | _, cs => cs.headD .nilFunc
/-- Is it an aggregate, just where its data are? -/
def aggOk (P : Program) (t : TypeId) (u : Ty) : Bool :=
  match P.underlying t, u with
  | some (.struct _), .pair _ _ => true
  | some (.struct _), .unit => true
  | some (.array _ _), .arr _ _ => true
  | some (.slice _), .sl _ _ => true
  | some .bool, .bool => true
  | some (.int _), .int _ => true
  | some .string, .str => true
  | _, _ => false
structure RepOk (w : World) (d : Dyn) (v : Value) : Prop where
  rep : ∃ F, RepP d.1 d.2 v.cells.toList F ∧ Facts F w
  val : v = valC d.1 v.cells.toList
theorem open_arg {b0 : Nat} {t : TypeId} {u : Ty} {v : Value} {d : DataW H} {ps : List MemPlace} (hc : chkT P 12 t u = true) (ha : aggOk P t u = true) (hval : Value.okWide P w .any b0 t v) (hd : DataW.Trod enc P w base (fun _ => true) held t v d ps) :
    ∃ y : u.den, RepOk w ⟨u, y⟩ v ∧ wfT u y := by
  obtain ⟨fuel, hf⟩ := hd
  obtain ⟨y, F, h1, h2, h3⟩ := open_rep 12 fuel t u _ _ hc hf
  refine ⟨y, ⟨⟨F, h1, h2⟩, ?_⟩, h3⟩
  have agg : (∃ cs, v = .agg cs) → ∀ u, (match u with | .arr _ _ => true | .pair _ _ => true | .unit => true | _ => false) = true → v = valC u v.cells.toList := by
    rintro ⟨cs, rfl⟩ u hu
    cases u <;> simp_all [valC, Value.cells]
  unfold aggOk at ha
  split at ha
  · rename_i fs e
    exact agg (by unfold Value.okWide at hval; rw [e] at hval; obtain ⟨cs, h, _⟩ := hval; exact ⟨cs, h⟩) _ rfl
  · rename_i fs e
    exact agg (by unfold Value.okWide at hval; rw [e] at hval; obtain ⟨cs, h, _⟩ := hval; exact ⟨cs, h⟩) _ rfl
  · rename_i n e' e
    exact agg (by unfold Value.okWide at hval; rw [e] at hval; obtain ⟨cs, h, _⟩ := hval; exact ⟨cs, h⟩) _ rfl
  · rename_i e
    obtain ⟨a, l, c, rfl⟩ := okWide_slice e hval
    rfl
  · rename_i e
    obtain ⟨b, rfl⟩ := okWide_bool e hval
    rfl
  · rename_i e
    obtain ⟨b, rfl⟩ := okWide_int e hval
    rfl
  · rename_i e
    obtain ⟨b, rfl⟩ := okWide_string e hval
    rfl
  · cases ha
end
/-! ### a law's start -/
inductive Args (w : World) : List Dyn → List Value → Prop where
  | nil : Args w [] []
  | cons {d : Dyn} {v : Value} {ds : List Dyn} {vs : List Value} : RepOk w d v → Args w ds vs → Args w (d :: ds) (v :: vs)
def slotOf (u : Ty) (ls : List At) : SV :=
  match u, ls with
  | .pair _ _, ls => .v (.st ls)
  | .unit, ls => .v (.st ls)
  | _, [a] => .v (.a a)
  | _, ls => .v (.st ls)
def startGo : List Dyn → Nat → List (Nat × SV) × List Ob → List (Nat × SV) × List Ob
  | [], _, s => s
  | d :: ds, i, s => startGo ds (i + 1) (s.1 ++ [(i, slotOf d.1 (unpk .lent d.1 d.2 s.2.length).1)], s.2 ++ (unpk .lent d.1 d.2 s.2.length).2)
def startS (ds : List Dyn) : St := ⟨(startGo ds 0 ([], [])).1, (startGo ds 0 ([], [])).2, [], .nil⟩
theorem unpk_nrm (m : Md) : ∀ (u : Ty) (x : u.den) (n : Nat), (unpk m u x n).1.all nrmA = true
  | .pair a b, x, n => by simp only [unpk, List.all_append, unpk_nrm m a x.1 n, unpk_nrm m b x.2 _, Bool.and_self]
  | .int k, x, n => rfl
  | .bool, x, n => rfl
  | .str, x, n => rfl
  | .unit, x, n => rfl
  | .arr q t, x, n => rfl
  | .sl e t, x, n => rfl
theorem slot_enc (u : Ty) (x : u.den) (m : Md) (n : Nat) (g : Env) : encS g (slotOf u (unpk m u x n).1) = valC u (encL g (unpk m u x n).1) ∧ nrmS (slotOf u (unpk m u x n).1) = true ∧ refS (slotOf u (unpk m u x n).1) = (unpk m u x n).1.flatMap refA := by
  cases u with
  | int k => exact ⟨rfl, rfl, rfl⟩
  | bool => exact ⟨rfl, rfl, rfl⟩
  | str => exact ⟨rfl, rfl, rfl⟩
  | unit => exact ⟨rfl, rfl, rfl⟩
  | arr q t => exact ⟨by simp [slotOf, unpk, encS, encV, val1, valC, encL, encA], rfl, rfl⟩
  | pair a b => exact ⟨rfl, unpk_nrm m _ x n, rfl⟩
  | sl e t => exact ⟨rfl, rfl, rfl⟩
structure Started (w : World) (g : Env) (vs : List Value) (s : List (Nat × SV) × List Ob) : Prop where
  enc : s.1.map (fun p => encS g p.2) = vs
  keys : s.1.map (·.1) = List.range s.1.length
  ok : ∀ p ∈ s.1, nrmS p.2 = true
  rs : ∀ p ∈ s.1, ∀ o ∈ refS p.2, o < s.2.length
  ob : ∀ i ob, s.2[i]? = some ob → obP g i ob ∧ ∃ e u xs, ob = .row e u xs .lent false ∧ ∀ f ∈ (⟨(g i).v, xs.length, u.sz, (g i).cs⟩ :: (g i).fs : List Fact), Rds f.v f.n f.sz f.cs w
theorem start_go {w : World} : ∀ (ds : List Dyn) (vs : List Value) (i : Nat) (s : List (Nat × SV) × List Ob) (us : List Value) (g : Env), Args w ds vs → Started w g us s → i = s.1.length →
    ∃ g', Started w g' (us ++ vs) (startGo ds i s)
  | [], [], i, s, us, g, .nil, h, hi => ⟨g, by simpa [startGo] using h⟩
  | d :: ds, v :: vs, i, s, us, g, .cons hd hds, h, hi => by
    obtain ⟨F, hrep, hfa⟩ := hd.rep
    obtain ⟨g1, e1, e2, e3, e4, e5⟩ := unpk_spec .lent (by decide) d.1 d.2 s.2.length g _ F hrep
    obtain ⟨s1, s2, s3⟩ := slot_enc d.1 d.2 .lent s.2.length g1
    have hsl : ∀ o ∈ refS (slotOf d.1 (unpk .lent d.1 d.2 s.2.length).1), o < (s.2 ++ (unpk .lent d.1 d.2 s.2.length).2).length := by
      rw [s3]
      intro o ho
      have := (e4 o ho).2
      rw [List.length_append]; exact this
    have := start_go ds vs (i + 1) (s.1 ++ [(i, slotOf d.1 (unpk .lent d.1 d.2 s.2.length).1)], s.2 ++ (unpk .lent d.1 d.2 s.2.length).2) (us ++ [v]) g1 hds ?_ (by simp [hi])
    · obtain ⟨g', h'⟩ := this
      exact ⟨g', by simpa [startGo] using h'⟩
    · refine ⟨?_, ?_, ?_, ?_, ?_⟩
      · simp only [List.map_append, List.map_cons, List.map_nil]
        congr 1
        · rw [← h.enc]
          apply List.map_congr_left
          intro p hp
          exact encS_ext _ (fun o ho => e1 o (.inl (h.rs p hp o ho)))
        · rw [s1, e2, ← hd.val]
      · simp only [List.map_append, List.map_cons, List.map_nil, List.length_append, List.length_singleton, List.range_succ, h.keys, hi]
      · intro p hp
        rcases List.mem_append.1 hp with hp | hp
        · exact h.ok p hp
        · simp only [List.mem_singleton] at hp; subst hp; exact s2
      · intro p hp o ho
        rcases List.mem_append.1 hp with hp | hp
        · have := h.rs p hp o ho
          simp only [List.length_append]; omega
        · simp only [List.mem_singleton] at hp; subst hp; exact hsl o ho
      · intro j ob hj
        rcases Nat.lt_or_ge j s.2.length with hlt | hge
        · simp only at hj
          rw [List.getElem?_append_left hlt] at hj
          have := h.ob j ob hj
          have hg : g1 j = g j := e1 j (.inl hlt)
          obtain ⟨a1, e, u, xs, rfl, a2⟩ := this
          exact ⟨obP_ext hg a1, e, u, xs, rfl, by rw [hg]; exact a2⟩
        · simp only at hj
          rw [List.getElem?_append_right hge] at hj
          obtain ⟨p1, e, u, xs, he, hf⟩ := e5 _ ob hj
          have hn : s.2.length + (j - s.2.length) = j := by omega
          rw [hn] at p1 hf
          exact ⟨p1, e, u, xs, he, fun f hf' => hfa f (hf f hf')⟩
theorem start_ok {w : World} {ds : List Dyn} {vs : List Value} (h : Args w ds vs) :
    ∃ g, (startS ds).slots.map (fun p => encS g p.2) = vs ∧ (startS ds).slots.map (·.1) = List.range (startS ds).slots.length ∧ Cal g (startS ds) ∧ Cx g (startS ds) w nob (fun _ => True) w ∧ ∀ i, (entL g i ((startS ds).ob i)).dom = nob := by
  obtain ⟨g, hs⟩ := start_go ds vs 0 ([], []) [] env0 h ⟨rfl, rfl, (fun p hp => by cases hp), (fun p hp => by cases hp), (fun i ob hi => by simp at hi)⟩ rfl
  have get : ∀ i, (startS ds).ob i = .gone ∨ (startGo ds 0 ([], [])).2[i]? = some ((startS ds).ob i) := fun i => by
    cases hi : (startGo ds 0 ([], [])).2[i]? with
    | none => left; simp [St.ob, startS, List.getD_eq_getElem?_getD, hi]
    | some ob => right; simp [St.ob, startS, List.getD_eq_getElem?_getD, hi]
  have dom : ∀ i, (entL g i ((startS ds).ob i)).dom = nob := fun i => by
    rcases get i with h | h
    · rw [h]; rfl
    · obtain ⟨_, e, u, xs, he, _⟩ := hs.ob i _ h
      rw [he]; rfl
  refine ⟨g, by have := hs.enc; rwa [List.nil_append] at this, hs.keys, ⟨fun i => ?_, hs.ok, hs.rs, fun i T ls hi => ?_⟩, ⟨Fr.refl _ _, fun i => ?_, fun i => ?_, fun i b hb => ?_, fun i j _ b hb => ?_, fun i j b hb => ?_, fun i _ b _ => .inl trivial⟩, dom⟩
  · rcases get i with h | h
    · rw [h]; trivial
    · exact (hs.ob i _ h).1
  · rcases get i with h | h
    · rw [h] at hi; cases hi
    · obtain ⟨_, e, u, xs, he, _⟩ := hs.ob i _ h
      rw [he] at hi; cases hi
  · rcases get i with h | h
    · simp only [h]; trivial
    · obtain ⟨_, e, u, xs, he, _⟩ := hs.ob i _ h
      simp only [he]; trivial
  · rcases get i with h | h
    · simp only [h]; trivial
    · obtain ⟨_, e, u, xs, he, hf⟩ := hs.ob i _ h
      simp only [he]
      exact hf
  · rw [dom] at hb; exact hb.elim
  · rw [dom] at hb; exact hb.elim
  · rw [dom] at hb; exact hb.elim
theorem law_done {P : Program} {w : World} {f : Nat} {c : Con} {ds : List Dyn} {vs : List Value} {k : Nat} {x : HL c.pat.codes} (hc : ConOk P c) (hfn : c.fn = f) (h : Args w ds vs) {y : DenL (c.out.map NSh.codes)}
    (hy : c.f k x = some y) (hp : patSt c.pat x = some (startS ds)) (hout : c.out = [⟨[(rB, .v (.a (.fl .bool)))], [], []⟩]) (hel : ∀ (R : Type) (q : Nat → List Dyn → R), elimL (c.out.map NSh.codes) y q = q 0 [⟨.bool, true⟩]) :
    Calls P f vs.toArray w (fun e w' => ∃ v, e = .returned v ∧ v = .bool true ∧ Fr nob w w') := by
  obtain ⟨g, h1, h2, h3, h4, h5⟩ := start_ok h
  have key := hc k x y (startS ds) (startS ds).slots.length [] hy hp (by rw [h2, List.map_nil, List.append_nil]) (fun b hb => by cases hb) g w nob (fun _ => True) h3 h4 (by rw [List.drop_length]; intro p hp; cases hp)
  rw [List.take_length, h1, hfn] at key
  refine Calls.mono key ?_
  rintro e w' ⟨v, rfl, i, es, s, N, r, g', q1, q2, q3, q4, q5, q6, q7, q8, q9, q10⟩
  refine ⟨v, rfl, ?_, q9.fr⟩
  have e0 := q1 (Nat × List Dyn) (fun i ds => (i, ds))
  rw [hel] at e0
  simp only [Prod.mk.injEq] at e0
  obtain ⟨rfl, rfl⟩ := e0
  rw [hout] at q2
  simp only [List.getElem?_cons_zero, Option.some.injEq] at q2
  subst q2
  have q3' : fiN ⟨[(rB, .v (.a (.fl .bool)))], [], []⟩ [⟨.bool, true⟩] = some N := q3
  have hN : fiN ⟨[(rB, .v (.a (.fl .bool)))], [], []⟩ [⟨.bool, true⟩] = some ⟨[(rB, .v (.a (.fl .bool true)))], [], []⟩ := by rfl
  rw [hN] at q3'
  cases q3'
  simp only [Go.Proofs.YthdgllldpfeelaaGreatDoor.results, Option.some.injEq] at q4
  subst q4
  exact q5
end Go.Proofs.YthdgllldpfeelaaGreatDoor
/- A law's start where variables of the package are laid; the end. No condition. -/
set_option linter.unusedVariables false
set_option linter.unusedSimpArgs false
namespace Go.Proofs.YthdgllldpfeelaaGreatDoor
open Go Go.WideShapes Go.ChangeShapes
def isK (k : IntKind) : Value → Bool
  | .int k' _ => k' == k
  | _ => false
/-- No number of this kind stands in it. -/
def noK (k : IntKind) : Ty → Bool
  | .int k' => !(k' == k)
  | .arr _ t => noK k t
  | .pair a b => noK k a && noK k b
  | .sl _ t => noK k t
  | _ => true
theorem flat_clean (k : IntKind) : ∀ (u : Ty) (x : u.den), noK k u = true → ∀ c ∈ (flatT u).cells x, isK k c = false
  | .int k', x, h, c, hc => by
    have : c = .int k' x := by simpa [flatT, FK] using hc
    subst this
    simpa [noK, isK] using h
  | .bool, x, h, c, hc => by
    have : c = .bool x := by simpa [flatT, FB] using hc
    subst this; rfl
  | .str, x, h, c, hc => by
    have : c = .string x := by simpa [flatT, FS] using hc
    subst this; rfl
  | .unit, x, h, c, hc => by simp [flatT, FU] at hc
  | .arr n t, x, h, c, hc => by
    simp only [flatT, FA] at hc
    obtain ⟨y, _, hy⟩ := List.mem_flatMap.1 hc
    exact flat_clean k t y h c hy
  | .pair a b, x, h, c, hc => by
    simp only [noK, Bool.and_eq_true] at h
    simp only [flatT, FP] at hc
    rcases List.mem_append.1 hc with hc | hc
    · exact flat_clean k a x.1 h.1 c hc
    · exact flat_clean k b x.2 h.2 c hc
  | .sl _ t, x, h, c, hc => by
    have : c = .nilFunc := by simpa [flatT, FL] using hc
    subst this; rfl
theorem repL_clean {k : IntKind} {α : Type} {R : α → List Value → List Fact → Prop} (h : ∀ x cs F, R x cs F → (∀ c ∈ cs, isK k c = false) ∧ ∀ f ∈ F, ∀ c ∈ f.cs, isK k c = false) :
    ∀ (xs : List α) (cs : List Value) (F : List Fact), RepL R xs cs F → (∀ c ∈ cs, isK k c = false) ∧ ∀ f ∈ F, ∀ c ∈ f.cs, isK k c = false
  | [], cs, F, ⟨h1, h2⟩ => by subst h1 h2; exact ⟨fun c hc => (by cases hc), fun f hf => (by cases hf)⟩
  | x :: xs, cs, F, ⟨c1, c2, F1, F2, h1, h2, h3, h4⟩ => by
    subst h1 h2
    obtain ⟨a1, a2⟩ := h x c1 F1 h3
    obtain ⟨b1, b2⟩ := repL_clean h xs c2 F2 h4
    exact ⟨fun c hc => (List.mem_append.1 hc).elim (a1 c) (b1 c), fun f hf => (List.mem_append.1 hf).elim (a2 f) (b2 f)⟩
theorem rep_clean (k : IntKind) : ∀ (u : Ty) (x : u.den) (cs : List Value) (F : List Fact), noK k u = true → RepP u x cs F → (∀ c ∈ cs, isK k c = false) ∧ ∀ f ∈ F, ∀ c ∈ f.cs, isK k c = false
  | .sl e t, x, cs, F, h, ⟨v, css, F', h1, ⟨ao, c, h2, _⟩, h3, h4⟩ => by
    obtain ⟨a1, a2⟩ := repL_clean (k := k) (R := RepP t) (fun x cs F hr => rep_clean k t x cs F h hr) x css F' h4
    subst h1 h3 h2
    refine ⟨fun c' hc => ?_, fun f hf => ?_⟩
    · simp only [List.mem_singleton] at hc; subst hc; rfl
    · rcases List.mem_cons.1 hf with rfl | hf
      · exact a1
      · exact a2 f hf
  | .pair a b, x, cs, F, h, ⟨c1, c2, F1, F2, h1, h2, h3, h4⟩ => by
    simp only [noK, Bool.and_eq_true] at h
    obtain ⟨a1, a2⟩ := rep_clean k a x.1 c1 F1 h.1 h3
    obtain ⟨b1, b2⟩ := rep_clean k b x.2 c2 F2 h.2 h4
    subst h1 h2
    exact ⟨fun c hc => (List.mem_append.1 hc).elim (a1 c) (b1 c), fun f hf => (List.mem_append.1 hf).elim (a2 f) (b2 f)⟩
  | .int k', x, cs, F, h, hr => by
    obtain ⟨h1, h2⟩ : cs = (flatT (.int k')).cells x ∧ F = [] := hr
    subst h1 h2; exact ⟨flat_clean k _ x h, fun f hf => (by cases hf)⟩
  | .bool, x, cs, F, h, hr => by
    obtain ⟨h1, h2⟩ : cs = (flatT .bool).cells x ∧ F = [] := hr
    subst h1 h2; exact ⟨flat_clean k _ x h, fun f hf => (by cases hf)⟩
  | .str, x, cs, F, h, hr => by
    obtain ⟨h1, h2⟩ : cs = (flatT .str).cells x ∧ F = [] := hr
    subst h1 h2; exact ⟨flat_clean k _ x h, fun f hf => (by cases hf)⟩
  | .unit, x, cs, F, h, hr => by
    obtain ⟨h1, h2⟩ : cs = (flatT .unit).cells x ∧ F = [] := hr
    subst h1 h2; exact ⟨flat_clean k _ x h, fun f hf => (by cases hf)⟩
  | .arr n t, x, cs, F, h, hr => by
    obtain ⟨h1, h2⟩ : cs = (flatT (.arr n t)).cells x ∧ F = [] := hr
    subst h1 h2; exact ⟨flat_clean k _ x h, fun f hf => (by cases hf)⟩
/-- A variable of the package: numbers, so many; where they lie. -/
structure Glob where
  b : Nat
  T : TypeId
  n : Nat
  k : IntKind
  x : Vector Int n
def Glob.at (gl : Glob) : At := .fl (.arr gl.n (.int gl.k)) gl.x
def Glob.cs (gl : Glob) : List Value := (flatT (.arr gl.n (.int gl.k))).cells gl.x
def Glob.ok (gl : Glob) (w : World) : Prop := w.heap[gl.b]? = some (.cells gl.cs.toArray gl.T (0, 0))
theorem Glob.kind (gl : Glob) : ∀ c ∈ gl.cs, isK gl.k c = true := by
  intro c hc
  simp only [Glob.cs, flatT, FA] at hc
  obtain ⟨y, _, hy⟩ := List.mem_flatMap.1 hc
  have : c = .int gl.k y := by simpa [FK] using hy
  subst this
  simp [isK]
theorem glob_apart {gl : Glob} {w : World} (h : gl.ok w) {v : Value} {n sz : Nat} {cs : List Value} (hr : Rds v n sz cs w) (hc : ∀ c ∈ cs, isK gl.k c = false) (hne : cs ≠ []) : addrOf v ≠ some gl.b := by
  obtain ⟨_, ao, c, rfl, _, _, _, hcell⟩ := hr
  obtain ⟨u, us, rfl⟩ := List.exists_cons_of_ne_nil hne
  obtain ⟨ad, rfl, hu⟩ := hcell 0 u rfl
  intro e
  simp only [addrOf, Option.some.injEq] at e
  have hblk : (ad.add 0).block = gl.b := by rw [add_block]; exact e
  unfold World.cell? at hu
  unfold Glob.ok at h
  rw [hblk, h] at hu
  simp only at hu
  split at hu
  · cases hu
  · have hm : u ∈ gl.cs := by
      rw [List.getElem?_toArray] at hu
      exact List.mem_of_getElem? hu
    have h1 := gl.kind u hm
    rw [hc u (List.mem_cons_self ..)] at h1
    cases h1
def globGo : List Glob → List (Nat × SV) × List Ob → List (Nat × SV) × List Ob
  | [], s => s
  | gl :: gs, s => globGo gs (s.1 ++ [(rG + gl.b, .v (.a (.ptr s.2.length 0)))], s.2 ++ [.box gl.T [gl.at]])
def startG (ds : List Dyn) (gs : List Glob) : St := ⟨(globGo gs (startGo ds 0 ([], []))).1, (globGo gs (startGo ds 0 ([], []))).2, [], .nil⟩
theorem globGo_eq : ∀ (gs : List Glob) (s : List (Nat × SV) × List Ob), globGo gs s = (s.1 ++ gs.zipIdx.map (fun p => (rG + p.1.b, .v (.a (.ptr (s.2.length + p.2) 0)))), s.2 ++ gs.map fun gl => .box gl.T [gl.at])
  | [], s => by simp [globGo]
  | gl :: gs, s => by
    rw [globGo, globGo_eq gs]
    simp only [List.length_append, List.length_singleton, List.append_assoc, List.cons_append, List.nil_append, List.map_cons, List.zipIdx_cons, Prod.mk.injEq, Nat.add_zero]
    refine ⟨?_, trivial⟩
    congr 2
    rw [Nat.zero_add, List.zipIdx_succ]
    simp only [List.map_map]
    apply List.map_congr_left
    intro p _
    simp only [Function.comp_apply, Prod.mk.injEq, SV.v.injEq, V1.a.injEq, At.ptr.injEq, and_true, true_and]
    omega
theorem start_goQ {w : World} {ds : List Dyn} {vs : List Value} (h : Args w ds vs) : ∃ g, Started w g vs (startGo ds 0 ([], [])) := by
  obtain ⟨g, hs⟩ := start_go ds vs 0 ([], []) [] env0 h ⟨rfl, rfl, (fun p hp => by cases hp), (fun p hp => by cases hp), (fun i ob hi => by simp at hi)⟩ rfl
  exact ⟨g, by simpa using hs⟩
theorem start_len : ∀ (ds : List Dyn) (i : Nat) (s : List (Nat × SV) × List Ob), (startGo ds i s).1.length = s.1.length + ds.length
  | [], i, s => by simp [startGo]
  | d :: ds, i, s => by rw [startGo, start_len ds]; simp; omega
/-- What a law's arguments are told of is of their own types. -/
theorem started_clean {k : IntKind} : ∀ (ds : List Dyn) (i : Nat) (s : List (Nat × SV) × List Ob), (∀ d ∈ ds, noK k d.1 = true) → (∀ ob ∈ s.2, ∃ e u xs, ob = .row e u xs .lent false ∧ noK k u = true) →
    ∀ ob ∈ (startGo ds i s).2, ∃ e u xs, ob = .row e u xs .lent false ∧ noK k u = true
  | [], i, s, _, h => h
  | d :: ds, i, s, hd, h => by
    refine started_clean ds (i + 1) _ (fun d' hd' => hd d' (List.mem_cons_of_mem _ hd')) (fun ob hob => ?_)
    rcases List.mem_append.1 hob with hob | hob
    · exact h ob hob
    · have hk := hd d (List.mem_cons_self ..)
      revert hob
      generalize s.2.length = n
      obtain ⟨u, x⟩ := d
      have key : ∀ (u : Ty) (x : u.den) (n : Nat), noK k u = true → ob ∈ (unpk .lent u x n).2 → ∃ e t xs, ob = .row e t xs .lent false ∧ noK k t = true := by
        intro u
        induction u with
        | pair a b iha ihb =>
          intro x n hk hob
          simp only [noK, Bool.and_eq_true] at hk
          simp only [unpk] at hob
          rcases List.mem_append.1 hob with hob | hob
          · exact iha _ _ hk.1 hob
          · exact ihb _ _ hk.2 hob
        | sl e t _ =>
          intro x n hk hob
          simp only [unpk, List.mem_singleton] at hob
          exact ⟨e, t, x, hob, hk⟩
        | int k' => intro x n hk hob; simp [unpk] at hob
        | bool => intro x n hk hob; simp [unpk] at hob
        | str => intro x n hk hob; simp [unpk] at hob
        | unit => intro x n hk hob; simp [unpk] at hob
        | arr m t _ => intro x n hk hob; simp [unpk] at hob
      exact key u x n hk
def envG (g0 : Env) (n : Nat) (gs : List Glob) : Env := fun i => if i < n then g0 i else match gs[i - n]? with
  | some gl => ⟨.nilFunc, rfl, gl.b, [], []⟩
  | none => g0 i
theorem start_okG {w : World} {ds : List Dyn} {vs : List Value} {gs : List Glob} (h : Args w ds vs) (hg : ∀ gl ∈ gs, gl.ok w) (hn : (gs.map (·.b)).Nodup) (hk : ∀ gl ∈ gs, ∀ d ∈ ds, noK gl.k d.1 = true) :
    ∃ g, ((startG ds gs).slots.take ds.length).map (fun p => encS g p.2) = vs ∧ (startG ds gs).slots.map (·.1) = List.range ds.length ++ (gs.map (·.b)).map (rG + ·) ∧ (∀ p ∈ (startG ds gs).slots.drop ds.length, encS g p.2 = .pointer (some ⟨p.1 - rG, 0, none⟩)) ∧
      Cal g (startG ds gs) ∧ Cx g (startG ds gs) w (fun b => b ∈ gs.map (·.b)) (fun _ => True) w ∧
      (∀ b ∈ gs.map (·.b), ∃ i gl, i < (startG ds gs).obs.length ∧ gl ∈ gs ∧ gl.b = b ∧ (startG ds gs).ob i = .box gl.T [gl.at] ∧ (g i).b = b) := by
  obtain ⟨g0, hs⟩ := start_goQ h
  obtain ⟨s, hse⟩ : ∃ s, s = startGo ds 0 ([], []) := ⟨_, rfl⟩
  rw [← hse] at hs
  have hl1 : s.1.length = ds.length := by rw [hse, start_len]; simp
  have eS : startG ds gs = ⟨s.1 ++ gs.zipIdx.map (fun p => (rG + p.1.b, .v (.a (.ptr (s.2.length + p.2) 0)))), s.2 ++ gs.map (fun gl => .box gl.T [gl.at]), [], .nil⟩ := by
    unfold startG; rw [← hse, globGo_eq]
  rw [eS]
  obtain ⟨g, hge⟩ : ∃ g : Env, g = envG g0 s.2.length gs := ⟨_, rfl⟩
  have glt : ∀ i, i < s.2.length → g i = g0 i := fun i hi => by rw [hge]; simp [envG, hi]
  have gge : ∀ j gl, gs[j]? = some gl → (g (s.2.length + j)).b = gl.b := fun j gl hj => by
    rw [hge]; unfold envG; rw [if_neg (by omega), Nat.add_sub_cancel_left, hj]
  have obs : ∀ i, (⟨s.1 ++ gs.zipIdx.map (fun p => (rG + p.1.b, .v (.a (.ptr (s.2.length + p.2) 0)))), s.2 ++ gs.map (fun gl => .box gl.T [gl.at]), [], .nil⟩ : St).ob i =
      if i < s.2.length then s.2.getD i .gone else ((gs[i - s.2.length]?).map fun gl => Ob.box gl.T [gl.at]).getD .gone := by
    intro i
    simp only [St.ob, List.getD_eq_getElem?_getD]
    split
    · rename_i hi; rw [List.getElem?_append_left hi]
    · rename_i hi; rw [List.getElem?_append_right (by omega), List.getElem?_map]
  have low : ∀ i, i < s.2.length → ∃ e u xs, s.2.getD i .gone = .row e u xs .lent false ∧ obP g i (.row e u xs .lent false) ∧ ∀ f ∈ (⟨(g i).v, xs.length, u.sz, (g i).cs⟩ :: (g i).fs : List Fact), Rds f.v f.n f.sz f.cs w := by
    intro i hi
    obtain ⟨ob, hob⟩ : ∃ ob, s.2[i]? = some ob := ⟨s.2[i], List.getElem?_eq_getElem hi⟩
    obtain ⟨h1, e, u, xs, rfl, h2⟩ := hs.ob i ob hob
    refine ⟨e, u, xs, by rw [List.getD_eq_getElem?_getD, hob]; rfl, obP_ext (glt i hi) h1, ?_⟩
    rw [glt i hi]; exact h2
  have boxes : ∀ i ob, ¬ i < s.2.length → ((gs[i - s.2.length]?).map fun gl => Ob.box gl.T [gl.at]).getD .gone = ob → ob = .gone ∨ ∃ gl, gs[i - s.2.length]? = some gl ∧ ob = .box gl.T [gl.at] := by
    intro i ob _ h
    cases hgl : gs[i - s.2.length]? with
    | none => rw [hgl] at h; exact .inl h.symm
    | some gl => rw [hgl] at h; exact .inr ⟨gl, rfl, h.symm⟩
  have entB : ∀ i gl, ¬ i < s.2.length → gs[i - s.2.length]? = some gl → entL g i (.box gl.T [gl.at]) = boxE false gl.b gl.T gl.cs := by
    intro i gl hi hgl
    have hb := gge (i - s.2.length) gl hgl
    rw [show s.2.length + (i - s.2.length) = i by omega] at hb
    simp only [entL, boxT, hb, encL, List.flatMap_cons, List.flatMap_nil, List.append_nil]
    rfl
  refine ⟨g, ?_, ?_, ?_, ⟨fun i => ?_, fun p hp => ?_, fun p hp o ho => ?_, fun i T ls hi => ?_⟩, ⟨Fr.refl _ _, fun i => ?_, fun i => ?_, fun i b hb => ?_, fun i j hij b hb hb2 => ?_, fun i j b hb hb2 => ?_, fun i _ b _ => .inl trivial⟩, ?_⟩
  · simp only
    rw [List.take_left' hl1, ← hs.enc]
    apply List.map_congr_left
    intro p hp
    exact encS_ext _ (fun o ho => glt o (hs.rs p hp o ho))
  · simp only [List.map_append, hs.keys, hl1, List.map_map]
    congr 1
    apply List.ext_getElem?
    intro i
    simp only [List.getElem?_map, List.getElem?_zipIdx]
    cases gs[i]? <;> rfl
  · simp only
    rw [List.drop_left' hl1]
    intro p hp
    obtain ⟨⟨gl, j⟩, hq, rfl⟩ := List.mem_map.1 hp
    have hj := List.mem_zipIdx_iff_getElem?.1 hq
    have := gge j gl hj
    have e : rG + gl.b - rG = gl.b := by generalize rG = r; omega
    simp only [encS, encV, val1, this, e]
  · rw [obs]
    split
    · rename_i hi
      obtain ⟨e, u, xs, h1, h2, _⟩ := low i hi
      rw [h1]; exact h2
    · rename_i hi
      rcases boxes i _ hi rfl with h | ⟨gl, _, h⟩
      · rw [h]; trivial
      · rw [h]; rfl
  · rcases List.mem_append.1 hp with hp | hp
    · exact hs.ok p hp
    · obtain ⟨⟨gl, j⟩, hq, rfl⟩ := List.mem_map.1 hp
      rfl
  · simp only [List.length_append, List.length_map]
    rcases List.mem_append.1 hp with hp | hp
    · have := hs.rs p hp o ho; omega
    · obtain ⟨⟨gl, j⟩, hq, rfl⟩ := List.mem_map.1 hp
      have hj := List.mem_zipIdx_iff_getElem?.1 hq
      have hlt := (List.getElem?_eq_some_iff.1 hj).1
      simp only [refS, refV, refA, List.mem_singleton] at ho
      subst ho
      simp only at hlt ⊢
      omega
  · rw [obs] at hi
    split at hi
    · rename_i hlt
      obtain ⟨e, u, xs, h1, _⟩ := low i hlt
      rw [h1] at hi; cases hi
    · rename_i hlt
      rcases boxes i _ hlt hi with h | ⟨gl, _, h⟩
      · cases h
      · simp only [Ob.box.injEq] at h
        obtain ⟨rfl, rfl⟩ := h
        intro o ho
        simp [refA, Glob.at] at ho
  · simp only [obs]
    split
    · rename_i hi
      obtain ⟨e, u, xs, h1, _⟩ := low i hi
      rw [h1]; trivial
    · rename_i hi
      rcases boxes i _ hi rfl with h | ⟨gl, hgl, h⟩
      · rw [h]; trivial
      · rw [h, entB i gl hi hgl]
        exact hg gl (List.mem_of_getElem? hgl)
  · simp only [obs]
    split
    · rename_i hi
      obtain ⟨e, u, xs, h1, _, h2⟩ := low i hi
      rw [h1]; exact h2
    · rename_i hi
      rcases boxes i _ hi rfl with h | ⟨gl, hgl, h⟩
      · rw [h]; trivial
      · rw [h]; trivial
  · simp only [obs] at hb
    split at hb
    · rename_i hi
      obtain ⟨e, u, xs, h1, _⟩ := low i hi
      rw [h1] at hb; exact hb.elim
    · rename_i hi
      rcases boxes i _ hi rfl with h | ⟨gl, hgl, h⟩
      · rw [h] at hb; exact hb.elim
      · rw [h, entB i gl hi hgl] at hb
        have hb : b = gl.b := hb
        exact .inl (by rw [hb]; exact List.mem_map.2 ⟨gl, List.mem_of_getElem? hgl, rfl⟩)
  · have dom : ∀ i, (entL g i ((⟨s.1 ++ gs.zipIdx.map (fun p => (rG + p.1.b, .v (.a (.ptr (s.2.length + p.2) 0)))), s.2 ++ gs.map (fun gl => .box gl.T [gl.at]), [], .nil⟩ : St).ob i)).dom b → ¬ i < s.2.length ∧ (gs[i - s.2.length]?).map (·.b) = some b := by
      intro i hb
      rw [obs] at hb
      split at hb
      · rename_i hi
        obtain ⟨e, u, xs, h1, _⟩ := low i hi
        rw [h1] at hb; exact hb.elim
      · rename_i hi
        rcases boxes i _ hi rfl with h | ⟨gl, hgl, h⟩
        · rw [h] at hb; exact hb.elim
        · rw [h, entB i gl hi hgl] at hb
          have hb : b = gl.b := hb
          exact ⟨hi, by rw [hgl, hb]; rfl⟩
    obtain ⟨h1, h2⟩ := dom i hb
    obtain ⟨h3, h4⟩ := dom j hb2
    rw [← List.getElem?_map] at h2 h4
    have hlt : i - s.2.length < (gs.map (·.b)).length := (List.getElem?_eq_some_iff.1 h2).1
    have := (List.getElem?_inj hlt hn).1 (h2.trans h4.symm)
    omega
  · simp only [obs] at hb hb2
    split at hb
    · rename_i hi
      obtain ⟨e, u, xs, h1, _⟩ := low i hi
      rw [h1] at hb; exact hb.elim
    · rename_i hi
      rcases boxes i _ hi rfl with h | ⟨gl, hgl, h⟩
      · rw [h] at hb; exact hb.elim
      · rw [h, entB i gl hi hgl] at hb
        have hb : b = gl.b := hb
        have hgm := List.mem_of_getElem? hgl
        split at hb2
        · rename_i hj
          obtain ⟨e, u, xs, h1, hobp, h2⟩ := low j hj
          rw [h1] at hb2
          obtain ⟨f, hf, hne, had⟩ := hb2
          have hin : Ob.row e u xs .lent false ∈ s.2 := by
            rw [← h1, List.getD_eq_getElem?_getD, List.getElem?_eq_getElem hj]
            exact List.getElem_mem hj
          have hku : noK gl.k u = true := by
            have := started_clean (k := gl.k) ds 0 ([], []) (hk gl hgm) (fun ob hob => (by cases hob)) (.row e u xs .lent false) (by rw [← hse]; exact hin)
            obtain ⟨e', u', xs', h5, h6⟩ := this
            cases h5
            exact h6
          have hrep : RepL (RepP u) xs (g j).cs (g j).fs := hobp.1
          obtain ⟨c1, c2⟩ := repL_clean (k := gl.k) (R := RepP u) (fun x cs F hr => rep_clean gl.k u x cs F hku hr) _ _ _ hrep
          have hcl : ∀ c ∈ f.cs, isK gl.k c = false := by
            rcases List.mem_cons.1 hf with rfl | hf'
            · exact c1
            · exact c2 f hf'
          exact glob_apart (hg gl hgm) (h2 f hf) hcl hne (by rw [had, hb])
        · rename_i hj
          rcases boxes j _ hj rfl with h5 | ⟨gl', _, h5⟩
          · rw [h5] at hb2; exact hb2.elim
          · rw [h5] at hb2; exact hb2.elim
  · intro b hb
    obtain ⟨gl, hgm, rfl⟩ := List.mem_map.1 hb
    obtain ⟨j, hj⟩ := List.getElem?_of_mem hgm
    have hlt := (List.getElem?_eq_some_iff.1 hj).1
    refine ⟨s.2.length + j, gl, by simp [List.length_append]; omega, hgm, rfl, ?_, gge j gl hj⟩
    rw [obs, if_neg (by omega), show s.2.length + j - s.2.length = j by omega, hj]
    rfl
theorem law_doneG {P : Program} {w : World} {f : Nat} {c : Con} {ds : List Dyn} {vs : List Value} {gs : List Glob} {k : Nat} {x : HL c.pat.codes} (hc : ConOk P c) (hfn : c.fn = f) (h : Args w ds vs) (hg : ∀ gl ∈ gs, gl.ok w) (hn : (gs.map (·.b)).Nodup) (hk : ∀ gl ∈ gs, ∀ d ∈ ds, noK gl.k d.1 = true)
    (hsh : ∀ b ∈ gs.map (·.b), b < shift) {y : DenL (c.out.map NSh.codes)}
    (hy : c.f k x = some y) (hp : patSt c.pat x = some (startG ds gs)) (hout : c.out = [⟨[(rB, .v (.a (.fl .bool)))], [], []⟩]) (hel : ∀ (R : Type) (q : Nat → List Dyn → R), elimL (c.out.map NSh.codes) y q = q 0 [⟨.bool, true⟩]) :
    Calls P f vs.toArray w (fun e w' => ∃ v, e = .returned v ∧ v = .bool true ∧ Fr nob w w') := by
  obtain ⟨g, h1, h2, h2b, h3, h4, h5⟩ := start_okG h hg hn hk
  have key := hc k x y (startG ds gs) ds.length (gs.map (·.b)) hy hp h2 hsh g w _ (fun _ => True) h3 h4 h2b
  rw [h1, hfn] at key
  refine Calls.mono key ?_
  rintro e w' ⟨v, rfl, i, es, s, N, r, g', q1, q2, q3, q4, q5, q6, q7, q8, q9, q10⟩
  have e0 := q1 (Nat × List Dyn) (fun i ds => (i, ds))
  rw [hel] at e0
  simp only [Prod.mk.injEq] at e0
  obtain ⟨rfl, rfl⟩ := e0
  rw [hout] at q2
  simp only [List.getElem?_cons_zero, Option.some.injEq] at q2
  subst q2
  have q3' : fiN ⟨[(rB, .v (.a (.fl .bool)))], [], []⟩ [⟨.bool, true⟩] = some N := q3
  have hN : fiN ⟨[(rB, .v (.a (.fl .bool)))], [], []⟩ [⟨.bool, true⟩] = some ⟨[(rB, .v (.a (.fl .bool true)))], [], []⟩ := by rfl
  rw [hN] at q3'
  cases q3'
  simp only [Go.Proofs.YthdgllldpfeelaaGreatDoor.results, Option.some.injEq] at q4
  subst q4
  refine ⟨_, rfl, q5, ?_⟩
  have fr := q9.fr
  refine ⟨fr.os, fr.tape, fr.output, fr.size, fun b hb _ => ?_⟩
  by_cases hbg : b ∈ gs.map (·.b)
  · obtain ⟨i, gl, hi, hgm, hglb, hob, hgb⟩ := h5 b hbg
    obtain ⟨k1, k2⟩ := q10.same i hi (fun hx => by cases hx)
    have hok := q9.okL i
    have k1' : (afterS (startG ds gs) ⟨[(rB, .v (.a (.fl .bool true)))], [], []⟩).ob i = .box gl.T [gl.at] := (k1.trans hob)
    simp only [k1', entL, boxT, k2, hgb] at hok
    have hok : w'.heap[b]? = some (.cells (encL g' [gl.at]).toArray gl.T (0, 0)) := hok
    have hen : encL g' [gl.at] = gl.cs := by simp [encL, encA, Glob.at, Glob.cs]
    rw [hok, hen, ← hglb]
    exact (hg gl hgm).symm
  · exact fr.block b hb hbg
theorem allK {gs : List Glob} {ds : List Dyn} (h : ((gs.map (·.k)).all fun k => (ds.map (·.1)).all (noK k)) = true) : ∀ gl ∈ gs, ∀ d ∈ ds, noK gl.k d.1 = true := by
  intro gl hgl d hd
  have h1 := List.all_eq_true.1 h gl.k (List.mem_map.2 ⟨gl, hgl, rfl⟩)
  exact List.all_eq_true.1 h1 d.1 (List.mem_map.2 ⟨d, hd, rfl⟩)
theorem laidMet_tail {P : Program} {W : World} {a : String × DataW Unit} {rest : List (String × DataW Unit)} (h : laidMet P (a :: rest) W) : laidMet P rest W := by
  obtain ⟨ps, ⟨g', t', cs, fuel, p, q, hg', ht', hvar, hd, h1, h2⟩, hn, hc⟩ := h
  first
    | (subst h2; exact ⟨q, h1, (List.nodup_append.1 hn).2.1, fun b off hb => hc b off (List.mem_append_right _ hb)⟩)
    | (subst h1; exact ⟨q, h2, (List.nodup_append.1 hn).2.1, fun b off hb => hc b off (List.mem_append_right _ hb)⟩)
/-- A laid variable, where it lies. -/
theorem glob_ok {P : Program} {W : World} {gl : Glob} {name : String} (hsh : W.ShapedOpen P) (hg : P.globalNamed name = some gl.b) (hz : (((begin P (fun _ _ => 0) default).world.heap[gl.b]?).bind Obj.row?).map (·.2) = some gl.T)
    (hlt : gl.b < P.globals.size) (htab : Lib.TabIs P W name gl.k gl.x.toList) : gl.ok W := by
  obtain ⟨⟨zero, T⟩, h1, h2⟩ := Option.map_eq_some_iff.1 hz
  simp only at h2
  subst h2
  obtain ⟨cs, h3, _⟩ := hsh.1 gl.b zero _ hlt h1
  unfold Lib.TabIs at htab
  have hvar : W.var? P name = some cs := by
    unfold World.var?
    rw [hg]
    simp only [Option.bind_some, h3]
  rw [hvar] at htab
  have hcs : cs = gl.cs.toArray := by
    rw [Option.some.inj htab]
    congr 1
    simp only [Glob.cs, flatT, FA, arL_eq, FK]
    induction gl.x.toList with
    | nil => rfl
    | cons a l ih => simp [ih]
  unfold Glob.ok
  rw [h3, hcs]
section
variable {H : Type} {enc : TypeId × Value → H}
theorem returns_shaped {a : Assume} {C : Checked} {os : Os} {f : FuncId} {fn : Func} {s : ChangeSpec} {conds : List PathCond} {apart fresh handsOn again : Bool} {X : World → Array Value → Prop}
    (hX : ∀ (w w' : World) (args : Array Value), w.heap = w'.heap → X w args → X w' args)
    (own : ownKnob C.prog.godebug = none) (started : os.Started) (noInit : C.prog.inits.idxOf? f = none) (hfn : C.prog.funcs[f]? = some fn)
    (witness : ∃ (w : World) (tape : Tape) (i : Input), w.os = os ∧ (w.forCall tape i).Shaped C.prog ∧ i.vars = [] ∧ Input.okWide C.prog (w.forCall tape i) .any w.heap.size f i ∧
      ((s.pre enc C.prog fn conds apart (w.forCall tape i).memory i.args ∧ X (w.forCall tape i).memory i.args) ∧ sizedMet enc C.prog fn (OpenSpec.ofChange s) apart (w.forCall tape i).memory i.args) ∧ a.holds C.prog (lone (Frame.enter C.prog f i.args .normal) [] (w.forCall tape i)))
    (contract : ∀ (W : World) (base : Nat) (args : Array Value) (ds gs : List (DataW H)) (before : List MemPlace),
      (∀ (j : Nat) t v, fn.params[j]? = some t → args[j]? = some v → Value.okWide C.prog W .any base t v) →
      DataW.Whole enc C.prog fn.params.toList s.vars apart W args.toList ds gs before → X W args → W.ShapedOpen C.prog →
      Calls C.prog f args W fun e W' => ∃ v, e = .returned v ∧ s.post enc C.prog fn apart fresh handsOn again W args v W') :
    ReturnsInHanded a C os f .any (fun w args => (s.pre enc C.prog fn conds apart w args ∧ X w args) ∧ sizedMet enc C.prog fn (OpenSpec.ofChange s) apart w args) (s.post enc C.prog fn apart fresh handsOn again) := by
  refine returnsInHanded_of_calls own started noInit witness ?_
  intro w tape i _ hshape _ hok hpre hholds
  obtain ⟨_, _, _, fn', hfn', _, _, _, _, hval⟩ := hok
  have e : fn' = fn := Option.some.inj (hfn'.symm.trans hfn)
  subst e
  obtain ⟨⟨⟨ds, gs, before, hw, hc⟩, hx⟩, hz⟩ := hpre
  have hw' := DataW.Whole.of_heap (w' := w.forCall tape i) (by rfl) hw
  refine (contract (w.forCall tape i) w.heap.size i.args ds gs before hval hw' (hX _ _ _ (by rfl) hx) hshape).mono fun e W' ⟨v, he, hp⟩ => ?_
  subst he
  exact ChangeSpec.post_blind hp
end
end Go.Proofs.YthdgllldpfeelaaGreatDoor
/- The variables of the package that are laid. No condition. -/
namespace Go.Proofs.YthdgllldpfeelaaGreatDoor
open Go
def vgl_strconv_uint64pow10 : Vector Int 20 := ⟨#[1, 10, 100, 1000, 10000, 100000, 1000000, 10000000, 100000000, 1000000000, 10000000000, 100000000000, 1000000000000, 10000000000000, 100000000000000, 1000000000000000, 10000000000000000, 100000000000000000, 1000000000000000000, 10000000000000000000], rfl⟩
def gl_strconv_uint64pow10 : Glob := ⟨1, 325, 20, .u64, vgl_strconv_uint64pow10⟩
def vgl_sha_keys : Vector Int 64 := ⟨#[1116352408, 1899447441, 3049323471, 3921009573, 961987163, 1508970993, 2453635748, 2870763221, 3624381080, 310598401, 607225278, 1426881987, 1925078388, 2162078206, 2614888103, 3248222580, 3835390401, 4022224774, 264347078, 604807628, 770255983, 1249150122, 1555081692, 1996064986, 2554220882, 2821834349, 2952996808, 3210313671, 3336571891, 3584528711, 113926993, 338241895, 666307205, 773529912, 1294757372, 1396182291, 1695183700, 1986661051, 2177026350, 2456956037, 2730485921, 2820302411, 3259730800, 3345764771, 3516065817, 3600352804, 4094571909, 275423344, 430227734, 506948616, 659060556, 883997877, 958139571, 1322822218, 1537002063, 1747873779, 1955562222, 2024104815, 2227730452, 2361852424, 2428436474, 2756734187, 3204031479, 3329325298], rfl⟩
def gl_sha_keys : Glob := ⟨2, 302, 64, .u32, vgl_sha_keys⟩
def vgl_bits_deBruijn32tab : Vector Int 32 := ⟨#[0, 1, 28, 2, 29, 14, 24, 3, 30, 22, 20, 15, 25, 17, 4, 8, 31, 27, 13, 23, 21, 19, 16, 7, 26, 12, 18, 6, 11, 5, 10, 9], rfl⟩
def gl_bits_deBruijn32tab : Glob := ⟨3, 56, 32, .u8, vgl_bits_deBruijn32tab⟩
def vgl_bits_deBruijn64tab : Vector Int 64 := ⟨#[0, 1, 56, 2, 57, 49, 28, 3, 61, 58, 42, 50, 38, 29, 17, 4, 62, 47, 59, 36, 45, 43, 51, 22, 53, 39, 33, 30, 24, 18, 12, 5, 63, 55, 48, 27, 60, 41, 37, 16, 46, 35, 44, 21, 52, 32, 23, 11, 54, 26, 40, 15, 34, 20, 31, 10, 25, 14, 19, 9, 13, 8, 7, 6], rfl⟩
def gl_bits_deBruijn64tab : Glob := ⟨4, 334, 64, .u8, vgl_bits_deBruijn64tab⟩
end Go.Proofs.YthdgllldpfeelaaGreatDoor
/- Plain facts about what walks compute with. No condition. -/
set_option linter.unusedVariables false
set_option linter.unusedSimpArgs false
namespace Go.Proofs.YthdgllldpfeelaaGreatDoor
open Go
theorem wk_i64 {x : Int} (h1 : -9223372036854775808 ≤ x) (h2 : x ≤ 9223372036854775807) : WK .i64 x = x := wrap_i64 h1 h2
theorem wk_u64 {x : Int} (h1 : 0 ≤ x) (h2 : x ≤ 18446744073709551615) : WK .u64 x = x := by
  simp only [WK, IntKind.wrap, IntKind.bits, IntKind.signed]; simp; omega
theorem wk_u8 {x : Int} (h1 : 0 ≤ x) (h2 : x ≤ 255) : WK .u8 x = x := by
  simp only [WK, IntKind.wrap, IntKind.bits, IntKind.signed]; simp; omega
theorem wk_u8_mod (x : Int) : WK .u8 x = x % 256 := by
  simp only [WK, IntKind.wrap, IntKind.bits, IntKind.signed]; simp
theorem wk_u32_mod (x : Int) : WK .u32 x = x % 4294967296 := by
  simp only [WK, IntKind.wrap, IntKind.bits, IntKind.signed]; simp
theorem wk_u64_mod (x : Int) : WK .u64 x = x % 18446744073709551616 := by
  simp only [WK, IntKind.wrap, IntKind.bits, IntKind.signed]; simp
@[simp] theorem condO_true {α : Type} (x y : Option α) : condO true x y = x := rfl
@[simp] theorem condO_false {α : Type} (x y : Option α) : condO false x y = y := rfl
theorem condO_ite {α : Type} (b : Bool) (x y : Option α) : condO b x y = if b = true then x else y := by cases b <;> rfl
theorem condO_eq {α : Type} {b : Bool} {x y z : Option α} (h1 : b = true → x = z) (h2 : b = false → y = z) : condO b x y = z := by cases b <;> simp_all
@[simp] theorem caseS_inl {α β R : Type} (a : α) (f : α → R) (g : β → R) : caseS (.inl a) f g = f a := rfl
@[simp] theorem caseS_inr {α β R : Type} (b : β) (f : α → R) (g : β → R) : caseS (.inr b) f g = g b := rfl
theorem condO_app {α β : Type} (f : α → β) {b : Bool} {x y z : α} (h : condO b (some x) (some y) = some z) : condO b (some (f x)) (some (f y)) = some (f z) := by
  cases b <;> simp only [condO_true, condO_false, Option.some.injEq] at h ⊢ <;> rw [h]
theorem bind_of {α β : Type} {o : Option α} {f : α → Option β} {a : α} {r : Option β} (h : o = some a) (hf : f a = r) : o.bind f = r := by rw [h]; exact hf
/-! ### numbers told -/
theorem ieq_f {a b : Int} (h : a ≠ b) : ieq a b = false := by simpa using h
theorem ieq_t {a b : Int} (h : a = b) : ieq a b = true := by simpa using h
theorem ine_f {a b : Int} (h : a = b) : ine a b = false := by simpa using h
theorem ine_t {a b : Int} (h : a ≠ b) : ine a b = true := by simpa using h
theorem ilt_t {a b : Int} (h : a < b) : ilt a b = true := by simpa using h
theorem ilt_f {a b : Int} (h : b ≤ a) : ilt a b = false := by simpa using h
theorem ile_t {a b : Int} (h : a ≤ b) : ile a b = true := by simpa using h
theorem ile_f {a b : Int} (h : b < a) : ile a b = false := by simpa using h
theorem igt_t {a b : Int} (h : b < a) : igt a b = true := by simpa using h
theorem igt_f {a b : Int} (h : a ≤ b) : igt a b = false := by simpa using h
theorem ige_t {a b : Int} (h : b ≤ a) : ige a b = true := by simpa using h
theorem ige_f {a b : Int} (h : a < b) : ige a b = false := by simpa using h
/-! ### texts -/
theorem sEq_iff {a b : ByteArray} : sEq a b = true ↔ a = b := by
  unfold sEq
  constructor
  · intro h
    have h : a.data.toList = b.data.toList := by simpa using h
    exact Go.WideShapes.bytes_inj h
  · rintro rfl; simp
theorem sEq_self (a : ByteArray) : sEq a a = true := sEq_iff.2 rfl
theorem sEq_dec (a b : ByteArray) : sEq a b = decide (a.data.toList = b.data.toList) := by
  unfold sEq
  rw [Bool.eq_iff_iff]
  simp
theorem bytes_ext {a b : ByteArray} (h : a.data.toList = b.data.toList) : a = b := Go.WideShapes.bytes_inj h
@[simp] theorem size_strOfNums (l : List Int) : (strOfNums l).size = l.length := by simp [strOfNums, ByteArray.size]
@[simp] theorem size_app (a b : ByteArray) : (a ++ b).size = a.size + b.size := by simp
@[simp] theorem data_app (a b : ByteArray) : (a ++ b).data.toList = a.data.toList ++ b.data.toList := by simp
/-! ### lists -/
theorem at_get {t : Ty} {l : List t.den} {i : Int} (h0 : 0 ≤ i) (h1 : i < l.length) : at_ t l i = l[i.toNat]'(by omega) := by
  unfold at_
  rw [List.getD_eq_getElem?_getD, List.getElem?_eq_getElem (by omega)]
  rfl
theorem at_nat {t : Ty} {l : List t.den} {n : Nat} (h : n < l.length) : at_ t l (n : Int) = l[n] := by
  rw [at_get (by omega) (by omega)]
  congr 1
/-! ### loops -/
/-- A loop, by a measure and an invariant. -/
theorem loopK_inv {H E : Type} {step : H → Option (H ⊕ E)} (I : Nat → H → Prop) (Q : E → Prop)
    (hs : ∀ n h, I n h → (∃ h' m, step h = some (.inl h') ∧ m < n ∧ I m h') ∨ (∃ e, step h = some (.inr e) ∧ Q e)) : ∀ (n : Nat) (h : H), I n h → ∀ k, n < k → ∃ e, loopK k step h = some e ∧ Q e := by
  intro n
  induction n using Nat.strongRecOn with
  | _ n ih =>
    intro h hI k hk
    cases k with
    | zero => omega
    | succ k =>
      rcases hs n h hI with ⟨h', m, h1, h2, h3⟩ | ⟨e, h1, h2⟩
      · obtain ⟨e, he, hq⟩ := ih m h2 h' h3 k (by omega)
        exact ⟨e, by simp only [loopK, h1, Option.bind_some, caseS_inl]; exact he, hq⟩
      · exact ⟨e, by simp only [loopK, h1, Option.bind_some, caseS_inr], h2⟩
/-- A loop whose rounds are known. -/
theorem loopK_run {H E : Type} {step : H → Option (H ⊕ E)} (p : Nat → H) : ∀ (n : Nat) (e : E) (k : Nat), (∀ i < n, step (p i) = some (.inl (p (i + 1)))) → step (p n) = some (.inr e) → n < k → loopK k step (p 0) = some e := by
  intro n
  induction n generalizing p with
  | zero =>
    intro e k _ h2 hk
    cases k with
    | zero => omega
    | succ k => simp only [loopK, h2, Option.bind_some, caseS_inr]
  | succ n ih =>
    intro e k h1 h2 hk
    cases k with
    | zero => omega
    | succ k =>
      simp only [loopK, h1 0 (by omega), Option.bind_some, caseS_inl]
      exact ih (fun i => p (i + 1)) e k (fun i hi => h1 (i + 1) (by omega)) h2 (by omega)
/-- What a round may end with: another round with less to do, or the way out. -/
inductive Goes {H E : Type} (I : Nat → H → Prop) (Q : E → Prop) (n : Nat) : Option (H ⊕ E) → Prop
  | on {h' : H} (m : Nat) (lt : m < n) (i : I m h') : Goes I Q n (some (.inl h'))
  | out {e : E} (q : Q e) : Goes I Q n (some (.inr e))
theorem Goes.bind {H E S : Type} {I : Nat → H → Prop} {Q : E → Prop} {n : Nat} {o : Option S} {f : S → Option (H ⊕ E)} (P : S → Prop) (h : ∃ s, o = some s ∧ P s) (hf : ∀ s, P s → Goes I Q n (f s)) : Goes I Q n (o.bind f) := by
  obtain ⟨s, rfl, hp⟩ := h
  exact hf s hp
theorem loop_bind {H E R : Type} {step : H → Option (H ⊕ E)} {f : E → Option R} {r : Option R} {h0 : H} {k : Nat} (I : Nat → H → Prop) (Q : E → Prop) (n : Nat) (hk : n < k) (h : I n h0)
    (hs : ∀ n h, I n h → Goes I Q n (step h)) (hf : ∀ e, Q e → f e = r) : (loopK k step h0).bind f = r := by
  obtain ⟨e, he, hq⟩ := loopK_inv (step := step) I Q (fun n h hi => by
    have g := hs n h hi
    generalize step h = o at g ⊢
    cases g with
    | on m lt i => exact .inl ⟨_, m, rfl, lt, i⟩
    | out q => exact .inr ⟨_, rfl, q⟩) n h0 h k hk
  rw [he]
  exact hf e hq
theorem and_bound (x : Int) (m : Nat) (h : m < 4611686018427387904) : 0 ≤ andK .i64 x m ∧ andK .i64 x m ≤ m := by
  have e : (BitVec.ofInt IntKind.i64.bits x &&& BitVec.ofInt IntKind.i64.bits (m : Int)).toNat ≤ m := by
    rw [BitVec.toNat_and]
    refine Nat.le_trans Nat.and_le_right ?_
    rw [BitVec.toNat_ofInt]
    simp only [IntKind.bits]
    omega
  have w : andK .i64 x m = ((BitVec.ofInt IntKind.i64.bits x &&& BitVec.ofInt IntKind.i64.bits (m : Int)).toNat : Int) := wrap_i64 (by omega) (by omega)
  rw [w]
  omega
theorem iterL_congr {α H E : Type} {f g : H → α → Option (H ⊕ E)} : ∀ (l : List α) (h : H), (∀ h, ∀ a ∈ l, f h a = g h a) → iterL l f h = iterL l g h
  | [], h, _ => rfl
  | a :: l, h, hfg => by
    simp only [iterL]
    rw [hfg h a (List.mem_cons_self ..)]
    cases g h a with
    | none => rfl
    | some y => cases y with
      | inl h' => exact iterL_congr l h' (fun h b hb => hfg h b (List.mem_cons_of_mem _ hb))
      | inr e => rfl
theorem iterL_map {α β H E : Type} (q : β → α) (f : H → α → Option (H ⊕ E)) : ∀ (l : List β) (h : H), iterL (l.map q) f h = iterL l (fun h b => f h (q b)) h
  | [], h => rfl
  | b :: l, h => by
    simp only [List.map_cons, iterL]
    cases f h (q b) with
    | none => rfl
    | some y => cases y with
      | inl h' => exact iterL_map q f l h'
      | inr e => rfl
theorem foldL_map {α β H : Type} (q : β → α) (f : H → α → Option H) : ∀ (l : List β) (h : H), foldL (l.map q) f h = foldL l (fun h b => f h (q b)) h
  | [], h => rfl
  | b :: l, h => by
    simp only [List.map_cons, foldL]
    cases f h (q b) with
    | none => rfl
    | some y => exact foldL_map q f l y
theorem backL_snd {α : Type} (l : List α) : (backL l).map (·.2) = l.reverse := by
  simp [backL, List.map_reverse, List.map_map, Function.comp_def]
/-- Rounds that look at the elements alone. -/
theorem iterL_back {α H E : Type} (l : List α) (f : H → α → Option (H ⊕ E)) (h : H) : iterL (backL l) (fun h p => f h p.2) h = iterL l.reverse f h := by
  rw [← backL_snd, iterL_map]
theorem foldL_back {α H : Type} (l : List α) (f : H → α → Option H) (h : H) : foldL (backL l) (fun h p => f h p.2) h = foldL l.reverse f h := by
  rw [← backL_snd, foldL_map]
theorem foldL_pure {α H : Type} (f : H → α → H) : ∀ (l : List α) (h : H), foldL l (fun h a => some (f h a)) h = some (l.foldl f h)
  | [], h => rfl
  | a :: l, h => by simp only [foldL, Option.bind_some, List.foldl_cons]; exact foldL_pure f l (f h a)
end Go.Proofs.YthdgllldpfeelaaGreatDoor
/- Lists of files, and what of them must change. No condition. -/
set_option linter.unusedVariables false
set_option linter.unusedSimpArgs false
namespace Go.Proofs.YthdgllldpfeelaaGreatDoor
open Go
/-! ### the order of texts -/
theorem bl_irrefl : ∀ l : List UInt8, Op.bytesLess l l = false
  | [] => rfl
  | a :: x => by simp [Op.bytesLess, bl_irrefl x]
theorem bl_trans : ∀ {a b c : List UInt8}, Op.bytesLess a b = true → Op.bytesLess b c = true → Op.bytesLess a c = true
  | _, [], _, h, _ => by simp [Op.bytesLess] at h
  | _, _ :: _, [], _, h => by simp [Op.bytesLess] at h
  | [], _ :: _, _ :: _, _, _ => rfl
  | a :: x, b :: y, c :: z, h, k => by
    simp only [Op.bytesLess, Bool.or_eq_true, Bool.and_eq_true, decide_eq_true_eq, beq_iff_eq] at h k ⊢
    rcases h with h | ⟨rfl, h⟩
    · rcases k with k | ⟨rfl, k⟩
      · exact .inl (by rw [UInt8.lt_iff_toNat_lt] at *; omega)
      · exact .inl h
    · rcases k with k | ⟨rfl, k⟩
      · exact .inl k
      · exact .inr ⟨rfl, bl_trans h k⟩
theorem bl_tri : ∀ (a b : List UInt8), Op.bytesLess a b = true ∨ a = b ∨ Op.bytesLess b a = true
  | [], [] => .inr (.inl rfl)
  | [], _ :: _ => .inl rfl
  | _ :: _, [] => .inr (.inr rfl)
  | a :: x, b :: y => by
    simp only [Op.bytesLess, Bool.or_eq_true, Bool.and_eq_true, decide_eq_true_eq, beq_iff_eq]
    rcases Nat.lt_trichotomy a.toNat b.toNat with h | h | h
    · exact .inl (.inl (UInt8.lt_iff_toNat_lt.2 h))
    · have e : a = b := UInt8.toNat_inj.1 h
      subst e
      rcases bl_tri x y with h | h | h
      · exact .inl (.inr ⟨rfl, h⟩)
      · exact .inr (.inl (by rw [h]))
      · exact .inr (.inr (.inr ⟨rfl, h⟩))
    · exact .inr (.inr (.inl (UInt8.lt_iff_toNat_lt.2 h)))
theorem sl_irrefl (a : ByteArray) : sLess a a = false := bl_irrefl _
theorem sl_trans {a b c : ByteArray} (h : sLess a b = true) (k : sLess b c = true) : sLess a c = true := bl_trans h k
theorem sl_tri (a b : ByteArray) : sLess a b = true ∨ a = b ∨ sLess b a = true := by
  rcases bl_tri a.data.toList b.data.toList with h | h | h
  · exact .inl h
  · exact .inr (.inl (bytes_ext h))
  · exact .inr (.inr h)
theorem sl_ne {a b : ByteArray} (h : sLess a b = true) : a ≠ b := fun e => by
  subst e; rw [sl_irrefl] at h; cases h
theorem sl_asymm {a b : ByteArray} (h : sLess a b = true) : sLess b a = false := by
  rw [← Bool.not_eq_true]; intro k
  have := sl_trans h k
  rw [sl_irrefl] at this; cases this
theorem sEq_f {a b : ByteArray} (h : a ≠ b) : sEq a b = false := by
  rw [← Bool.not_eq_true]; intro e; exact h (sEq_iff.1 e)
/-! ### what of one file must change -/
abbrev FileT := ByteArray × ByteArray
abbrev OpT := Int × (ByteArray × (ByteArray × Int))
def preS (b a : ByteArray) : Bool := decide (a.size ≤ b.size) && sEq (scut b 0 a.size) a
theorem hasPrefix_ok (k : Nat) (b a : ByteArray) : stringslite_HasPrefix k (b, a) = some (preS b a) := by
  unfold stringslite_HasPrefix preS
  simp only
  by_cases h : a.size ≤ b.size
  · rw [ige_t (by unfold blen; omega), condO_true, guardO_pos ⟨by omega, by unfold blen; omega, by unfold blen; omega⟩, decide_eq_true h]; rfl
  · rw [ige_f (by unfold blen; omega), condO_false, decide_eq_false h]; rfl
theorem begins_ok (k : Nat) (b a : ByteArray) : ref21_begins k (b, a) = some (preS b a) := hasPrefix_ok k b a
def restS (b a : ByteArray) : ByteArray := scut b a.size b.size
theorem pre_le {b a : ByteArray} (h : preS b a = true) : a.size ≤ b.size := by
  unfold preS at h
  simp only [Bool.and_eq_true, decide_eq_true_eq] at h
  exact h.1
theorem cutPrefix_ok (k : Nat) (b a : ByteArray) : stringslite_CutPrefix k (b, a) = some (if preS b a then (restS b a, true) else (b, false)) := by
  unfold stringslite_CutPrefix
  simp only [hasPrefix_ok, Option.bind_some]
  cases h : preS b a with
  | false => rfl
  | true =>
    have := pre_le h
    simp only [Bool.not_true, condO_false, if_true]
    rw [guardO_pos ⟨by unfold blen; omega, by unfold blen; omega, by unfold blen; omega⟩]
    rfl
/-- What of a file that is there must change. -/
def chgB (name a b : ByteArray) : List OpT :=
  if preS b a then (if sEq (restS b a) str0 then [] else [(2, name, restS b a, 0)]) else if preS a b then [(3, name, str0, blen b)] else [(5, name, b, 0)]
def chgG (name a : ByteArray) : List OpT := if sEq a str0 then [(4, name, str0, 0)] else [(3, name, str0, 0), (4, name, str0, 0)]
def chg (name a b : ByteArray) (was is : Bool) : List OpT := (if was then [] else [(1, name, str0, 0)]) ++ (if is then chgB name a b else chgG name a)
theorem change_ok (k : Nat) (name a b : ByteArray) (was is : Bool) : image_change k (name, a, b, was, is) = some (chg name a b was is) := by
  have ap : ∀ (x y : List OpT), x.length ≤ 5 → y.length ≤ 5 → appOk x y 48 := fun x y h1 h2 => by unfold appOk; omega
  unfold image_change chg
  simp only
  refine bind_of (a := if was then [] else [(1, name, str0, 0)]) ?_ ?_
  · cases was
    · simp only [Bool.not_false, condO_true]; rw [guardO_pos (ap _ _ (by simp) (by simp))]; rfl
    · rfl
  have hw : (if was then ([] : List OpT) else [(1, name, str0, 0)]).length ≤ 5 := by split <;> simp
  generalize (if was then ([] : List OpT) else [(1, name, str0, 0)]) = r at hw
  have app : ∀ (y : List OpT) {x : Option (List OpT)}, y.length ≤ 5 → guardO (appOk r y 48) x = x := fun y x h => guardO_pos (ap _ _ hw h)
  rw [cutPrefix_ok]
  simp only [Option.bind_some]
  refine bind_of (a := r ++ (if is then chgB name a b else chgG name a)) ?_ rfl
  cases is with
  | false =>
    simp only [Bool.not_false, condO_true, Bool.false_eq_true, if_false, chgG]
    cases h : sEq a str0
    · simp only [condO_false, Bool.false_eq_true, if_false]; rw [app _ (by simp)]
    · simp only [condO_true, if_true]; rw [app _ (by simp)]
  | true =>
    simp only [Bool.not_true, condO_false, if_true, chgB]
    have key : (condO (if preS b a then (restS b a, true) else (b, false)).2 (condO (sEq (if preS b a then (restS b a, true) else (b, false)).1 str0) (some r) (condO (if preS b a then (restS b a, true) else (b, false)).2 (guardO (appOk r ([(2, name, (if preS b a then (restS b a, true) else (b, false)).1, 0)] : List OpT) 48) (some (r ++ ([(2, name, (if preS b a then (restS b a, true) else (b, false)).1, 0)] : List OpT)))) ((stringslite_HasPrefix k (a, b)).bind fun r2 => condO r2 (guardO (appOk r ([(3, name, str0, blen b)] : List OpT) 48) (some (r ++ ([(3, name, str0, blen b)] : List OpT)))) (guardO (appOk r ([(5, name, b, 0)] : List OpT) 48) (some (r ++ ([(5, name, b, 0)] : List OpT)))))))
        (condO (if preS b a then (restS b a, true) else (b, false)).2 (guardO (appOk r ([(2, name, (if preS b a then (restS b a, true) else (b, false)).1, 0)] : List OpT) 48) (some (r ++ ([(2, name, (if preS b a then (restS b a, true) else (b, false)).1, 0)] : List OpT)))) ((stringslite_HasPrefix k (a, b)).bind fun r2 => condO r2 (guardO (appOk r ([(3, name, str0, blen b)] : List OpT) 48) (some (r ++ ([(3, name, str0, blen b)] : List OpT)))) (guardO (appOk r ([(5, name, b, 0)] : List OpT) 48) (some (r ++ ([(5, name, b, 0)] : List OpT))))))) = some (r ++ (if preS b a then (if sEq (restS b a) str0 then [] else [(2, name, restS b a, 0)]) else if preS a b then [(3, name, str0, blen b)] else [(5, name, b, 0)])) := by
      cases h : preS b a with
      | true =>
        simp only [if_true, condO_true]
        cases h2 : sEq (restS b a) str0
        · simp only [condO_false, Bool.false_eq_true, if_false]; rw [app _ (by simp)]
        · simp only [condO_true, if_true, List.append_nil]
      | false =>
        simp only [Bool.false_eq_true, if_false, condO_false, hasPrefix_ok, Option.bind_some]
        cases h2 : preS a b
        · simp only [condO_false, Bool.false_eq_true, if_false]; rw [app _ (by simp)]
        · simp only [condO_true, if_true]; rw [app _ (by simp)]
    cases h : sEq a str0 <;> exact key
theorem chg_len (name a b : ByteArray) (was is : Bool) : (chg name a b was is).length ≤ 3 := by
  unfold chg chgB chgG
  rw [List.length_append]
  have h1 : (if was then ([] : List OpT) else [(1, name, str0, 0)]).length ≤ 1 := by split <;> simp
  have h2 : (if is then (if preS b a then (if sEq (restS b a) str0 then ([] : List OpT) else [(2, name, restS b a, 0)]) else if preS a b then [(3, name, str0, blen b)] else [(5, name, b, 0)]) else (if sEq a str0 then [(4, name, str0, 0)] else [(3, name, str0, 0), (4, name, str0, 0)])).length ≤ 2 := by
    repeat' split
    all_goals simp
  omega
/-! ### what of two lists must change -/
def mergeD : List FileT → List FileT → List OpT
  | [], [] => []
  | l :: L, [] => chg l.1 l.2 str0 true false ++ mergeD L []
  | [], m :: M => chg m.1 str0 m.2 false true ++ mergeD [] M
  | l :: L, m :: M => if sLess l.1 m.1 = true then chg l.1 l.2 str0 true false ++ mergeD L (m :: M)
    else if sLess m.1 l.1 = true then chg m.1 str0 m.2 false true ++ mergeD (l :: L) M
    else chg m.1 l.2 m.2 true true ++ mergeD L M
termination_by L M => L.length + M.length
theorem diff_ok {L0 M0 : List FileT} (h : L0.length + M0.length ≤ 40) (hm : (mergeD L0 M0).length ≤ 1000) : image_Diff 1000 (L0, M0) = some (mergeD L0 M0) := by
  unfold image_Diff
  refine loop_bind (I := fun n (h : List FileT × List FileT × List OpT) => n = h.1.length + h.2.1.length ∧ h.2.2 ++ mergeD h.1 h.2.1 = mergeD L0 M0) (Q := fun e => e = mergeD L0 M0) (L0.length + M0.length) (by omega) ⟨rfl, rfl⟩ ?_ (fun e he => by rw [he])
  rintro n ⟨L, M, out⟩ ⟨hn, ho⟩
  simp only at hn ho ⊢
  have hout : out.length ≤ 1000 := by
    have := congrArg List.length ho
    rw [List.length_append] at this; omega
  have ap : ∀ (y : List OpT), y.length ≤ 3 → appOk out y 48 := fun y h1 => by unfold appOk; omega
  cases L with
  | nil =>
    cases M with
    | nil =>
      have e : mergeD [] [] = [] := by rw [mergeD]
      rw [e, List.append_nil] at ho
      exact .out ho
    | cons m M =>
      have hl : llen (m :: M) > 0 := by unfold llen; simp only [List.length_cons]; omega
      rw [igt_f (show llen ([] : List FileT) ≤ 0 from Int.le_refl 0), condO_false, igt_t hl, condO_true]
      simp only [Option.bind_some, caseS_inl]
      rw [ieq_f (show llen (m :: M) ≠ 0 by omega), condO_false, condO_false]
      simp only [Option.bind_some, caseS_inr]
      rw [ieq_t (show llen ([] : List FileT) = 0 from rfl), condO_true]
      rw [guardO_pos ⟨by decide, by omega⟩, guardO_pos ⟨by decide, by omega⟩, change_ok]
      simp only [Option.bind_some]
      rw [guardO_pos (ap _ (chg_len _ _ _ _ _)), guardO_pos ⟨by decide, by omega, Int.le_refl _, rfl⟩]
      simp only [List.length_cons, List.length_nil] at hn
      refine .on (n - 1) (by omega) ⟨by show n - 1 = 0 + M.length; omega, ?_⟩
      rw [← ho, mergeD, ← List.append_assoc]
      rfl
  | cons l L =>
    have hl : llen (l :: L) > 0 := by unfold llen; simp only [List.length_cons]; omega
    rw [igt_t hl, condO_true]
    simp only [Option.bind_some, caseS_inl]
    cases M with
    | nil =>
      rw [ieq_t (show llen ([] : List FileT) = 0 from rfl), condO_true]
      rw [guardO_pos ⟨by decide, by omega⟩, guardO_pos ⟨by decide, by omega⟩, change_ok]
      simp only [Option.bind_some]
      rw [guardO_pos (ap _ (chg_len _ _ _ _ _)), guardO_pos ⟨by decide, by omega, Int.le_refl _, rfl⟩]
      simp only [Option.bind_some, caseS_inl]
      refine .on (n - 1) (by simp only [List.length_cons] at hn; omega) ⟨by simp only [List.length_cons, List.length_nil] at hn; show n - 1 = L.length + 0; omega, ?_⟩
      rw [← ho, mergeD, ← List.append_assoc]
      rfl
    | cons m M =>
      have hl2 : llen (m :: M) > 0 := by unfold llen; simp only [List.length_cons]; omega
      simp only [List.length_cons] at hn
      rw [ieq_f (show llen (m :: M) ≠ 0 by omega), condO_false, condO_true, guardO_pos ⟨by decide, by omega⟩, guardO_pos ⟨by decide, by omega⟩]
      have e1 : at_ T5 (l :: L) 0 = l := rfl
      have e2 : at_ T5 (m :: M) 0 = m := rfl
      simp only [e1, e2]
      rw [mergeD] at ho
      cases h1 : sLess l.1 m.1 with
      | true =>
        simp only [condO_true]
        rw [guardO_pos ⟨by decide, by omega⟩, guardO_pos ⟨by decide, by omega⟩, change_ok]
        simp only [Option.bind_some]
        rw [guardO_pos (ap _ (chg_len _ _ _ _ _)), guardO_pos ⟨by decide, by omega, Int.le_refl _, rfl⟩]
        simp only [Option.bind_some, caseS_inl]
        rw [if_pos h1, ← List.append_assoc] at ho
        exact .on (n - 1) (by omega) ⟨by show n - 1 = L.length + (m :: M).length; simp only [List.length_cons]; omega, ho⟩
      | false =>
        simp only [condO_false, Option.bind_some, caseS_inr]
        rw [ieq_f (show llen (l :: L) ≠ 0 by omega), condO_false, guardO_pos ⟨by decide, by omega⟩, guardO_pos ⟨by decide, by omega⟩]
        rw [if_neg (by rw [h1]; decide)] at ho
        cases h2 : sLess m.1 l.1 with
        | true =>
          simp only [e1, e2, h2, condO_true]
          rw [guardO_pos ⟨by decide, by omega⟩, guardO_pos ⟨by decide, by omega⟩, change_ok]
          simp only [Option.bind_some]
          rw [guardO_pos (ap _ (chg_len _ _ _ _ _)), guardO_pos ⟨by decide, by omega, Int.le_refl _, rfl⟩]
          rw [if_pos h2, ← List.append_assoc] at ho
          exact .on (n - 1) (by omega) ⟨by show n - 1 = (l :: L).length + M.length; simp only [List.length_cons]; omega, ho⟩
        | false =>
          simp only [e1, e2, h2, condO_false]
          rw [guardO_pos ⟨by decide, by omega⟩, guardO_pos ⟨by decide, by omega⟩, guardO_pos ⟨by decide, by omega⟩, change_ok]
          simp only [Option.bind_some]
          rw [guardO_pos (ap _ (chg_len _ _ _ _ _)), guardO_pos ⟨by decide, by omega, Int.le_refl _, rfl⟩, guardO_pos ⟨by decide, by omega, Int.le_refl _, rfl⟩]
          rw [if_neg (by rw [h2]; decide), ← List.append_assoc] at ho
          exact .on (n - 2) (by omega) ⟨by show n - 2 = L.length + M.length; omega, ho⟩
theorem diff_same (L0 : List FileT) : image_Diff_2 1000 L0 = image_Diff 1000 (L0, L0) := rfl
theorem mergeD_len : ∀ (n : Nat) (L M : List FileT), L.length + M.length ≤ n → (mergeD L M).length ≤ 3 * n
  | n, [], [], _ => by rw [mergeD]; simp
  | 0, l :: L, M, h => by simp at h
  | 0, [], m :: M, h => by simp at h
  | n + 1, l :: L, [], h => by
    simp only [List.length_cons, List.length_nil] at h
    have := mergeD_len n L [] (by simp only [List.length_nil]; omega)
    have := chg_len l.1 l.2 str0 true false
    rw [mergeD, List.length_append]; omega
  | n + 1, [], m :: M, h => by
    simp only [List.length_cons, List.length_nil] at h
    have := mergeD_len n [] M (by simp only [List.length_nil]; omega)
    have := chg_len m.1 str0 m.2 false true
    rw [mergeD, List.length_append]; omega
  | n + 1, l :: L, m :: M, h => by
    simp only [List.length_cons] at h
    have h1 := mergeD_len n L (m :: M) (by simp only [List.length_cons]; omega)
    have h2 := mergeD_len n (l :: L) M (by simp only [List.length_cons]; omega)
    have h3 := mergeD_len n L M (by omega)
    have c1 := chg_len l.1 l.2 str0 true false
    have c2 := chg_len m.1 str0 m.2 false true
    have c3 := chg_len m.1 l.2 m.2 true true
    rw [mergeD]
    split
    · rw [List.length_append]; omega
    · split <;> rw [List.length_append] <;> omega
end Go.Proofs.YthdgllldpfeelaaGreatDoor
/- The document's Diff; lists of files that rise. No condition. -/
set_option linter.unusedVariables false
set_option linter.unusedSimpArgs false
namespace Go.Proofs.YthdgllldpfeelaaGreatDoor
open Go
def Srt (L : List FileT) : Prop := L.Pairwise fun a b => sLess a.1 b.1 = true
theorem bind_inv {H E R : Type} {step : H → Option (H ⊕ E)} {f : E → Option R} (I : Nat → H → Prop) (Q : E → Prop) (P : R → Prop) (n : Nat) {h0 : H} {k : Nat} (hk : n < k) (h : I n h0) (hs : ∀ n h, I n h → Goes I Q n (step h)) (hf : ∀ e, Q e → ∃ r, f e = some r ∧ P r) : ∃ r, (loopK k step h0).bind f = some r ∧ P r := by
  obtain ⟨e, he, hq⟩ := loopK_inv (step := step) I Q (fun n h hi => by
    have g := hs n h hi
    generalize step h = o at g ⊢
    cases g with
    | on m lt i => exact .inl ⟨_, m, rfl, lt, i⟩
    | out q => exact .inr ⟨_, rfl, q⟩) n h0 h k hk
  obtain ⟨r, h1, h2⟩ := hf e hq
  exact ⟨r, by rw [he]; exact h1, h2⟩
def fnd (name : ByteArray) (L : List FileT) : ByteArray × Bool := match L.find? (fun f => sEq f.1 name) with
  | some f => (f.2, true)
  | none => (str0, false)
theorem find_ok {name : ByteArray} {L : List FileT} (h : L.length < 900) : ref21_find 1000 (name, L) = some (fnd name L) := by
  unfold ref21_find
  have hstep : ∀ i (hi : i < L.length), at_ T5 L (i : Int) = L[i] := fun i hi => at_nat hi
  by_cases hx : L.findIdx (fun f => sEq f.1 name) < L.length
  · have hf : L.find? (fun f => sEq f.1 name) = some L[L.findIdx (fun f => sEq f.1 name)] := by
      rw [List.find?_eq_getElem?_findIdx, List.getElem?_eq_getElem hx]
    unfold fnd
    rw [hf]
    refine bind_of (a := .inl ((L[L.findIdx (fun f => sEq f.1 name)]).2, true)) ?_ rfl
    refine loopK_run (fun i : Nat => (i : Int)) (L.findIdx (fun f => sEq f.1 name)) _ 1000 ?_ ?_ (by omega)
    · intro i hi
      have hn : sEq L[i].1 name = false := by simpa using List.not_of_lt_findIdx hi
      have hin : inR (i : Int) (llen L) := ⟨by omega, by unfold llen; omega⟩
      simp only [ilt_t (show (i : Int) < llen L by unfold llen; omega), condO_true, guardO_pos hin, hstep i (by omega), hn, condO_false]
      rw [wk_i64 (by omega) (by omega)]; rfl
    · have hn : sEq (L[L.findIdx (fun f => sEq f.1 name)]).1 name = true := List.findIdx_getElem (w := hx)
      generalize L.findIdx (fun f => sEq f.1 name) = i at hx hn ⊢
      have hin : inR (i : Int) (llen L) := ⟨by omega, by unfold llen; omega⟩
      simp only [ilt_t (show (i : Int) < llen L by unfold llen; omega), condO_true, guardO_pos hin, hstep i hx, hn]
  · have hall : ∀ q ∈ L, sEq q.1 name = false := fun q hq => by
      cases hw : sEq q.1 name with
      | false => rfl
      | true => exact absurd (List.findIdx_lt_length_of_exists ⟨q, hq, hw⟩) hx
    have hf : L.find? (fun f => sEq f.1 name) = none := List.find?_eq_none.2 (fun q hq => by rw [hall q hq]; decide)
    unfold fnd
    rw [hf]
    refine bind_of (a := .inr ()) ?_ rfl
    refine loopK_run (fun i : Nat => (i : Int)) L.length _ 1000 ?_ ?_ (by omega)
    · intro i hi
      have hn : sEq L[i].1 name = false := hall _ (List.getElem_mem hi)
      have hin : inR (i : Int) (llen L) := ⟨by omega, by unfold llen; omega⟩
      simp only [ilt_t (show (i : Int) < llen L by unfold llen; omega), condO_true, guardO_pos hin, hstep i hi, hn, condO_false]
      rw [wk_i64 (by omega) (by omega)]; rfl
    · simp only [ilt_f (show llen L ≤ (L.length : Int) by unfold llen; omega), condO_false]
theorem fnd_not {name : ByteArray} {L : List FileT} (h : ∀ a ∈ L, a.1 ≠ name) : fnd name L = (str0, false) := by
  unfold fnd
  rw [List.find?_eq_none.2 (fun q hq => by rw [sEq_f (h q hq)]; decide)]
theorem fnd_app {name : ByteArray} {A B : List FileT} {f : FileT} (h : ∀ a ∈ A, a.1 ≠ name) (hf : f.1 = name) : fnd name (A ++ f :: B) = (f.2, true) := by
  unfold fnd
  rw [List.find?_append, List.find?_eq_none.2 (fun q hq => by rw [sEq_f (h q hq)]; decide), List.find?_cons]
  rw [show sEq f.1 name = true by rw [hf]; exact sEq_self _]
  rfl
/-- What a round of the document's Diff adds. -/
theorem chgB_same (name a : ByteArray) : chgB name a a = [] := by
  unfold chgB
  have h : preS a a = true := by
    unfold preS
    simp only [Nat.le_refl, decide_true, Bool.true_and]
    rw [sEq_iff]
    apply bytes_ext
    simp [scut, ByteArray.data_extract]
  have h2 : sEq (restS a a) str0 = true := by
    rw [sEq_iff]
    apply bytes_ext
    simp [restS, scut, ByteArray.data_extract, str0]
  rw [if_pos h, if_pos h2]
theorem pre_both {a b : ByteArray} (h : preS b a = true) (hr : sEq (restS b a) str0 = true) : a = b := by
  have hle := pre_le h
  unfold preS at h
  simp only [Bool.and_eq_true, decide_eq_true_eq] at h
  have e1 := congrArg (fun x : ByteArray => x.data.toList) (sEq_iff.1 h.2)
  have e2 := congrArg (fun x : ByteArray => x.data.toList) (sEq_iff.1 hr)
  simp only [restS, scut, ByteArray.data_extract, Int.toNat_natCast, Array.toList_extract, List.extract_eq_take_drop, str0] at e1 e2
  apply bytes_ext
  have hz : b.data.toList.length = b.size := by rw [Array.length_toList]; rfl
  simp only [Int.toNat_zero, List.drop_zero, Nat.sub_zero] at e1
  have h3 : (b.data.toList.drop a.size).take (b.size - a.size) = b.data.toList.drop a.size := List.take_of_length_le (by rw [List.length_drop, hz]; omega)
  rw [h3] at e2
  have h4 := List.take_append_drop a.size b.data.toList
  rw [e1, e2] at h4
  simpa using h4
end Go.Proofs.YthdgllldpfeelaaGreatDoor
/- The document's Diff is the program's, of lists that rise. No condition. -/
set_option linter.unusedVariables false
set_option linter.unusedSimpArgs false
namespace Go.Proofs.YthdgllldpfeelaaGreatDoor
open Go
/-- What a round of the document's Diff makes of what it found. -/
def rch (name : ByteArray) (x y : ByteArray × Bool) : List OpT := chg name x.1 y.1 x.2 y.2
theorem lst_drop {α : Type} {L : List α} {i : Nat} {l : α} {R : List α} (h : L.drop i = l :: R) : i < L.length ∧ L.drop (i + 1) = R ∧ L.take (i + 1) = L.take i ++ [l] ∧ ∀ d, L.getD i d = l := by
  have hi : i < L.length := by
    rcases Nat.lt_or_ge i L.length with h1 | h1
    · exact h1
    · rw [List.drop_of_length_le h1] at h; cases h
  rw [List.drop_eq_getElem_cons hi] at h
  injection h with h1 h2
  refine ⟨hi, h2, ?_, fun d => ?_⟩
  · rw [List.take_succ_eq_append_getElem hi, h1]
  · rw [List.getD_eq_getElem?_getD, List.getElem?_eq_getElem hi, h1]; rfl
structure RI (L M : List FileT) (i k : Nat) (out : List OpT) : Prop where
  hi : i ≤ L.length
  hk : k ≤ M.length
  eq : out ++ mergeD (L.drop i) (M.drop k) = mergeD L M
  lt : ∀ a ∈ L.take i ++ M.take k, ∀ b ∈ L.drop i ++ M.drop k, sLess a.1 b.1 = true
theorem srt_drop {L R : List FileT} {i : Nat} {l : FileT} (hs : Srt L) (h : L.drop i = l :: R) : ∀ b ∈ R, sLess l.1 b.1 = true := by
  have h1 : (L.drop i).Pairwise (fun a b => sLess a.1 b.1 = true) := List.Pairwise.sublist (List.drop_sublist i L) hs
  rw [h] at h1
  exact (List.pairwise_cons.1 h1).1
theorem fnd_head {L R : List FileT} {i : Nat} {l : FileT} (h : L.drop i = l :: R) (hlt : ∀ a ∈ L.take i, a.1 ≠ l.1) : fnd l.1 L = (l.2, true) := by
  have e : L = L.take i ++ l :: R := by rw [← h, List.take_append_drop]
  rw [e]
  have : (L.take i ++ l :: R).take i = L.take i := by rw [← e]
  exact fnd_app (by intro a ha; exact hlt a ha) rfl
theorem fnd_out {L : List FileT} {i : Nat} {name : ByteArray} (h1 : ∀ a ∈ L.take i, a.1 ≠ name) (h2 : ∀ a ∈ L.drop i, a.1 ≠ name) : fnd name L = (str0, false) := by
  refine fnd_not (fun a ha => ?_)
  rw [← List.take_append_drop i L] at ha
  rcases List.mem_append.1 ha with ha | ha
  · exact h1 a ha
  · exact h2 a ha
/-- The tail of a round. -/
theorem round_ok {name : ByteArray} {x y : ByteArray × Bool} {out : List OpT} {i k : Int} {I : Nat → Int × Int × List OpT → Prop} {Q : List OpT → Prop} {n : Nat} (ho : out.length ≤ 1000)
    (hx : x.2 = false → x.1 = str0) (hI : ∃ m, m < n ∧ I m (if x.2 then WK .i64 (i + 1) else i, if y.2 then WK .i64 (k + 1) else k, out ++ rch name x y)) :
    Goes I Q n ((condO x.2 (some (WK .i64 (i + 1))) (some i) : Option Int).bind fun r5 => (condO y.2 (some (WK .i64 (k + 1))) (some k) : Option Int).bind fun r6 =>
      (condO (!x.2) (guardO (appOk out ([(1, name, str0, 0)] : List OpT) 48) (some (out ++ ([(1, name, str0, 0)] : List OpT)))) (some out) : Option (List OpT)).bind fun r7 =>
      (condO (!y.2) (condO (!(sEq x.1 str0)) (guardO (appOk r7 ([(3, name, str0, 0)] : List OpT) 48) (some (r7 ++ ([(3, name, str0, 0)] : List OpT)))) (some r7)) (some r7) : Option (List OpT)).bind fun r8 =>
      condO (!y.2) (guardO (appOk r8 ([(4, name, str0, 0)] : List OpT) 48) (some (.inl (r5, r6, r8 ++ ([(4, name, str0, 0)] : List OpT)))))
        ((ref21_begins 1000 (y.1, x.1)).bind fun r9 => (ref21_begins 1000 (x.1, y.1)).bind fun r10 =>
          condO (sEq x.1 y.1) (some (.inl (r5, r6, r8))) (condO r9 (guardO (cutOk (blen x.1) (blen y.1) (blen y.1)) (guardO (appOk r8 ([(2, name, (scut y.1 (blen x.1) (blen y.1)), 0)] : List OpT) 48) (some (.inl (r5, r6, r8 ++ ([(2, name, (scut y.1 (blen x.1) (blen y.1)), 0)] : List OpT))))))
            (condO r10 (guardO (appOk r8 ([(3, name, str0, blen y.1)] : List OpT) 48) (some (.inl (r5, r6, r8 ++ ([(3, name, str0, blen y.1)] : List OpT))))) (guardO (appOk r8 ([(5, name, y.1, 0)] : List OpT) 48) (some (.inl (r5, r6, r8 ++ ([(5, name, y.1, 0)] : List OpT))))))))) := by
  obtain ⟨x, xb⟩ := x
  obtain ⟨y, yb⟩ := y
  obtain ⟨m, hm, hI⟩ := hI
  simp only at hx hI ⊢
  have ap : ∀ (a b : List OpT), a.length ≤ 1005 → b.length ≤ 5 → appOk a b 48 := fun a b h1 h2 => by unfold appOk; omega
  have g1 : (condO xb (some (WK .i64 (i + 1))) (some i) : Option Int) = some (if xb then WK .i64 (i + 1) else i) := by cases xb <;> rfl
  have g2 : (condO yb (some (WK .i64 (k + 1))) (some k) : Option Int) = some (if yb then WK .i64 (k + 1) else k) := by cases yb <;> rfl
  have g3 : (condO (!xb) (guardO (appOk out ([(1, name, str0, 0)] : List OpT) 48) (some (out ++ ([(1, name, str0, 0)] : List OpT)))) (some out) : Option (List OpT)) = some (out ++ if xb then [] else [(1, name, str0, 0)]) := by
    cases xb
    · simp only [Bool.not_false, condO_true]; rw [guardO_pos (ap _ _ (by omega) (by simp))]; rfl
    · simp
  rw [g1, g2, g3]
  simp only [Option.bind_some]
  unfold rch chg at hI
  rw [← List.append_assoc] at hI
  have hr : (out ++ if xb then ([] : List OpT) else [(1, name, str0, 0)]).length ≤ 1001 := by
    rw [List.length_append]
    split <;> simp <;> omega
  generalize (out ++ if xb then ([] : List OpT) else [(1, name, str0, 0)]) = r at hI hr
  cases yb with
  | false =>
    simp only [Bool.not_false, condO_true, Bool.false_eq_true, if_false, chgG] at hI ⊢
    cases h : sEq x str0
    · rw [h] at hI
      simp only [Bool.not_false, condO_true]
      rw [guardO_pos (ap _ _ (by omega) (by simp))]
      simp only [Option.bind_some]
      rw [guardO_pos (ap _ _ (by rw [List.length_append]; simp; omega) (by simp))]
      simp only [Bool.false_eq_true, if_false] at hI
      exact .on m hm (by simpa using hI)
    · rw [h] at hI
      simp only [Bool.not_true, condO_false, Option.bind_some]
      rw [guardO_pos (ap _ _ (by omega) (by simp))]
      exact .on m hm (by simpa using hI)
  | true =>
    simp only [Bool.not_true, condO_false, Option.bind_some, if_true, begins_ok] at hI ⊢
    by_cases hxy : x = y
    · subst hxy
      rw [sEq_self, condO_true]
      rw [chgB_same, List.append_nil] at hI
      exact .on m hm hI
    · rw [sEq_f hxy, condO_false]
      unfold chgB at hI
      cases h1 : preS y x with
      | true =>
        have hle := pre_le h1
        have hne : sEq (restS y x) str0 = false := by
          rw [← Bool.not_eq_true]; intro e; exact hxy (pre_both h1 e)
        rw [h1, hne] at hI
        simp only [condO_true]
        rw [guardO_pos ⟨by unfold blen; omega, by unfold blen; omega, by unfold blen; omega⟩, guardO_pos (ap _ _ (by omega) (by simp))]
        exact .on m hm hI
      | false =>
        rw [h1] at hI
        simp only [condO_false]
        cases h2 : preS x y with
        | true =>
          rw [h2] at hI
          simp only [condO_true]
          rw [guardO_pos (ap _ _ (by omega) (by simp))]
          exact .on m hm hI
        | false =>
          rw [h2] at hI
          simp only [condO_false]
          rw [guardO_pos (ap _ _ (by omega) (by simp))]
          exact .on m hm hI
theorem rdiff_ok {L M : List FileT} (h : L.length + M.length ≤ 40) (hL : Srt L) (hM : Srt M) : ref21_Diff 1000 (L, M) = some (mergeD L M) := by
  have hmd := mergeD_len 40 L M h
  unfold ref21_Diff
  refine loop_bind (I := fun n (h : Int × Int × List OpT) => ∃ (i k : Nat) (out : List OpT), h = ((i : Int), (k : Int), out) ∧ n + i + k = L.length + M.length ∧ RI L M i k out) (Q := fun e => e = mergeD L M) (L.length + M.length) (by omega) ⟨0, 0, [], rfl, by omega, by omega, by omega, rfl, fun a ha => by simp at ha⟩ ?_ (fun e he => by rw [he])
  rintro n h ⟨i, k, out, rfl, hn, r⟩
  have hout : out.length ≤ 1000 := by
    have := congrArg List.length r.eq
    rw [List.length_append] at this; omega
  have hi := r.hi
  have hk := r.hk
  have wi : WK .i64 ((i : Int) + 1) = ((i + 1 : Nat) : Int) := by rw [wk_i64 (by omega) (by omega)]; omega
  have wk : WK .i64 ((k : Int) + 1) = ((k + 1 : Nat) : Int) := by rw [wk_i64 (by omega) (by omega)]; omega
  have ltL : ∀ a ∈ L.take i, ∀ b ∈ L.drop i ++ M.drop k, sLess a.1 b.1 = true := fun a ha => r.lt a (List.mem_append_left _ ha)
  have ltM : ∀ a ∈ M.take k, ∀ b ∈ L.drop i ++ M.drop k, sLess a.1 b.1 = true := fun a ha => r.lt a (List.mem_append_right _ ha)
  have aL : ∀ l : FileT, L.getD i (str0, str0) = l → at_ T5 L (i : Int) = l := fun l h => h
  have aM : ∀ m : FileT, M.getD k (str0, str0) = m → at_ T5 M (k : Int) = m := fun m h => h
  have fL := fun name => find_ok (name := name) (L := L) (by omega)
  have fM := fun name => find_ok (name := name) (L := M) (by omega)
  cases hLd : L.drop i with
  | nil =>
    have hiL : i = L.length := by
      have := congrArg List.length hLd
      rw [List.length_drop, List.length_nil] at this; omega
    have c1 : ilt (i : Int) (llen L) = false := ilt_f (by unfold llen; omega)
    cases hMd : M.drop k with
    | nil =>
      have hkM : k = M.length := by
        have := congrArg List.length hMd
        rw [List.length_drop, List.length_nil] at this; omega
      have c2 : ilt (k : Int) (llen M) = false := ilt_f (by unfold llen; omega)
      have e := r.eq
      rw [hLd, hMd, show mergeD [] [] = [] by rw [mergeD], List.append_nil] at e
      simp only [c1, c2, condO_false, Option.bind_some, caseS_inr]
      exact .out e
    | cons m M' =>
      obtain ⟨hkl, hd, ht, hg⟩ := lst_drop hMd
      have c2 : ilt (k : Int) (llen M) = true := ilt_t (by unfold llen; omega)
      have hin : inR (k : Int) (llen M) := ⟨by omega, by unfold llen; omega⟩
      rw [hLd, hMd] at ltL ltM
      simp only [c1, c2, condO_false, condO_true, Option.bind_some, caseS_inl, guardO_pos hin, aM m (hg _), fL, fM]
      have f1 : fnd m.1 L = (str0, false) := fnd_out (i := i) (fun a ha => sl_ne (ltL a ha m (by simp))) (fun a ha => by rw [hLd] at ha; cases ha)
      have f2 : fnd m.1 M = (m.2, true) := fnd_head hMd (fun a ha => sl_ne (ltM a ha m (by simp)))
      rw [f1, f2]
      refine round_ok hout (fun _ => rfl) ⟨n - 1, by omega, i, k + 1, _, by rw [if_pos rfl, wk]; rfl, by omega, hi, by omega, ?_, ?_⟩
      · have e := r.eq
        rw [hLd, hMd, mergeD, ← List.append_assoc] at e
        rw [hLd, hd]; exact e
      · intro a ha b hb
        rw [hLd, hd] at hb
        rw [ht] at ha
        simp only [List.nil_append] at hb
        rcases List.mem_append.1 ha with ha | ha
        · exact ltL a ha b (by simp [hb])
        · rcases List.mem_append.1 ha with ha | ha
          · exact ltM a ha b (by simp [hb])
          · obtain rfl := List.mem_singleton.1 ha
            exact srt_drop hM hMd b hb
  | cons l L' =>
    obtain ⟨hil, hld, hlt, hlg⟩ := lst_drop hLd
    have c1 : ilt (i : Int) (llen L) = true := ilt_t (by unfold llen; omega)
    have hin : inR (i : Int) (llen L) := ⟨by omega, by unfold llen; omega⟩
    cases hMd : M.drop k with
    | nil =>
      have hkM : k = M.length := by
        have := congrArg List.length hMd
        rw [List.length_drop, List.length_nil] at this; omega
      have c2 : ieq (k : Int) (llen M) = true := ieq_t (by unfold llen; omega)
      rw [hLd, hMd] at ltL ltM
      simp only [c1, c2, condO_true, Option.bind_some, caseS_inl, guardO_pos hin, aL l (hlg _), fL, fM]
      have f1 : fnd l.1 L = (l.2, true) := fnd_head hLd (fun a ha => sl_ne (ltL a ha l (by simp)))
      have f2 : fnd l.1 M = (str0, false) := fnd_out (i := k) (fun a ha => sl_ne (ltM a ha l (by simp))) (fun a ha => by rw [hMd] at ha; cases ha)
      rw [f1, f2]
      refine round_ok hout (fun h => by cases h) ⟨n - 1, by omega, i + 1, k, _, by rw [if_pos rfl, wi]; rfl, by omega, by omega, hk, ?_, ?_⟩
      · have e := r.eq
        rw [hLd, hMd, mergeD, ← List.append_assoc] at e
        rw [hld, hMd]; exact e
      · intro a ha b hb
        rw [hld, hMd, List.append_nil] at hb
        rw [hlt] at ha
        rcases List.mem_append.1 ha with ha | ha
        · rcases List.mem_append.1 ha with ha | ha
          · exact ltL a ha b (by simp [hb])
          · obtain rfl := List.mem_singleton.1 ha
            exact srt_drop hL hLd b hb
        · exact ltM a ha b (by simp [hb])
    | cons m M' =>
      obtain ⟨hkl, hd, ht, hg⟩ := lst_drop hMd
      have c2 : ieq (k : Int) (llen M) = false := ieq_f (by unfold llen; omega)
      have hin2 : inR (k : Int) (llen M) := ⟨by omega, by unfold llen; omega⟩
      have sL := srt_drop hL hLd
      have sM := srt_drop hM hMd
      have eq := r.eq
      rw [hLd, hMd, mergeD] at eq
      rw [hLd, hMd] at ltL ltM
      simp only [c1, c2, condO_true, condO_false, Option.bind_some, caseS_inl, guardO_pos hin, guardO_pos hin2, aL l (hlg _), aM m (hg _)]
      rcases sl_tri l.1 m.1 with h1 | h1 | h1
      · -- the first one's
        rw [h1]
        simp only [Bool.true_or, condO_true, Option.bind_some, fL, fM]
        have f1 : fnd l.1 L = (l.2, true) := fnd_head hLd (fun a ha => sl_ne (ltL a ha l (by simp)))
        have f2 : fnd l.1 M = (str0, false) := fnd_out (i := k) (fun a ha => sl_ne (ltM a ha l (by simp))) (fun a ha => by
          rw [hMd] at ha
          rcases List.mem_cons.1 ha with rfl | ha
          · exact (sl_ne h1).symm
          · exact (sl_ne (sl_trans h1 (sM a ha))).symm)
        rw [f1, f2]
        rw [if_pos h1, ← List.append_assoc] at eq
        refine round_ok hout (fun h => by cases h) ⟨n - 1, by omega, i + 1, k, _, by rw [if_pos rfl, wi]; rfl, by omega, by omega, hk, by rw [hld, hMd]; exact eq, ?_⟩
        intro a ha b hb
        rw [hld, hMd] at hb
        rw [hlt] at ha
        have hbb : b ∈ l :: L' ++ m :: M' := by
          rcases List.mem_append.1 hb with hb | hb
          · exact List.mem_append_left _ (List.mem_cons_of_mem _ hb)
          · exact List.mem_append_right _ hb
        rcases List.mem_append.1 ha with ha | ha
        · rcases List.mem_append.1 ha with ha | ha
          · exact ltL a ha b hbb
          · obtain rfl := List.mem_singleton.1 ha
            rcases List.mem_append.1 hb with hb | hb
            · exact sL b hb
            · rcases List.mem_cons.1 hb with rfl | hb
              · exact h1
              · exact sl_trans h1 (sM b hb)
        · exact ltM a ha b hbb
      · -- both
        have hn1 : sLess l.1 m.1 = false := by rw [h1]; exact sl_irrefl _
        have hn2 : sLess m.1 l.1 = false := by rw [h1]; exact sl_irrefl _
        have hse : sEq l.1 m.1 = true := by rw [h1]; exact sEq_self _
        rw [hn1, hse]
        simp only [Bool.false_or, condO_true, Option.bind_some, fL, fM]
        have f1 : fnd l.1 L = (l.2, true) := fnd_head hLd (fun a ha => sl_ne (ltL a ha l (by simp)))
        have f2 : fnd l.1 M = (m.2, true) := by rw [h1]; exact fnd_head hMd (fun a ha => sl_ne (ltM a ha m (by simp)))
        rw [f1, f2]
        rw [if_neg (by rw [hn1]; decide), if_neg (by rw [hn2]; decide), ← List.append_assoc, ← h1] at eq
        refine round_ok hout (fun h => by cases h) ⟨n - 2, by omega, i + 1, k + 1, _, by rw [if_pos rfl, if_pos rfl, wi, wk], by omega, by omega, by omega, by rw [hld, hd]; exact eq, ?_⟩
        intro a ha b hb
        rw [hld, hd] at hb
        rw [hlt, ht] at ha
        have hbb : b ∈ l :: L' ++ m :: M' := by
          rcases List.mem_append.1 hb with hb | hb
          · exact List.mem_append_left _ (List.mem_cons_of_mem _ hb)
          · exact List.mem_append_right _ (List.mem_cons_of_mem _ hb)
        have hgt : ∀ z : FileT, z.1 = l.1 → sLess z.1 b.1 = true := fun z hz => by
          rw [hz]
          rcases List.mem_append.1 hb with hb | hb
          · exact sL b hb
          · rw [h1]; exact sM b hb
        rcases List.mem_append.1 ha with ha | ha
        · rcases List.mem_append.1 ha with ha | ha
          · exact ltL a ha b hbb
          · obtain rfl := List.mem_singleton.1 ha
            exact hgt a rfl
        · rcases List.mem_append.1 ha with ha | ha
          · exact ltM a ha b hbb
          · obtain rfl := List.mem_singleton.1 ha
            exact hgt a h1.symm
      · -- the second one's
        have hn1 : sLess l.1 m.1 = false := sl_asymm h1
        have hse : sEq l.1 m.1 = false := sEq_f (sl_ne h1).symm
        rw [hn1, hse]
        simp only [Bool.or_self, condO_false, Option.bind_some, fL, fM]
        have f1 : fnd m.1 L = (str0, false) := fnd_out (i := i) (fun a ha => sl_ne (ltL a ha m (by simp))) (fun a ha => by
          rw [hLd] at ha
          rcases List.mem_cons.1 ha with rfl | ha
          · exact (sl_ne h1).symm
          · exact (sl_ne (sl_trans h1 (sL a ha))).symm)
        have f2 : fnd m.1 M = (m.2, true) := fnd_head hMd (fun a ha => sl_ne (ltM a ha m (by simp)))
        rw [f1, f2]
        rw [if_neg (by rw [hn1]; decide), if_pos h1, ← List.append_assoc] at eq
        refine round_ok hout (fun _ => rfl) ⟨n - 1, by omega, i, k + 1, _, by rw [if_pos rfl, wk]; rfl, by omega, hi, by omega, by rw [hLd, hd]; exact eq, ?_⟩
        intro a ha b hb
        rw [hLd, hd] at hb
        rw [ht] at ha
        have hbb : b ∈ l :: L' ++ m :: M' := by
          rcases List.mem_append.1 hb with hb | hb
          · exact List.mem_append_left _ hb
          · exact List.mem_append_right _ (List.mem_cons_of_mem _ hb)
        rcases List.mem_append.1 ha with ha | ha
        · exact ltL a ha b hbb
        · rcases List.mem_append.1 ha with ha | ha
          · exact ltM a ha b hbb
          · obtain rfl := List.mem_singleton.1 ha
            rcases List.mem_append.1 hb with hb | hb
            · rcases List.mem_cons.1 hb with rfl | hb
              · exact h1
              · exact sl_trans h1 (sL b hb)
            · exact sM b hb
end Go.Proofs.YthdgllldpfeelaaGreatDoor
/- What the laws of files themselves compute. No condition. -/
set_option linter.unusedVariables false
set_option linter.unusedSimpArgs false
namespace Go.Proofs.YthdgllldpfeelaaGreatDoor
open Go
theorem awake21 : law21_awake 1000 (vgl_strconv_uint64pow10, vgl_sha_keys, vgl_bits_deBruijn32tab, vgl_bits_deBruijn64tab) = some true := by kernel_rfl
/-- A file's name. -/
def nmJ (j : Nat) (b : Bool) : ByteArray := if b then strOfNums [((97 + j : Nat) : Int)] ++ ⟨#[49]⟩ else strOfNums [((97 + j : Nat) : Int)]
theorem one_nums (j : Nat) : strOfNums [((97 + j : Nat) : Int)] = ⟨#[UInt8.ofNat (97 + j)]⟩ := rfl
theorem nmJ_data (j : Nat) (b : Bool) : (nmJ j b).data.toList = UInt8.ofNat (97 + j) :: (if b then [49] else []) := by
  unfold nmJ
  cases b
  · rw [if_neg (by decide), one_nums]; rfl
  · rw [if_pos rfl, data_app, one_nums]; rfl
theorem nmJ_lt {j i : Nat} {b c : Bool} (h : j < i) (hi : i < 100) : sLess (nmJ j b) (nmJ i c) = true := by
  unfold sLess
  rw [nmJ_data, nmJ_data]
  simp only [Op.bytesLess, Bool.or_eq_true, decide_eq_true_eq]
  refine .inl (UInt8.lt_iff_toNat_lt.2 ?_)
  simp only [UInt8.toNat_ofNat']
  omega
/-- A file as the laws make it. -/
structure FileOk (i : Nat) (f : FileT) : Prop where
  nm : ∃ j b, j < i ∧ f.1 = nmJ j b
  sz : f.2.size ≤ 40
structure FilesOk (i : Nat) (L : List FileT) : Prop where
  len : L.length ≤ i
  srt : Srt L
  ok : ∀ f ∈ L, FileOk i f
theorem short_ok (k : Nat) (s : ByteArray) : ∃ t, law21_short k (s, 40) = some t ∧ t.size ≤ 40 := by
  unfold law21_short
  simp only
  by_cases h : 40 < s.size
  · rw [igt_t (by unfold blen; omega), condO_true, guardO_pos ⟨by decide, by decide, by unfold blen; omega⟩]
    refine ⟨_, rfl, ?_⟩
    simp only [scut, ByteArray.size_extract]
    show min (40 : Int).toNat s.size - 0 ≤ 40
    have : (40 : Int).toNat = 40 := rfl
    omega
  · rw [igt_f (by unfold blen; omega), condO_false]
    exact ⟨_, rfl, by omega⟩
theorem files_ok (l : List FileT) : ∃ F, law21_files 1000 l = some F ∧ FilesOk 8 F := by
  unfold law21_files
  refine bind_inv (I := fun n (h : Int × List FileT) => ∃ (i : Nat) (F : List FileT), h = ((i : Int), F) ∧ n + i = 8 ∧ FilesOk i F) (Q := FilesOk 8) (P := FilesOk 8) 8 (by omega) ⟨0, [], rfl, rfl, by simp, List.Pairwise.nil, fun f hf => by cases hf⟩ ?_ (fun F hF => ⟨F, rfl, hF⟩)
  rintro n h ⟨i, F, rfl, hn, o⟩
  have up : ∀ {i' : Nat}, i ≤ i' → FilesOk i' F := fun hi => ⟨Nat.le_trans o.len hi, o.srt, fun f hf => by
    obtain ⟨⟨j, b, hj, he⟩, hs⟩ := o.ok f hf
    exact ⟨⟨j, b, by omega, he⟩, hs⟩⟩
  by_cases h1 : (i : Int) < llen l
  case neg =>
    simp only [ilt_f (show llen l ≤ (i : Int) by omega), condO_false]
    exact .out (up (by omega))
  by_cases h2 : (i : Int) < 8
  case neg =>
    simp only [ilt_t h1, condO_true, ilt_f (show (8 : Int) ≤ (i : Int) by omega), condO_false]
    exact .out (up (by omega))
  have hin : inR (i : Int) (llen l) := ⟨by omega, h1⟩
  have hnz : nz (2 : Int) := by decide
  have hnz5 : nz (5 : Int) := by decide
  have w1 : WK .i64 (97 + (i : Int)) = ((97 + i : Nat) : Int) := by rw [wk_i64 (by omega) (by omega)]; omega
  have w2 : WK .u8 ((97 + i : Nat) : Int) = ((97 + i : Nat) : Int) := wk_u8 (by omega) (by omega)
  have w3 : WK .i64 ((i : Int) + 1) = ((i + 1 : Nat) : Int) := by rw [wk_i64 (by omega) (by omega)]; omega
  have hcat : catOk (strOfNums [((97 + i : Nat) : Int)]) (⟨#[49]⟩ : ByteArray) := by
    unfold catOk
    rw [size_strOfNums]
    show 1 + 1 ≤ 9223372036854775807
    decide
  simp only [ilt_t h1, ilt_t h2, condO_true, guardO_pos hin, guardO_pos hnz, guardO_pos hnz5, w1, w2, w3]
  refine Goes.bind (fun r => ∃ b, r = nmJ i b) ?_ ?_
  · by_cases hc : Int.tmod (blen (at_ T5 l (i : Int)).1) 2 = 1
    · rw [ieq_t hc, condO_true, guardO_pos hcat]
      exact ⟨_, rfl, true, rfl⟩
    · rw [ieq_f hc, condO_false]
      exact ⟨_, rfl, false, rfl⟩
  rintro _ ⟨b, rfl⟩
  by_cases hc : Int.tmod (blen (at_ T5 l (i : Int)).1) 5 = 4
  · rw [ieq_t hc, condO_true]
    exact .on (n - 1) (by omega) ⟨i + 1, F, rfl, by omega, up (by omega)⟩
  · rw [ieq_f hc, condO_false]
    obtain ⟨t, ht, hs⟩ := short_ok 1000 (at_ T5 l (i : Int)).2
    rw [ht]
    have hFl := o.len
    simp only [Option.bind_some]
    rw [guardO_pos (by unfold appOk; simp only [List.length_cons, List.length_nil]; omega)]
    refine .on (n - 1) (by omega) ⟨i + 1, _, rfl, by omega, by rw [List.length_append]; simp only [List.length_cons, List.length_nil]; omega, ?_, ?_⟩
    · unfold Srt
      rw [List.pairwise_append]
      refine ⟨o.srt, List.pairwise_singleton _ _, fun f hf g hg => ?_⟩
      obtain rfl := List.mem_singleton.1 hg
      obtain ⟨⟨j, c, hj, he⟩, _⟩ := o.ok f hf
      rw [he]
      exact nmJ_lt hj (by omega)
    · intro f hf
      rcases List.mem_append.1 hf with hf | hf
      · exact (up (Nat.le_succ i)).ok f hf
      · obtain rfl := List.mem_singleton.1 hf
        exact ⟨⟨i, b, by omega, rfl⟩, hs⟩
theorem sameOps_ok (t : List OpT) (h : t.length ≤ 900) : ref21_SameOps 1000 (t, t) = some true := by
  unfold ref21_SameOps
  simp only
  rw [ine_f rfl, condO_false]
  refine bind_of (a := .inr ()) ?_ rfl
  refine loopK_run (fun i : Nat => (i : Int)) t.length _ 1000 ?_ ?_ (by omega)
  · intro i hi
    have hin : inR (i : Int) (llen t) := ⟨by omega, by unfold llen; omega⟩
    simp only [ilt_t (show (i : Int) < llen t by unfold llen; omega), condO_true, guardO_pos hin, ieq_t (show (at_ T6 t (i : Int)).1 = (at_ T6 t (i : Int)).1 from rfl), ieq_t (show (at_ T6 t (i : Int)).2.2.2 = (at_ T6 t (i : Int)).2.2.2 from rfl), sEq_self, Bool.and_self, Bool.not_true, condO_false]
    rw [wk_i64 (by omega) (by omega)]
    rfl
  · simp only [ilt_f (show llen t ≤ (t.length : Int) by unfold llen; omega), condO_false]
theorem merge_same : ∀ L : List FileT, mergeD L L = []
  | [] => by rw [mergeD]
  | l :: L => by
    rw [mergeD, if_neg (by rw [sl_irrefl]; decide), if_neg (by rw [sl_irrefl]; decide), merge_same L, List.append_nil]
    unfold chg
    simp only [if_true, List.nil_append]
    exact chgB_same _ _
end Go.Proofs.YthdgllldpfeelaaGreatDoor
/- The document's store: its changes, of files that rise. No condition. -/
set_option linter.unusedVariables false
set_option linter.unusedSimpArgs false
namespace Go.Proofs.YthdgllldpfeelaaGreatDoor
open Go
def notN (name : ByteArray) (f : FileT) : Bool := !(sEq f.1 name)
def ndL (name data : ByteArray) (gone : Bool) : List FileT := if gone then [] else [(name, data)]
def wP (A B : List FileT) (name data : ByteArray) (gone : Bool) (room : Int) (i : Nat) : Bool × Int × Int × List FileT :=
  if i ≤ A.length then (false, (i : Int), room, A.take i) else (!gone, (i : Int), room, A ++ ndL name data gone ++ (B.take (i - A.length)).filter (notN name))
theorem filter_snoc (B : List FileT) (name : ByteArray) (j : Nat) (hj : j < B.length) : (B.take (j + 1)).filter (notN name) = (B.take j).filter (notN name) ++ (if sEq B[j].1 name then [] else [B[j]]) := by
  rw [List.take_succ_eq_append_getElem hj, List.filter_append]
  congr 1
  simp only [List.filter_cons, List.filter_nil, notN]
  by_cases h : sEq B[j].1 name = true
  · simp [h]
  · simp [h]
/-- A new list of files: one has bytes, or is no more. -/
theorem with_ok {A B : List FileT} {name data : ByteArray} {gone : Bool} {room : Int} (hA : ∀ a ∈ A, sLess a.1 name = true) (hB : ∀ b ∈ B, sLess b.1 name = false) (hl : A.length + B.length ≤ 100) :
    ref08_Store_with 1000 (name, data, gone, room, A ++ B) = some (room, A ++ ndL name data gone ++ B.filter (notN name)) := by
  have ap : ∀ (x y : List FileT), x.length ≤ 300 → y.length ≤ 5 → appOk x y 32 := fun x y h1 h2 => by unfold appOk; omega
  have hnl : (ndL name data gone).length ≤ 1 := by unfold ndL; split <;> simp
  have hfl : ∀ j, ((B.take j).filter (notN name)).length ≤ 100 := fun j => by
    have h1 := List.length_filter_le (notN name) (B.take j)
    rw [List.length_take] at h1; omega
  have hin : ∀ i, i < A.length + B.length → inR (i : Int) (llen (A ++ B)) := fun i hi => ⟨by omega, by unfold llen; rw [List.length_append]; omega⟩
  have hlt : ∀ i, i < A.length + B.length → ilt (i : Int) (llen (A ++ B)) = true := fun i hi => ilt_t (by unfold llen; rw [List.length_append]; omega)
  unfold ref08_Store_with
  refine bind_of (a := (if B.isEmpty then false else !gone, room, A ++ (if B.isEmpty then [] else ndL name data gone) ++ B.filter (notN name))) ?_ ?_
  · have s0 : ((false, 0, room, []) : Bool × Int × Int × List FileT) = wP A B name data gone room 0 := by unfold wP; rw [if_pos (by omega)]; rfl
    simp only [s0]
    refine loopK_run (wP A B name data gone room) (A.length + B.length) _ 1000 ?_ ?_ (by omega)
    · intro i hi
      have wi : WK .i64 ((i : Int) + 1) = ((i + 1 : Nat) : Int) := by rw [wk_i64 (by omega) (by omega)]; omega
      by_cases h1 : i < A.length
      · have ea : at_ T5 (A ++ B) (i : Int) = A[i] := by
          have : at_ T5 (A ++ B) (i : Int) = (A ++ B)[i]'(by rw [List.length_append]; omega) := at_nat (by rw [List.length_append]; omega)
          rw [this, List.getElem_append_left h1]
        have hs := hA A[i] (List.getElem_mem h1)
        have e1 : wP A B name data gone room i = (false, (i : Int), room, A.take i) := by unfold wP; rw [if_pos (by omega)]
        have e2 : wP A B name data gone room (i + 1) = (false, ((i + 1 : Nat) : Int), room, A.take (i + 1)) := by unfold wP; rw [if_pos (by omega)]
        rw [e1, e2]
        simp only [hlt i hi, condO_true, guardO_pos (hin i hi), ea, hs, Bool.not_true, Bool.not_false, condO_false, wi]
        have : (condO (!gone) (some (false, room, A.take i)) (some (false, room, A.take i)) : Option (Bool × Int × List FileT)) = some (false, room, A.take i) := by cases gone <;> rfl
        rw [this]
        simp only [Option.bind_some, sEq_f (sl_ne hs), Bool.not_false, condO_true]
        rw [guardO_pos (ap _ _ (by rw [List.length_take]; omega) (by simp)), List.take_succ_eq_append_getElem h1]
      · have hj : i - A.length < B.length := by omega
        have ea : at_ T5 (A ++ B) (i : Int) = B[i - A.length] := by
          have : at_ T5 (A ++ B) (i : Int) = (A ++ B)[i]'(by rw [List.length_append]; omega) := at_nat (by rw [List.length_append]; omega)
          rw [this, List.getElem_append_right (by omega)]
        have hs := hB B[i - A.length] (List.getElem_mem hj)
        have e2 : wP A B name data gone room (i + 1) = (!gone, ((i + 1 : Nat) : Int), room, A ++ ndL name data gone ++ ((B.take (i - A.length)).filter (notN name) ++ (if sEq (B[i - A.length]).1 name then [] else [B[i - A.length]]))) := by
          unfold wP; rw [if_neg (by omega), show i + 1 - A.length = i - A.length + 1 by omega, filter_snoc B name _ hj]
        rw [e2]
        have put : ∀ h : Bool × Int × Int × List FileT, h = wP A B name data gone room i → (condO (!h.1) (condO (!gone) (condO (!false) (guardO ((appOk h.2.2.2 ([(name, data)] : List (ByteArray × ByteArray)) 32)) (some ((true, h.2.2.1, (h.2.2.2 ++ ([(name, data)] : List (ByteArray × ByteArray))))))) (some ((h.1, h.2.2.1, h.2.2.2)))) (some ((h.1, h.2.2.1, h.2.2.2)))) (some ((h.1, h.2.2.1, h.2.2.2))) : Option (Bool × Int × (List (ByteArray × ByteArray)))) = some (!gone, room, A ++ ndL name data gone ++ (B.take (i - A.length)).filter (notN name)) := by
          rintro _ rfl
          unfold wP
          by_cases h2 : i ≤ A.length
          · obtain rfl : i = A.length := by omega
            rw [if_pos (by omega), List.take_length, Nat.sub_self]
            cases gone
            · simp only [Bool.not_false, condO_true]
              rw [guardO_pos (ap _ _ (by omega) (by simp))]
              simp [ndL]
            · simp [ndL]
          · rw [if_neg h2]
            cases gone <;> rfl
        have hix : (wP A B name data gone room i).2.1 = (i : Int) := by unfold wP; split <;> rfl
        simp only [hix, hlt i hi, condO_true, guardO_pos (hin i hi), ea, hs, wi]
        rw [put _ rfl]
        simp only [Option.bind_some]
        cases hse : sEq (B[i - A.length]).1 name with
        | true =>
          simp only [Bool.not_true, condO_false, if_true, List.append_nil]
        | false =>
          simp only [Bool.not_false, condO_true, Bool.false_eq_true, if_false]
          have := hfl (i - A.length)
          rw [guardO_pos (ap _ _ (by rw [List.length_append, List.length_append]; omega) (by simp)), List.append_assoc]
    · have hend : ilt ((A.length + B.length : Nat) : Int) (llen (A ++ B)) = false := ilt_f (by unfold llen; rw [List.length_append]; omega)
      unfold wP
      cases B with
      | nil =>
        rw [if_pos (by simp)]
        simp only [List.length_nil, Nat.add_zero] at hend ⊢
        simp only [hend, condO_false, List.take_length]
        simp
      | cons b B' =>
        rw [if_neg (by simp)]
        simp only [hend, condO_false, Nat.add_sub_cancel_left, List.take_length]
        rfl
  · cases B with
    | nil =>
      cases gone
      · simp only [List.isEmpty_nil, if_true, Bool.not_false, condO_true, List.filter_nil, List.append_nil]
        rw [guardO_pos (ap _ _ (by omega) (by simp))]
        simp [ndL]
      · simp [ndL]
    | cons b B' =>
      cases gone <;> simp [ndL]
/-! ### what is found -/
theorem sfind_ok {name : ByteArray} {room : Int} {A B : List FileT} {d : ByteArray} (hA : ∀ a ∈ A, a.1 ≠ name) (hl : A.length + B.length ≤ 100) : ref08_Store_find 1000 (name, room, A ++ (name, d) :: B) = some (A.length : Int) := by
  unfold ref08_Store_find
  refine bind_of (a := .inl (A.length : Int)) ?_ rfl
  have hlen : (A ++ (name, d) :: B).length = A.length + B.length + 1 := by rw [List.length_append, List.length_cons]; omega
  refine loopK_run (fun i : Nat => (i : Int)) A.length _ 1000 ?_ ?_ (by omega)
  · intro i hi
    have ea : at_ T5 (A ++ (name, d) :: B) (i : Int) = A[i] := by
      have : at_ T5 (A ++ (name, d) :: B) (i : Int) = (A ++ (name, d) :: B)[i]'(by omega) := at_nat (by omega)
      rw [this, List.getElem_append_left hi]
    have hin : inR (i : Int) (llen (A ++ (name, d) :: B)) := ⟨by omega, by unfold llen; omega⟩
    simp only [ilt_t (show (i : Int) < llen (A ++ (name, d) :: B) by unfold llen; omega), condO_true, guardO_pos hin, ea, sEq_f (hA _ (List.getElem_mem hi)), condO_false]
    rw [wk_i64 (by omega) (by omega)]; rfl
  · have ea : at_ T5 (A ++ (name, d) :: B) (A.length : Int) = (name, d) := by
      have : at_ T5 (A ++ (name, d) :: B) (A.length : Int) = (A ++ (name, d) :: B)[A.length]'(by omega) := at_nat (by omega)
      rw [this, List.getElem_append_right (by omega)]
      simp
    have hin : inR (A.length : Int) (llen (A ++ (name, d) :: B)) := ⟨by omega, by unfold llen; omega⟩
    simp only [ilt_t (show (A.length : Int) < llen (A ++ (name, d) :: B) by unfold llen; omega), condO_true, guardO_pos hin, ea, sEq_self]
theorem sfind_none {name : ByteArray} {room : Int} {A : List FileT} (hA : ∀ a ∈ A, a.1 ≠ name) (hl : A.length ≤ 100) : ref08_Store_find 1000 (name, room, A) = some (-1) := by
  unfold ref08_Store_find
  refine bind_of (a := .inr ()) ?_ rfl
  refine loopK_run (fun i : Nat => (i : Int)) A.length _ 1000 ?_ ?_ (by omega)
  · intro i hi
    have ea : at_ T5 A (i : Int) = A[i] := at_nat hi
    have hin : inR (i : Int) (llen A) := ⟨by omega, by unfold llen; omega⟩
    simp only [ilt_t (show (i : Int) < llen A by unfold llen; omega), condO_true, guardO_pos hin, ea, sEq_f (hA _ (List.getElem_mem hi)), condO_false]
    rw [wk_i64 (by omega) (by omega)]; rfl
  · simp only [ilt_f (show llen A ≤ (A.length : Int) by unfold llen; omega), condO_false]
end Go.Proofs.YthdgllldpfeelaaGreatDoor
/- The document's store takes changes, one by one. No condition. -/
set_option linter.unusedVariables false
set_option linter.unusedSimpArgs false
namespace Go.Proofs.YthdgllldpfeelaaGreatDoor
open Go
structure NmOk (n : ByteArray) : Prop where
  ok : ref08_Name 1000 n = some true
theorem nm_ok : ∀ j : Fin 8, ∀ b : Bool, ref08_Name 1000 (nmJ j.val b) = some true := by decide +kernel
def SmF (F : List FileT) : Prop := F.length ≤ 31 ∧ ∀ f ∈ F, f.2.size ≤ 100
/-- A change done. -/
def StepO (F : List FileT) (o : OpT) (G : List FileT) (c : Nat) : Prop :=
  SmF G ∧ (ref08_Store_one 1000 (o.1, o.2.1, o.2.2.1, o.2.2.2, 500, F) = some (.inr ((c : Int), 0, 500, G)) ∨ (G = F ∧ c = 0 ∧ ref08_Store_one 1000 (o.1, o.2.1, o.2.2.1, o.2.2.2, 500, F) = some (.inl (0, 0))))
inductive Ex : List FileT → List OpT → List FileT → Nat → Prop
  | nil (F : List FileT) : Ex F [] F 0
  | cons {F G H : List FileT} {o : OpT} {ops : List OpT} {c d : Nat} (s : StepO F o G c) (r : Ex G ops H d) : Ex F (o :: ops) H (c + d)
theorem Ex.app {F G H : List FileT} {a b : List OpT} {c d : Nat} (h : Ex F a G c) (k : Ex G b H d) : Ex F (a ++ b) H (c + d) := by
  induction h with
  | nil F => rw [Nat.zero_add]; exact k
  | cons s r ih => rw [List.cons_append, Nat.add_assoc]; exact .cons s (ih k)
theorem Ex.one {F G : List FileT} {o : OpT} {c : Nat} (s : StepO F o G c) : Ex F [o] G c := Ex.cons s (.nil G)
theorem need_ok {n : Nat} (h : n ≤ 250) : (guardO ((nz 256)) (condO (igt (Int.tmod (n : Int) 256) 0) (some ((WK .i64 ((WK .i64 (Int.tdiv (n : Int) 256)) + 1)))) (some ((WK .i64 (Int.tdiv (n : Int) 256))))) : Option Int) = some (if n = 0 then 0 else 1) := by
  have e1 : Int.tmod (n : Int) 256 = (n : Int) := by rw [Int.tmod_eq_emod_of_nonneg (by omega)]; omega
  have e2 : Int.tdiv (n : Int) 256 = 0 := by rw [Int.tdiv_eq_ediv_of_nonneg (by omega)]; omega
  rw [guardO_pos (by decide), e1, e2]
  by_cases h0 : n = 0
  · subst h0; rw [igt_f (by omega), condO_false, if_pos rfl]; rfl
  · rw [igt_t (by omega), condO_true, if_neg h0]; rfl
theorem div0 {n : Nat} (h : n ≤ 250) : WK .i64 (Int.tdiv (n : Int) 256) = 0 := by
  have e2 : Int.tdiv (n : Int) 256 = 0 := by rw [Int.tdiv_eq_ediv_of_nonneg (by omega)]; omega
  rw [e2]; rfl
theorem free_ok {F : List FileT} (h : SmF F) : ∃ v, ref08_Store_Free 1000 (500, F) = some v ∧ 0 ≤ v := by
  have hl := h.1
  unfold ref08_Store_Free
  refine bind_inv (I := fun n (h : Int × Int) => ∃ i : Nat, h.2 = (i : Int) ∧ n + i = F.length ∧ 500 - (i : Int) ≤ h.1 ∧ h.1 ≤ 500) (Q := fun e => 0 ≤ e) (P := fun e => 0 ≤ e) F.length (by omega) ⟨0, rfl, by omega, by omega, by omega⟩ ?_ (fun e he => ⟨e, rfl, he⟩)
  rintro n ⟨v, ix⟩ ⟨i, hix, hn, hv, hv2⟩
  simp only at hix hv hv2
  subst hix
  by_cases hi : i < F.length
  · have ea : at_ T5 F (i : Int) = F[i] := at_nat hi
    have hin : inR (i : Int) (llen F) := ⟨by omega, by unfold llen; omega⟩
    have hs := h.2 F[i] (List.getElem_mem hi)
    have hnz : nz (256 : Int) := by decide
    simp only [ilt_t (show (i : Int) < llen F by unfold llen; omega), condO_true, guardO_pos hin, ea]
    rw [guardO_pos hnz]
    have := need_ok (n := F[i].2.size) (by omega)
    rw [show (blen F[i].2) = (F[i].2.size : Int) from rfl, this]
    simp only [Option.bind_some]
    rw [wk_i64 (x := (i : Int) + 1) (by omega) (by omega), wk_i64 (by split <;> omega) (by split <;> omega)]
    exact .on (n - 1) (by omega) ⟨i + 1, rfl, by omega, by simp only; split <;> omega, by simp only; split <;> omega⟩
  · simp only [ilt_f (show llen F ≤ (i : Int) by unfold llen; omega), condO_false]
    exact .out (by omega)
section
variable {A R : List FileT} {name a b : ByteArray}
structure At0 (A R : List FileT) (name : ByteArray) : Prop where
  nm : ref08_Name 1000 name = some true
  lo : ∀ x ∈ A, sLess x.1 name = true
  hi : ∀ r ∈ R, sLess name r.1 = true
  len : A.length + R.length ≤ 29
  sz : ∀ f ∈ A ++ R, f.2.size ≤ 100
theorem At0.neA (x : At0 A R name) : ∀ f ∈ A, f.1 ≠ name := fun f hf => sl_ne (x.lo f hf)
theorem At0.fR (x : At0 A R name) : R.filter (notN name) = R := List.filter_eq_self.2 (fun f hf => by unfold notN; rw [sEq_f (sl_ne (x.hi f hf)).symm]; rfl)
theorem At0.hB (x : At0 A R name) (d : ByteArray) : ∀ f ∈ (name, d) :: R, sLess f.1 name = false := fun f hf => by
  rcases List.mem_cons.1 hf with rfl | hf
  · exact sl_irrefl _
  · exact sl_asymm (x.hi f hf)
theorem At0.with1 (x : At0 A R name) (d data : ByteArray) : ref08_Store_with 1000 (name, data, false, 500, A ++ (name, d) :: R) = some (500, A ++ (name, data) :: R) := by
  have hl := x.len
  rw [with_ok x.lo (x.hB d) (by simp only [List.length_cons]; omega)]
  simp only [ndL, Bool.false_eq_true, if_false, List.filter_cons, notN, sEq_self, Bool.not_true]
  have := x.fR
  rw [this, List.append_assoc]; rfl
theorem At0.with0 (x : At0 A R name) (d : ByteArray) : ref08_Store_with 1000 (name, str0, true, 500, A ++ (name, d) :: R) = some (500, A ++ R) := by
  have hl := x.len
  rw [with_ok x.lo (x.hB d) (by simp only [List.length_cons]; omega)]
  simp only [ndL, if_true, List.filter_cons, notN, sEq_self, Bool.not_true, Bool.false_eq_true, if_false]
  have := x.fR
  rw [this, List.append_nil]
theorem At0.withN (x : At0 A R name) (data : ByteArray) : ref08_Store_with 1000 (name, data, false, 500, A ++ R) = some (500, A ++ (name, data) :: R) := by
  have hl := x.len
  rw [with_ok x.lo (fun f hf => sl_asymm (x.hi f hf)) (by omega), x.fR]
  simp only [ndL, Bool.false_eq_true, if_false, List.append_assoc]; rfl
theorem At0.sm (x : At0 A R name) {d : ByteArray} (hd : d.size ≤ 100) : SmF (A ++ (name, d) :: R) := by
  have hl := x.len
  refine ⟨by rw [List.length_append, List.length_cons]; omega, fun f hf => ?_⟩
  rcases List.mem_append.1 hf with hf | hf
  · exact x.sz f (List.mem_append_left _ hf)
  · rcases List.mem_cons.1 hf with rfl | hf
    · exact hd
    · exact x.sz f (List.mem_append_right _ hf)
theorem At0.sm0 (x : At0 A R name) : SmF (A ++ R) := ⟨by have := x.len; rw [List.length_append]; omega, x.sz⟩
theorem At0.atN (x : At0 A R name) (d : ByteArray) : at_ T5 (A ++ (name, d) :: R) (A.length : Int) = (name, d) := by
  have : at_ T5 (A ++ (name, d) :: R) (A.length : Int) = (A ++ (name, d) :: R)[A.length]'(by rw [List.length_append, List.length_cons]; omega) := at_nat (by rw [List.length_append, List.length_cons]; omega)
  rw [this, List.getElem_append_right (by omega)]
  simp
theorem At0.make (x : At0 A R name) : StepO (A ++ R) (1, name, str0, 0) (A ++ (name, str0) :: R) 0 := by
  have hl := x.len
  refine ⟨x.sm (by decide), .inl ?_⟩
  unfold ref08_Store_one
  simp only [x.nm, Option.bind_some, Bool.not_true, condO_false]
  rw [ilt_f (by decide), condO_false, igt_f (by decide), condO_false, sfind_none (fun f hf => by
    rcases List.mem_append.1 hf with hf | hf
    · exact x.neA f hf
    · exact (sl_ne (x.hi f hf)).symm) (by rw [List.length_append]; omega)]
  simp only [Option.bind_some]
  rw [ieq_t rfl, condO_true, ige_f (by decide), condO_false, ige_f (by unfold llen; rw [List.length_append]; omega), condO_false, x.withN]
  rfl
/-- The way to a file that is there. -/
theorem At0.way (x : At0 A R name) (d : ByteArray) : ref08_Store_find 1000 (name, 500, A ++ (name, d) :: R) = some (A.length : Int) ∧ inR (A.length : Int) (llen (A ++ (name, d) :: R)) := by
  have hl := x.len
  exact ⟨sfind_ok x.neA (by omega), ⟨by omega, by unfold llen; rw [List.length_append, List.length_cons]; omega⟩⟩
theorem At0.append (x : At0 A R name) {c : ByteArray} (hc : c ≠ str0) (hz : 0 < c.size) (hs : a.size + c.size ≤ 100) : StepO (A ++ (name, a) :: R) (2, name, c, 0) (A ++ (name, a ++ c) :: R) 1 := by
  obtain ⟨w1, w2⟩ := x.way a
  refine ⟨x.sm (by rw [size_app]; omega), .inl ?_⟩
  have hnz : nz (256 : Int) := by decide
  unfold ref08_Store_one
  simp only [x.nm, Option.bind_some, Bool.not_true, condO_false]
  rw [ilt_f (by decide), condO_false, igt_f (by decide), condO_false, w1]
  simp only [Option.bind_some]
  rw [ieq_f (show (2 : Int) ≠ 1 by decide), condO_false, ilt_f (by omega), condO_false, guardO_pos w2, ieq_t rfl, condO_true, sEq_f hc, condO_false, x.atN]
  simp only
  rw [guardO_pos (by unfold catOk; omega), guardO_pos hnz, x.with1]
  simp only [Option.bind_some]
  have e : WK .i64 (blen a + blen c) = ((a.size + c.size : Nat) : Int) := by unfold blen; rw [wk_i64 (by omega) (by omega)]; omega
  rw [guardO_pos hnz, e, need_ok (by omega), if_neg (by omega)]
  simp only [Option.bind_some]
  rw [show blen a = (a.size : Int) from rfl, div0 (by omega)]
  rfl
theorem At0.trim (x : At0 A R name) {n : Nat} (hn : n < a.size) (hs : a.size ≤ 100) : StepO (A ++ (name, a) :: R) (3, name, str0, (n : Int)) (A ++ (name, scut a 0 (n : Int)) :: R) 1 := by
  obtain ⟨w1, w2⟩ := x.way a
  have hnz : nz (256 : Int) := by decide
  refine ⟨x.sm ?_, .inl ?_⟩
  · simp only [scut, ByteArray.size_extract]; omega
  unfold ref08_Store_one
  simp only [x.nm, Option.bind_some, Bool.not_true, condO_false]
  rw [ilt_f (by decide), condO_false, igt_f (by decide), condO_false, w1]
  simp only [Option.bind_some]
  rw [ieq_f (show (3 : Int) ≠ 1 by decide), condO_false, ilt_f (by omega), condO_false, guardO_pos w2, ieq_f (show (3 : Int) ≠ 2 by decide), condO_false, ieq_t rfl, condO_true, x.atN]
  simp only
  have hb : blen a = (a.size : Int) := rfl
  rw [hb, ilt_f (by omega), condO_false, igt_f (by omega), condO_false, ieq_f (by omega), condO_false, guardO_pos ⟨by decide, by omega, by omega⟩, guardO_pos hnz, x.with1]
  simp only [Option.bind_some]
  rw [guardO_pos hnz, need_ok (by omega), if_neg (by omega)]
  simp only [Option.bind_some]
  rw [div0 (by omega)]
  rfl
theorem At0.drop (x : At0 A R name) : StepO (A ++ (name, str0) :: R) (4, name, str0, 0) (A ++ R) 0 := by
  obtain ⟨w1, w2⟩ := x.way str0
  refine ⟨x.sm0, .inl ?_⟩
  unfold ref08_Store_one
  simp only [x.nm, Option.bind_some, Bool.not_true, condO_false]
  rw [ilt_f (by decide), condO_false, igt_f (by decide), condO_false, w1]
  simp only [Option.bind_some]
  rw [ieq_f (show (4 : Int) ≠ 1 by decide), condO_false, ilt_f (by omega), condO_false, guardO_pos w2, ieq_f (show (4 : Int) ≠ 2 by decide), condO_false, ieq_f (show (4 : Int) ≠ 3 by decide), condO_false, ieq_t rfl, condO_true, x.atN]
  simp only
  rw [igt_f (show blen str0 ≤ 0 by decide), condO_false, x.with0]
  rfl
theorem At0.set (x : At0 A R name) (hs : a.size ≤ 100) (hb : b.size ≤ 100) : ∃ c ≤ 1, StepO (A ++ (name, a) :: R) (5, name, b, 0) (A ++ (name, b) :: R) c := by
  obtain ⟨w1, w2⟩ := x.way a
  have hnz : nz (256 : Int) := by decide
  have ha' : blen a = (a.size : Int) := rfl
  have hb' : blen b = (b.size : Int) := rfl
  have key : ∃ c : Nat, c ≤ 1 ∧ ref08_Store_one 1000 (5, name, b, 0, 500, A ++ (name, a) :: R) = some (.inr ((c : Int), 0, 500, A ++ (name, b) :: R)) := by
    unfold ref08_Store_one
    simp only [x.nm, Option.bind_some, Bool.not_true, condO_false]
    rw [ilt_f (by decide), condO_false, igt_f (by decide), condO_false, w1]
    simp only [Option.bind_some]
    rw [ieq_f (show (5 : Int) ≠ 1 by decide), condO_false, ilt_f (by omega), condO_false, guardO_pos w2, ieq_f (show (5 : Int) ≠ 2 by decide), condO_false, ieq_f (show (5 : Int) ≠ 3 by decide), condO_false, ieq_f (show (5 : Int) ≠ 4 by decide), condO_false, x.atN]
    simp only [ha', hb']
    rw [guardO_pos hnz, need_ok (by omega), need_ok (n := b.size) (by omega)]
    simp only [Option.bind_some, x.with1]
    by_cases h1 : a.size = 0
    · by_cases h2 : b.size = 0
      · rw [if_pos h1, if_pos h2, igt_f (by decide), condO_false, guardO_pos hnz]
        exact ⟨0, by omega, rfl⟩
      · rw [if_pos h1, if_neg h2, igt_t (by decide), condO_true, guardO_pos hnz, guardO_pos hnz]
        exact ⟨1, by omega, rfl⟩
    · by_cases h2 : b.size = 0
      · rw [if_neg h1, if_pos h2, igt_f (by decide), condO_false, guardO_pos hnz]
        exact ⟨1, by omega, rfl⟩
      · rw [if_neg h1, if_neg h2, igt_f (by decide), condO_false, guardO_pos hnz]
        exact ⟨1, by omega, rfl⟩
  obtain ⟨c, hc, e⟩ := key
  exact ⟨c, hc, x.sm hb, .inl e⟩
end
end Go.Proofs.YthdgllldpfeelaaGreatDoor
